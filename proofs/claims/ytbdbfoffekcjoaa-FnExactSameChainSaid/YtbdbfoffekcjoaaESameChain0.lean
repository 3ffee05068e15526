import Derived.Test.YtbdbfoffekcjoaaDSameChain0
import Derived.Test.YtbdbfoffekcjoaaProg
import Derived.Test.YtbdbfoffekcjoaaRow
import Derived.KernelRfl
namespace Go.Abs
open Go.Proofs
set_option maxRecDepth 100000
set_option linter.unusedVariables false

noncomputable abbrev P : Program := Try.prog
noncomputable abbrev ty : Nat → Option TyI := tyOf P
def bodyOf (f : Func) : Code := match f.body with | some c => c | none => .skip
theorem follows : P.follows .mixedOrders = true := by kernel_rfl

abbrev laws_szStandardsp : List Sp := [.v true (.pair .str (.pair (.int .i64) (.pair (.pair (.pair (.int .i64) (.int .i64)) (.pair (.int .i64) (.int .i64))) (.pair (.pair (.int .i64) (.int .i64)) (.pair (.int .i64) (.int .i64)))))), .v false (.int .i64)]
abbrev laws_szStandardbs : List (Bs × Bool) := []
abbrev laws_szStandardrs : List (Bool × List Rp) := [(false, [.v false (.int .i64)])]
noncomputable def laws_szStandardkp : Keep := { loop := fun id => match id with | _ => [], join := fun id => match id with | _ => none }
noncomputable def laws_szStandardc : Code := bodyOf Go.Proofs.Try.f84
noncomputable def laws_szStandardF (n : Nat) : Fun := { id := 84, sp := laws_szStandardsp, bs := laws_szStandardbs, rs := laws_szStandardrs, f := fun x y => laws_szStandard n x.1 x.2.1 }

theorem laws_szStandard_eq (n : Nat) (a0 : (ByteArray) × ((Int) × ((((Int) × (Int)) × ((Int) × (Int))) × (((Int) × (Int)) × ((Int) × (Int)))))) (a1 : Int) : runBody ([]) ty 13 n laws_szStandardkp laws_szStandardc Go.Proofs.Try.f84.results.toList laws_szStandardrs laws_szStandardsp laws_szStandardbs (a0, (a1, ())) () = laws_szStandard n a0 a1 := by
  have h : runBody ([]) ty 13 n laws_szStandardkp laws_szStandardc Go.Proofs.Try.f84.results.toList laws_szStandardrs laws_szStandardsp laws_szStandardbs (a0, (a1, ())) () = laws_szStandard_t n a0 a1 := by kernel_rfl
  rw [h]
  rfl

theorem laws_szStandard_ok (n : Nat) : FunOk P (laws_szStandardF n) :=
  funOk_mk (C := []) (N := 13) (kp := laws_szStandardkp) (c := laws_szStandardc) (n := n) (G := fun x y => laws_szStandard n x.1 x.2.1) follows (AllOk.mem (trivial : AllOk P ([]))) (by kernel_rfl : P.funcs[84]? = some Go.Proofs.Try.f84) (by kernel_rfl) (by kernel_rfl) (by kernel_rfl)
    (fun x y => laws_szStandard_eq n x.1 x.2.1) (fun _ _ => map_same (fun _ => rfl) _) (fun _ _ _ _ => rfl)

abbrev laws_szStandardSsp : List Sp := [.v false (.list (.pair .str (.pair (.int .i64) (.pair (.pair (.pair (.int .i64) (.int .i64)) (.pair (.int .i64) (.int .i64))) (.pair (.pair (.int .i64) (.int .i64)) (.pair (.int .i64) (.int .i64))))))), .v false (.int .i64)]
abbrev laws_szStandardSbs : List (Bs × Bool) := []
abbrev laws_szStandardSrs : List (Bool × List Rp) := [(false, [.v false (.int .i64)])]
noncomputable def laws_szStandardSkp : Keep := { loop := fun id => match id with | 5 => [5, 1, 0] | _ => [], join := fun id => match id with | _ => none }
noncomputable def laws_szStandardSc : Code := bodyOf Go.Proofs.Try.f26
noncomputable def laws_szStandardSF (n : Nat) : Fun := { id := 26, sp := laws_szStandardSsp, bs := laws_szStandardSbs, rs := laws_szStandardSrs, f := fun x y => laws_szStandardS n x.1 x.2.1 }

theorem laws_szStandardS_l5_eq (n : Nat) : ∀ (k : Nat) (v5 : Int) (v1 : Int) (v0 : List ((ByteArray) × ((Int) × ((((Int) × (Int)) × ((Int) × (Int))) × (((Int) × (Int)) × ((Int) × (Int))))))), iter (interp ([laws_szStandardF n]) ty 27 0 n laws_szStandardSkp (codeAt laws_szStandardSc [1, 1, 1, 0, 1, 0, 0])) (canon 0 (laws_szStandardSkp.loop 5)) (kAt ([laws_szStandardF n]) ty 27 0 n laws_szStandardSkp laws_szStandardSc [1, 1, 1, 0, 1, 0] [] (ending ty 0 Go.Proofs.Try.f26.results.toList laws_szStandardSrs laws_szStandardSbs)) k { env := [(5, .one (.sc (.int .i64 v5))), (1, .one (.sc (.int .i64 v1))), (0, .one (.list true (.pair .str (.pair (.int .i64) (.pair (.pair (.pair (.int .i64) (.int .i64)) (.pair (.int .i64) (.int .i64))) (.pair (.pair (.int .i64) (.int .i64)) (.pair (.int .i64) (.int .i64)))))) v0))], bx := [], nx := 0 } = laws_szStandardS_l5 n k v5 v1 v0
  | 0, _, _, _ => by kernel_rfl
  | k + 1, v5, v1, v0 => by
    have h : iter (interp ([laws_szStandardF n]) ty 27 0 n laws_szStandardSkp (codeAt laws_szStandardSc [1, 1, 1, 0, 1, 0, 0])) (canon 0 (laws_szStandardSkp.loop 5)) (kAt ([laws_szStandardF n]) ty 27 0 n laws_szStandardSkp laws_szStandardSc [1, 1, 1, 0, 1, 0] [] (ending ty 0 Go.Proofs.Try.f26.results.toList laws_szStandardSrs laws_szStandardSbs)) (k + 1) { env := [(5, .one (.sc (.int .i64 v5))), (1, .one (.sc (.int .i64 v1))), (0, .one (.list true (.pair .str (.pair (.int .i64) (.pair (.pair (.pair (.int .i64) (.int .i64)) (.pair (.int .i64) (.int .i64))) (.pair (.pair (.int .i64) (.int .i64)) (.pair (.int .i64) (.int .i64)))))) v0))], bx := [], nx := 0 } = laws_szStandardS_t5 n (fun v5 v1 v0 => iter (interp ([laws_szStandardF n]) ty 27 0 n laws_szStandardSkp (codeAt laws_szStandardSc [1, 1, 1, 0, 1, 0, 0])) (canon 0 (laws_szStandardSkp.loop 5)) (kAt ([laws_szStandardF n]) ty 27 0 n laws_szStandardSkp laws_szStandardSc [1, 1, 1, 0, 1, 0] [] (ending ty 0 Go.Proofs.Try.f26.results.toList laws_szStandardSrs laws_szStandardSbs)) k { env := [(5, .one (.sc (.int .i64 v5))), (1, .one (.sc (.int .i64 v1))), (0, .one (.list true (.pair .str (.pair (.int .i64) (.pair (.pair (.pair (.int .i64) (.int .i64)) (.pair (.int .i64) (.int .i64))) (.pair (.pair (.int .i64) (.int .i64)) (.pair (.int .i64) (.int .i64)))))) v0))], bx := [], nx := 0 }) v5 v1 v0 := by kernel_rfl
    rw [h]
    have e := congrArg (fun g => laws_szStandardS_t5 n g v5 v1 v0) (funext fun v5 => funext fun v1 => funext fun v0 => laws_szStandardS_l5_eq n k v5 v1 v0)
    exact e

theorem laws_szStandardS_eq (n : Nat) (a0 : List ((ByteArray) × ((Int) × ((((Int) × (Int)) × ((Int) × (Int))) × (((Int) × (Int)) × ((Int) × (Int))))))) (a1 : Int) : runBody ([laws_szStandardF n]) ty 27 n laws_szStandardSkp laws_szStandardSc Go.Proofs.Try.f26.results.toList laws_szStandardSrs laws_szStandardSsp laws_szStandardSbs (a0, (a1, ())) () = laws_szStandardS n a0 a1 := by
  have h : runBody ([laws_szStandardF n]) ty 27 n laws_szStandardSkp laws_szStandardSc Go.Proofs.Try.f26.results.toList laws_szStandardSrs laws_szStandardSsp laws_szStandardSbs (a0, (a1, ())) () = laws_szStandardS_t n (fun k v5 v1 v0 => iter (interp ([laws_szStandardF n]) ty 27 0 n laws_szStandardSkp (codeAt laws_szStandardSc [1, 1, 1, 0, 1, 0, 0])) (canon 0 (laws_szStandardSkp.loop 5)) (kAt ([laws_szStandardF n]) ty 27 0 n laws_szStandardSkp laws_szStandardSc [1, 1, 1, 0, 1, 0] [] (ending ty 0 Go.Proofs.Try.f26.results.toList laws_szStandardSrs laws_szStandardSbs)) k { env := [(5, .one (.sc (.int .i64 v5))), (1, .one (.sc (.int .i64 v1))), (0, .one (.list true (.pair .str (.pair (.int .i64) (.pair (.pair (.pair (.int .i64) (.int .i64)) (.pair (.int .i64) (.int .i64))) (.pair (.pair (.int .i64) (.int .i64)) (.pair (.int .i64) (.int .i64)))))) v0))], bx := [], nx := 0 }) a0 a1 := by kernel_rfl
  rw [h]
  have e := congrArg (fun h5 => laws_szStandardS_t n h5 a0 a1) (funext fun k => funext fun v5 => funext fun v1 => funext fun v0 => laws_szStandardS_l5_eq n k v5 v1 v0)
  exact e

theorem laws_szStandardS_ok (n : Nat) : FunOk P (laws_szStandardSF n) :=
  funOk_mk (C := [laws_szStandardF n]) (N := 27) (kp := laws_szStandardSkp) (c := laws_szStandardSc) (n := n) (G := fun x y => laws_szStandardS n x.1 x.2.1) follows (AllOk.mem (⟨laws_szStandard_ok n, trivial⟩ : AllOk P ([laws_szStandardF n]))) (by kernel_rfl : P.funcs[26]? = some Go.Proofs.Try.f26) (by kernel_rfl) (by kernel_rfl) (by kernel_rfl)
    (fun x y => laws_szStandardS_eq n x.1 x.2.1) (fun _ _ => map_same (fun _ => rfl) _) (fun _ _ _ _ => rfl)

abbrev laws_toFracsp : List Sp := [.v true (.pair (.int .i64) (.int .i64))]
abbrev laws_toFracbs : List (Bs × Bool) := []
abbrev laws_toFracrs : List (Bool × List Rp) := [(true, [.v false (.pair (.int .i64) (.int .i64))])]
noncomputable def laws_toFrackp : Keep := { loop := fun id => match id with | _ => [], join := fun id => match id with | _ => none }
noncomputable def laws_toFracc : Code := bodyOf Go.Proofs.Try.f90
noncomputable def laws_toFracF (n : Nat) : Fun := { id := 90, sp := laws_toFracsp, bs := laws_toFracbs, rs := laws_toFracrs, f := fun x y => laws_toFrac n x.1 }

theorem laws_toFrac_eq (n : Nat) (a0 : (Int) × (Int)) : runBody ([]) ty 11 n laws_toFrackp laws_toFracc Go.Proofs.Try.f90.results.toList laws_toFracrs laws_toFracsp laws_toFracbs (a0, ()) () = laws_toFrac n a0 := by
  have h : runBody ([]) ty 11 n laws_toFrackp laws_toFracc Go.Proofs.Try.f90.results.toList laws_toFracrs laws_toFracsp laws_toFracbs (a0, ()) () = laws_toFrac_t n a0 := by kernel_rfl
  rw [h]
  rfl

theorem laws_toFrac_ok (n : Nat) : FunOk P (laws_toFracF n) :=
  funOk_mk (C := []) (N := 11) (kp := laws_toFrackp) (c := laws_toFracc) (n := n) (G := fun x y => laws_toFrac n x.1) follows (AllOk.mem (trivial : AllOk P ([]))) (by kernel_rfl : P.funcs[90]? = some Go.Proofs.Try.f90) (by kernel_rfl) (by kernel_rfl) (by kernel_rfl)
    (fun x y => laws_toFrac_eq n x.1) (fun _ _ => map_same (fun _ => rfl) _) (fun _ _ _ _ => rfl)

abbrev laws_toSpansp : List Sp := [.v true (.pair (.pair (.int .i64) (.int .i64)) (.pair (.int .i64) (.int .i64)))]
abbrev laws_toSpanbs : List (Bs × Bool) := []
abbrev laws_toSpanrs : List (Bool × List Rp) := [(true, [.v false (.pair (.pair (.int .i64) (.int .i64)) (.pair (.int .i64) (.int .i64)))])]
noncomputable def laws_toSpankp : Keep := { loop := fun id => match id with | _ => [], join := fun id => match id with | _ => none }
noncomputable def laws_toSpanc : Code := bodyOf Go.Proofs.Try.f142
noncomputable def laws_toSpanF (n : Nat) : Fun := { id := 142, sp := laws_toSpansp, bs := laws_toSpanbs, rs := laws_toSpanrs, f := fun x y => laws_toSpan n x.1 }

theorem laws_toSpan_eq (n : Nat) (a0 : ((Int) × (Int)) × ((Int) × (Int))) : runBody ([laws_toFracF n]) ty 13 n laws_toSpankp laws_toSpanc Go.Proofs.Try.f142.results.toList laws_toSpanrs laws_toSpansp laws_toSpanbs (a0, ()) () = laws_toSpan n a0 := by
  have h : runBody ([laws_toFracF n]) ty 13 n laws_toSpankp laws_toSpanc Go.Proofs.Try.f142.results.toList laws_toSpanrs laws_toSpansp laws_toSpanbs (a0, ()) () = laws_toSpan_t n a0 := by kernel_rfl
  rw [h]
  rfl

theorem laws_toSpan_ok (n : Nat) : FunOk P (laws_toSpanF n) :=
  funOk_mk (C := [laws_toFracF n]) (N := 13) (kp := laws_toSpankp) (c := laws_toSpanc) (n := n) (G := fun x y => laws_toSpan n x.1) follows (AllOk.mem (⟨laws_toFrac_ok n, trivial⟩ : AllOk P ([laws_toFracF n]))) (by kernel_rfl : P.funcs[142]? = some Go.Proofs.Try.f142) (by kernel_rfl) (by kernel_rfl) (by kernel_rfl)
    (fun x y => laws_toSpan_eq n x.1) (fun _ _ => map_same (fun _ => rfl) _) (fun _ _ _ _ => rfl)

abbrev laws_toStandardsp : List Sp := [.v true (.pair .str (.pair (.int .i64) (.pair (.pair (.pair (.int .i64) (.int .i64)) (.pair (.int .i64) (.int .i64))) (.pair (.pair (.int .i64) (.int .i64)) (.pair (.int .i64) (.int .i64))))))]
abbrev laws_toStandardbs : List (Bs × Bool) := []
abbrev laws_toStandardrs : List (Bool × List Rp) := [(true, [.v false (.pair .str (.pair (.int .i64) (.pair (.pair (.pair (.int .i64) (.int .i64)) (.pair (.int .i64) (.int .i64))) (.pair (.pair (.int .i64) (.int .i64)) (.pair (.int .i64) (.int .i64))))))])]
noncomputable def laws_toStandardkp : Keep := { loop := fun id => match id with | _ => [], join := fun id => match id with | _ => none }
noncomputable def laws_toStandardc : Code := bodyOf Go.Proofs.Try.f85
noncomputable def laws_toStandardF (n : Nat) : Fun := { id := 85, sp := laws_toStandardsp, bs := laws_toStandardbs, rs := laws_toStandardrs, f := fun x y => laws_toStandard n x.1 }

theorem laws_toStandard_eq (n : Nat) (a0 : (ByteArray) × ((Int) × ((((Int) × (Int)) × ((Int) × (Int))) × (((Int) × (Int)) × ((Int) × (Int)))))) : runBody ([laws_toSpanF n, laws_toFracF n]) ty 25 n laws_toStandardkp laws_toStandardc Go.Proofs.Try.f85.results.toList laws_toStandardrs laws_toStandardsp laws_toStandardbs (a0, ()) () = laws_toStandard n a0 := by
  have h : runBody ([laws_toSpanF n, laws_toFracF n]) ty 25 n laws_toStandardkp laws_toStandardc Go.Proofs.Try.f85.results.toList laws_toStandardrs laws_toStandardsp laws_toStandardbs (a0, ()) () = laws_toStandard_t n a0 := by kernel_rfl
  rw [h]
  rfl

theorem laws_toStandard_ok (n : Nat) : FunOk P (laws_toStandardF n) :=
  funOk_mk (C := [laws_toSpanF n, laws_toFracF n]) (N := 25) (kp := laws_toStandardkp) (c := laws_toStandardc) (n := n) (G := fun x y => laws_toStandard n x.1) follows (AllOk.mem (⟨laws_toSpan_ok n, ⟨laws_toFrac_ok n, trivial⟩⟩ : AllOk P ([laws_toSpanF n, laws_toFracF n]))) (by kernel_rfl : P.funcs[85]? = some Go.Proofs.Try.f85) (by kernel_rfl) (by kernel_rfl) (by kernel_rfl)
    (fun x y => laws_toStandard_eq n x.1) (fun _ _ => map_same (fun _ => rfl) _) (fun _ _ _ _ => rfl)

abbrev laws_toStandardSsp : List Sp := [.v false (.list (.pair .str (.pair (.int .i64) (.pair (.pair (.pair (.int .i64) (.int .i64)) (.pair (.int .i64) (.int .i64))) (.pair (.pair (.int .i64) (.int .i64)) (.pair (.int .i64) (.int .i64)))))))]
abbrev laws_toStandardSbs : List (Bs × Bool) := []
abbrev laws_toStandardSrs : List (Bool × List Rp) := [(false, [.new  (.pair .str (.pair (.int .i64) (.pair (.pair (.pair (.int .i64) (.int .i64)) (.pair (.int .i64) (.int .i64))) (.pair (.pair (.int .i64) (.int .i64)) (.pair (.int .i64) (.int .i64))))))])]
noncomputable def laws_toStandardSkp : Keep := { loop := fun id => match id with | 3 => [4, 0, 3] | _ => [], join := fun id => match id with | _ => none }
noncomputable def laws_toStandardSc : Code := bodyOf Go.Proofs.Try.f28
noncomputable def laws_toStandardSF (n : Nat) : Fun := { id := 28, sp := laws_toStandardSsp, bs := laws_toStandardSbs, rs := laws_toStandardSrs, f := fun x y => laws_toStandardS n x.1 }

theorem laws_toStandardS_l3_eq (n : Nat) : ∀ (k : Nat) (v4 : Int) (v0 : List ((ByteArray) × ((Int) × ((((Int) × (Int)) × ((Int) × (Int))) × (((Int) × (Int)) × ((Int) × (Int))))))) (b0 : List ((ByteArray) × ((Int) × ((((Int) × (Int)) × ((Int) × (Int))) × (((Int) × (Int)) × ((Int) × (Int))))))), iter (interp ([laws_toStandardF n]) ty 23 0 n laws_toStandardSkp (codeAt laws_toStandardSc [1, 1, 0, 1, 0, 0])) (canon 0 (laws_toStandardSkp.loop 3)) (kAt ([laws_toStandardF n]) ty 23 0 n laws_toStandardSkp laws_toStandardSc [1, 1, 0, 1, 0] [] (ending ty 0 Go.Proofs.Try.f28.results.toList laws_toStandardSrs laws_toStandardSbs)) k { env := [(4, .one (.sc (.int .i64 v4))), (0, .one (.list true (.pair .str (.pair (.int .i64) (.pair (.pair (.pair (.int .i64) (.int .i64)) (.pair (.int .i64) (.int .i64))) (.pair (.pair (.int .i64) (.int .i64)) (.pair (.int .i64) (.int .i64)))))) v0)), (3, .one (.slice 0 0 none))], bx := [(0, .row 0 (.pair .str (.pair (.int .i64) (.pair (.pair (.pair (.int .i64) (.int .i64)) (.pair (.int .i64) (.int .i64))) (.pair (.pair (.int .i64) (.int .i64)) (.pair (.int .i64) (.int .i64)))))) b0)], nx := 1 } = laws_toStandardS_l3 n k v4 v0 b0
  | 0, _, _, _ => by kernel_rfl
  | k + 1, v4, v0, b0 => by
    have h : iter (interp ([laws_toStandardF n]) ty 23 0 n laws_toStandardSkp (codeAt laws_toStandardSc [1, 1, 0, 1, 0, 0])) (canon 0 (laws_toStandardSkp.loop 3)) (kAt ([laws_toStandardF n]) ty 23 0 n laws_toStandardSkp laws_toStandardSc [1, 1, 0, 1, 0] [] (ending ty 0 Go.Proofs.Try.f28.results.toList laws_toStandardSrs laws_toStandardSbs)) (k + 1) { env := [(4, .one (.sc (.int .i64 v4))), (0, .one (.list true (.pair .str (.pair (.int .i64) (.pair (.pair (.pair (.int .i64) (.int .i64)) (.pair (.int .i64) (.int .i64))) (.pair (.pair (.int .i64) (.int .i64)) (.pair (.int .i64) (.int .i64)))))) v0)), (3, .one (.slice 0 0 none))], bx := [(0, .row 0 (.pair .str (.pair (.int .i64) (.pair (.pair (.pair (.int .i64) (.int .i64)) (.pair (.int .i64) (.int .i64))) (.pair (.pair (.int .i64) (.int .i64)) (.pair (.int .i64) (.int .i64)))))) b0)], nx := 1 } = laws_toStandardS_t3 n (fun v4 v0 b0 => iter (interp ([laws_toStandardF n]) ty 23 0 n laws_toStandardSkp (codeAt laws_toStandardSc [1, 1, 0, 1, 0, 0])) (canon 0 (laws_toStandardSkp.loop 3)) (kAt ([laws_toStandardF n]) ty 23 0 n laws_toStandardSkp laws_toStandardSc [1, 1, 0, 1, 0] [] (ending ty 0 Go.Proofs.Try.f28.results.toList laws_toStandardSrs laws_toStandardSbs)) k { env := [(4, .one (.sc (.int .i64 v4))), (0, .one (.list true (.pair .str (.pair (.int .i64) (.pair (.pair (.pair (.int .i64) (.int .i64)) (.pair (.int .i64) (.int .i64))) (.pair (.pair (.int .i64) (.int .i64)) (.pair (.int .i64) (.int .i64)))))) v0)), (3, .one (.slice 0 0 none))], bx := [(0, .row 0 (.pair .str (.pair (.int .i64) (.pair (.pair (.pair (.int .i64) (.int .i64)) (.pair (.int .i64) (.int .i64))) (.pair (.pair (.int .i64) (.int .i64)) (.pair (.int .i64) (.int .i64)))))) b0)], nx := 1 }) v4 v0 b0 := by kernel_rfl
    rw [h]
    have e := congrArg (fun g => laws_toStandardS_t3 n g v4 v0 b0) (funext fun v4 => funext fun v0 => funext fun b0 => laws_toStandardS_l3_eq n k v4 v0 b0)
    exact e

theorem laws_toStandardS_eq (n : Nat) (a0 : List ((ByteArray) × ((Int) × ((((Int) × (Int)) × ((Int) × (Int))) × (((Int) × (Int)) × ((Int) × (Int))))))) : runBody ([laws_toStandardF n]) ty 23 n laws_toStandardSkp laws_toStandardSc Go.Proofs.Try.f28.results.toList laws_toStandardSrs laws_toStandardSsp laws_toStandardSbs (a0, ()) () = laws_toStandardS n a0 := by
  have h : runBody ([laws_toStandardF n]) ty 23 n laws_toStandardSkp laws_toStandardSc Go.Proofs.Try.f28.results.toList laws_toStandardSrs laws_toStandardSsp laws_toStandardSbs (a0, ()) () = laws_toStandardS_t n (fun k v4 v0 b0 => iter (interp ([laws_toStandardF n]) ty 23 0 n laws_toStandardSkp (codeAt laws_toStandardSc [1, 1, 0, 1, 0, 0])) (canon 0 (laws_toStandardSkp.loop 3)) (kAt ([laws_toStandardF n]) ty 23 0 n laws_toStandardSkp laws_toStandardSc [1, 1, 0, 1, 0] [] (ending ty 0 Go.Proofs.Try.f28.results.toList laws_toStandardSrs laws_toStandardSbs)) k { env := [(4, .one (.sc (.int .i64 v4))), (0, .one (.list true (.pair .str (.pair (.int .i64) (.pair (.pair (.pair (.int .i64) (.int .i64)) (.pair (.int .i64) (.int .i64))) (.pair (.pair (.int .i64) (.int .i64)) (.pair (.int .i64) (.int .i64)))))) v0)), (3, .one (.slice 0 0 none))], bx := [(0, .row 0 (.pair .str (.pair (.int .i64) (.pair (.pair (.pair (.int .i64) (.int .i64)) (.pair (.int .i64) (.int .i64))) (.pair (.pair (.int .i64) (.int .i64)) (.pair (.int .i64) (.int .i64)))))) b0)], nx := 1 }) a0 := by kernel_rfl
  rw [h]
  have e := congrArg (fun h3 => laws_toStandardS_t n h3 a0) (funext fun k => funext fun v4 => funext fun v0 => funext fun b0 => laws_toStandardS_l3_eq n k v4 v0 b0)
  exact e

theorem laws_toStandardS_ok (n : Nat) : FunOk P (laws_toStandardSF n) :=
  funOk_mk (C := [laws_toStandardF n]) (N := 23) (kp := laws_toStandardSkp) (c := laws_toStandardSc) (n := n) (G := fun x y => laws_toStandardS n x.1) follows (AllOk.mem (⟨laws_toStandard_ok n, trivial⟩ : AllOk P ([laws_toStandardF n]))) (by kernel_rfl : P.funcs[28]? = some Go.Proofs.Try.f28) (by kernel_rfl) (by kernel_rfl) (by kernel_rfl)
    (fun x y => laws_toStandardS_eq n x.1) (fun _ _ => map_same (fun _ => rfl) _) (fun _ _ _ _ => rfl)

abbrev spec_SameChainsp : List Sp := [.v false (.list (.pair .str (.pair (.int .i64) (.pair (.pair (.pair (.int .i64) (.int .i64)) (.pair (.int .i64) (.int .i64))) (.pair (.pair (.int .i64) (.int .i64)) (.pair (.int .i64) (.int .i64))))))), .v false (.list (.pair .str (.pair (.int .i64) (.pair (.pair (.pair (.int .i64) (.int .i64)) (.pair (.int .i64) (.int .i64))) (.pair (.pair (.int .i64) (.int .i64)) (.pair (.int .i64) (.int .i64)))))))]
abbrev spec_SameChainbs : List (Bs × Bool) := []
abbrev spec_SameChainrs : List (Bool × List Rp) := [(false, [.v false .bool])]
noncomputable def spec_SameChainkp : Keep := { loop := fun id => match id with | 4 => [5, 1, 0] | _ => [], join := fun id => match id with | _ => none }
noncomputable def spec_SameChainc : Code := bodyOf Go.Proofs.Try.f27
noncomputable def spec_SameChainF (n : Nat) : Fun := { id := 27, sp := spec_SameChainsp, bs := spec_SameChainbs, rs := spec_SameChainrs, f := fun x y => spec_SameChain n x.1 x.2.1 }

theorem spec_SameChain_l4_eq (n : Nat) : ∀ (k : Nat) (v5 : Int) (v1 : List ((ByteArray) × ((Int) × ((((Int) × (Int)) × ((Int) × (Int))) × (((Int) × (Int)) × ((Int) × (Int))))))) (v0 : List ((ByteArray) × ((Int) × ((((Int) × (Int)) × ((Int) × (Int))) × (((Int) × (Int)) × ((Int) × (Int))))))), iter (interp ([]) ty 26 0 n spec_SameChainkp (codeAt spec_SameChainc [1, 1, 0, 1, 0, 0])) (canon 0 (spec_SameChainkp.loop 4)) (kAt ([]) ty 26 0 n spec_SameChainkp spec_SameChainc [1, 1, 0, 1, 0] [] (ending ty 0 Go.Proofs.Try.f27.results.toList spec_SameChainrs spec_SameChainbs)) k { env := [(5, .one (.sc (.int .i64 v5))), (1, .one (.list true (.pair .str (.pair (.int .i64) (.pair (.pair (.pair (.int .i64) (.int .i64)) (.pair (.int .i64) (.int .i64))) (.pair (.pair (.int .i64) (.int .i64)) (.pair (.int .i64) (.int .i64)))))) v1)), (0, .one (.list true (.pair .str (.pair (.int .i64) (.pair (.pair (.pair (.int .i64) (.int .i64)) (.pair (.int .i64) (.int .i64))) (.pair (.pair (.int .i64) (.int .i64)) (.pair (.int .i64) (.int .i64)))))) v0))], bx := [], nx := 0 } = spec_SameChain_l4 n k v5 v1 v0
  | 0, _, _, _ => by kernel_rfl
  | k + 1, v5, v1, v0 => by
    have h : iter (interp ([]) ty 26 0 n spec_SameChainkp (codeAt spec_SameChainc [1, 1, 0, 1, 0, 0])) (canon 0 (spec_SameChainkp.loop 4)) (kAt ([]) ty 26 0 n spec_SameChainkp spec_SameChainc [1, 1, 0, 1, 0] [] (ending ty 0 Go.Proofs.Try.f27.results.toList spec_SameChainrs spec_SameChainbs)) (k + 1) { env := [(5, .one (.sc (.int .i64 v5))), (1, .one (.list true (.pair .str (.pair (.int .i64) (.pair (.pair (.pair (.int .i64) (.int .i64)) (.pair (.int .i64) (.int .i64))) (.pair (.pair (.int .i64) (.int .i64)) (.pair (.int .i64) (.int .i64)))))) v1)), (0, .one (.list true (.pair .str (.pair (.int .i64) (.pair (.pair (.pair (.int .i64) (.int .i64)) (.pair (.int .i64) (.int .i64))) (.pair (.pair (.int .i64) (.int .i64)) (.pair (.int .i64) (.int .i64)))))) v0))], bx := [], nx := 0 } = spec_SameChain_t4 n (fun v5 v1 v0 => iter (interp ([]) ty 26 0 n spec_SameChainkp (codeAt spec_SameChainc [1, 1, 0, 1, 0, 0])) (canon 0 (spec_SameChainkp.loop 4)) (kAt ([]) ty 26 0 n spec_SameChainkp spec_SameChainc [1, 1, 0, 1, 0] [] (ending ty 0 Go.Proofs.Try.f27.results.toList spec_SameChainrs spec_SameChainbs)) k { env := [(5, .one (.sc (.int .i64 v5))), (1, .one (.list true (.pair .str (.pair (.int .i64) (.pair (.pair (.pair (.int .i64) (.int .i64)) (.pair (.int .i64) (.int .i64))) (.pair (.pair (.int .i64) (.int .i64)) (.pair (.int .i64) (.int .i64)))))) v1)), (0, .one (.list true (.pair .str (.pair (.int .i64) (.pair (.pair (.pair (.int .i64) (.int .i64)) (.pair (.int .i64) (.int .i64))) (.pair (.pair (.int .i64) (.int .i64)) (.pair (.int .i64) (.int .i64)))))) v0))], bx := [], nx := 0 }) v5 v1 v0 := by kernel_rfl
    rw [h]
    have e := congrArg (fun g => spec_SameChain_t4 n g v5 v1 v0) (funext fun v5 => funext fun v1 => funext fun v0 => spec_SameChain_l4_eq n k v5 v1 v0)
    exact e

theorem spec_SameChain_eq (n : Nat) (a0 : List ((ByteArray) × ((Int) × ((((Int) × (Int)) × ((Int) × (Int))) × (((Int) × (Int)) × ((Int) × (Int))))))) (a1 : List ((ByteArray) × ((Int) × ((((Int) × (Int)) × ((Int) × (Int))) × (((Int) × (Int)) × ((Int) × (Int))))))) : runBody ([]) ty 26 n spec_SameChainkp spec_SameChainc Go.Proofs.Try.f27.results.toList spec_SameChainrs spec_SameChainsp spec_SameChainbs (a0, (a1, ())) () = spec_SameChain n a0 a1 := by
  have h : runBody ([]) ty 26 n spec_SameChainkp spec_SameChainc Go.Proofs.Try.f27.results.toList spec_SameChainrs spec_SameChainsp spec_SameChainbs (a0, (a1, ())) () = spec_SameChain_t n (fun k v5 v1 v0 => iter (interp ([]) ty 26 0 n spec_SameChainkp (codeAt spec_SameChainc [1, 1, 0, 1, 0, 0])) (canon 0 (spec_SameChainkp.loop 4)) (kAt ([]) ty 26 0 n spec_SameChainkp spec_SameChainc [1, 1, 0, 1, 0] [] (ending ty 0 Go.Proofs.Try.f27.results.toList spec_SameChainrs spec_SameChainbs)) k { env := [(5, .one (.sc (.int .i64 v5))), (1, .one (.list true (.pair .str (.pair (.int .i64) (.pair (.pair (.pair (.int .i64) (.int .i64)) (.pair (.int .i64) (.int .i64))) (.pair (.pair (.int .i64) (.int .i64)) (.pair (.int .i64) (.int .i64)))))) v1)), (0, .one (.list true (.pair .str (.pair (.int .i64) (.pair (.pair (.pair (.int .i64) (.int .i64)) (.pair (.int .i64) (.int .i64))) (.pair (.pair (.int .i64) (.int .i64)) (.pair (.int .i64) (.int .i64)))))) v0))], bx := [], nx := 0 }) a0 a1 := by kernel_rfl
  rw [h]
  have e := congrArg (fun h4 => spec_SameChain_t n h4 a0 a1) (funext fun k => funext fun v5 => funext fun v1 => funext fun v0 => spec_SameChain_l4_eq n k v5 v1 v0)
  exact e

theorem spec_SameChain_ok (n : Nat) : FunOk P (spec_SameChainF n) :=
  funOk_mk (C := []) (N := 26) (kp := spec_SameChainkp) (c := spec_SameChainc) (n := n) (G := fun x y => spec_SameChain n x.1 x.2.1) follows (AllOk.mem (trivial : AllOk P ([]))) (by kernel_rfl : P.funcs[27]? = some Go.Proofs.Try.f27) (by kernel_rfl) (by kernel_rfl) (by kernel_rfl)
    (fun x y => spec_SameChain_eq n x.1 x.2.1) (fun _ _ => map_same (fun _ => rfl) _) (fun _ _ _ _ => rfl)

abbrev slices_Equal_impl_Standard_impl_Standardsp : List Sp := [.v false (.list (.pair .str (.pair (.int .i64) (.pair (.pair (.pair (.int .i64) (.int .i64)) (.pair (.int .i64) (.int .i64))) (.pair (.pair (.int .i64) (.int .i64)) (.pair (.int .i64) (.int .i64))))))), .v false (.list (.pair .str (.pair (.int .i64) (.pair (.pair (.pair (.int .i64) (.int .i64)) (.pair (.int .i64) (.int .i64))) (.pair (.pair (.int .i64) (.int .i64)) (.pair (.int .i64) (.int .i64)))))))]
abbrev slices_Equal_impl_Standard_impl_Standardbs : List (Bs × Bool) := []
abbrev slices_Equal_impl_Standard_impl_Standardrs : List (Bool × List Rp) := [(false, [.v false .bool])]
noncomputable def slices_Equal_impl_Standard_impl_Standardkp : Keep := { loop := fun id => match id with | 4 => [13, 1, 0, 12] | _ => [], join := fun id => match id with | _ => none }
noncomputable def slices_Equal_impl_Standard_impl_Standardc : Code := bodyOf Go.Proofs.Try.f86
noncomputable def slices_Equal_impl_Standard_impl_StandardF (n : Nat) : Fun := { id := 86, sp := slices_Equal_impl_Standard_impl_Standardsp, bs := slices_Equal_impl_Standard_impl_Standardbs, rs := slices_Equal_impl_Standard_impl_Standardrs, f := fun x y => slices_Equal_impl_Standard_impl_Standard n x.1 x.2.1 }

theorem slices_Equal_impl_Standard_impl_Standard_l4_eq (n : Nat) : ∀ (k : Nat) (v13 : Int) (v1 : List ((ByteArray) × ((Int) × ((((Int) × (Int)) × ((Int) × (Int))) × (((Int) × (Int)) × ((Int) × (Int))))))) (v0 : List ((ByteArray) × ((Int) × ((((Int) × (Int)) × ((Int) × (Int))) × (((Int) × (Int)) × ((Int) × (Int))))))) (v12 : Int), iter (interp ([]) ty 26 0 n slices_Equal_impl_Standard_impl_Standardkp (codeAt slices_Equal_impl_Standard_impl_Standardc [1, 1, 0, 1, 0, 0])) (canon 0 (slices_Equal_impl_Standard_impl_Standardkp.loop 4)) (kAt ([]) ty 26 0 n slices_Equal_impl_Standard_impl_Standardkp slices_Equal_impl_Standard_impl_Standardc [1, 1, 0, 1, 0] [] (ending ty 0 Go.Proofs.Try.f86.results.toList slices_Equal_impl_Standard_impl_Standardrs slices_Equal_impl_Standard_impl_Standardbs)) k { env := [(13, .one (.sc (.int .i64 v13))), (1, .one (.list true (.pair .str (.pair (.int .i64) (.pair (.pair (.pair (.int .i64) (.int .i64)) (.pair (.int .i64) (.int .i64))) (.pair (.pair (.int .i64) (.int .i64)) (.pair (.int .i64) (.int .i64)))))) v1)), (0, .one (.list true (.pair .str (.pair (.int .i64) (.pair (.pair (.pair (.int .i64) (.int .i64)) (.pair (.int .i64) (.int .i64))) (.pair (.pair (.int .i64) (.int .i64)) (.pair (.int .i64) (.int .i64)))))) v0)), (12, .one (.sc (.int .i64 v12)))], bx := [], nx := 0 } = slices_Equal_impl_Standard_impl_Standard_l4 n k v13 v1 v0 v12
  | 0, _, _, _, _ => by kernel_rfl
  | k + 1, v13, v1, v0, v12 => by
    have h : iter (interp ([]) ty 26 0 n slices_Equal_impl_Standard_impl_Standardkp (codeAt slices_Equal_impl_Standard_impl_Standardc [1, 1, 0, 1, 0, 0])) (canon 0 (slices_Equal_impl_Standard_impl_Standardkp.loop 4)) (kAt ([]) ty 26 0 n slices_Equal_impl_Standard_impl_Standardkp slices_Equal_impl_Standard_impl_Standardc [1, 1, 0, 1, 0] [] (ending ty 0 Go.Proofs.Try.f86.results.toList slices_Equal_impl_Standard_impl_Standardrs slices_Equal_impl_Standard_impl_Standardbs)) (k + 1) { env := [(13, .one (.sc (.int .i64 v13))), (1, .one (.list true (.pair .str (.pair (.int .i64) (.pair (.pair (.pair (.int .i64) (.int .i64)) (.pair (.int .i64) (.int .i64))) (.pair (.pair (.int .i64) (.int .i64)) (.pair (.int .i64) (.int .i64)))))) v1)), (0, .one (.list true (.pair .str (.pair (.int .i64) (.pair (.pair (.pair (.int .i64) (.int .i64)) (.pair (.int .i64) (.int .i64))) (.pair (.pair (.int .i64) (.int .i64)) (.pair (.int .i64) (.int .i64)))))) v0)), (12, .one (.sc (.int .i64 v12)))], bx := [], nx := 0 } = slices_Equal_impl_Standard_impl_Standard_t4 n (fun v13 v1 v0 v12 => iter (interp ([]) ty 26 0 n slices_Equal_impl_Standard_impl_Standardkp (codeAt slices_Equal_impl_Standard_impl_Standardc [1, 1, 0, 1, 0, 0])) (canon 0 (slices_Equal_impl_Standard_impl_Standardkp.loop 4)) (kAt ([]) ty 26 0 n slices_Equal_impl_Standard_impl_Standardkp slices_Equal_impl_Standard_impl_Standardc [1, 1, 0, 1, 0] [] (ending ty 0 Go.Proofs.Try.f86.results.toList slices_Equal_impl_Standard_impl_Standardrs slices_Equal_impl_Standard_impl_Standardbs)) k { env := [(13, .one (.sc (.int .i64 v13))), (1, .one (.list true (.pair .str (.pair (.int .i64) (.pair (.pair (.pair (.int .i64) (.int .i64)) (.pair (.int .i64) (.int .i64))) (.pair (.pair (.int .i64) (.int .i64)) (.pair (.int .i64) (.int .i64)))))) v1)), (0, .one (.list true (.pair .str (.pair (.int .i64) (.pair (.pair (.pair (.int .i64) (.int .i64)) (.pair (.int .i64) (.int .i64))) (.pair (.pair (.int .i64) (.int .i64)) (.pair (.int .i64) (.int .i64)))))) v0)), (12, .one (.sc (.int .i64 v12)))], bx := [], nx := 0 }) v13 v1 v0 v12 := by kernel_rfl
    rw [h]
    have e := congrArg (fun g => slices_Equal_impl_Standard_impl_Standard_t4 n g v13 v1 v0 v12) (funext fun v13 => funext fun v1 => funext fun v0 => funext fun v12 => slices_Equal_impl_Standard_impl_Standard_l4_eq n k v13 v1 v0 v12)
    exact e

theorem slices_Equal_impl_Standard_impl_Standard_eq (n : Nat) (a0 : List ((ByteArray) × ((Int) × ((((Int) × (Int)) × ((Int) × (Int))) × (((Int) × (Int)) × ((Int) × (Int))))))) (a1 : List ((ByteArray) × ((Int) × ((((Int) × (Int)) × ((Int) × (Int))) × (((Int) × (Int)) × ((Int) × (Int))))))) : runBody ([]) ty 26 n slices_Equal_impl_Standard_impl_Standardkp slices_Equal_impl_Standard_impl_Standardc Go.Proofs.Try.f86.results.toList slices_Equal_impl_Standard_impl_Standardrs slices_Equal_impl_Standard_impl_Standardsp slices_Equal_impl_Standard_impl_Standardbs (a0, (a1, ())) () = slices_Equal_impl_Standard_impl_Standard n a0 a1 := by
  have h : runBody ([]) ty 26 n slices_Equal_impl_Standard_impl_Standardkp slices_Equal_impl_Standard_impl_Standardc Go.Proofs.Try.f86.results.toList slices_Equal_impl_Standard_impl_Standardrs slices_Equal_impl_Standard_impl_Standardsp slices_Equal_impl_Standard_impl_Standardbs (a0, (a1, ())) () = slices_Equal_impl_Standard_impl_Standard_t n (fun k v13 v1 v0 v12 => iter (interp ([]) ty 26 0 n slices_Equal_impl_Standard_impl_Standardkp (codeAt slices_Equal_impl_Standard_impl_Standardc [1, 1, 0, 1, 0, 0])) (canon 0 (slices_Equal_impl_Standard_impl_Standardkp.loop 4)) (kAt ([]) ty 26 0 n slices_Equal_impl_Standard_impl_Standardkp slices_Equal_impl_Standard_impl_Standardc [1, 1, 0, 1, 0] [] (ending ty 0 Go.Proofs.Try.f86.results.toList slices_Equal_impl_Standard_impl_Standardrs slices_Equal_impl_Standard_impl_Standardbs)) k { env := [(13, .one (.sc (.int .i64 v13))), (1, .one (.list true (.pair .str (.pair (.int .i64) (.pair (.pair (.pair (.int .i64) (.int .i64)) (.pair (.int .i64) (.int .i64))) (.pair (.pair (.int .i64) (.int .i64)) (.pair (.int .i64) (.int .i64)))))) v1)), (0, .one (.list true (.pair .str (.pair (.int .i64) (.pair (.pair (.pair (.int .i64) (.int .i64)) (.pair (.int .i64) (.int .i64))) (.pair (.pair (.int .i64) (.int .i64)) (.pair (.int .i64) (.int .i64)))))) v0)), (12, .one (.sc (.int .i64 v12)))], bx := [], nx := 0 }) a0 a1 := by kernel_rfl
  rw [h]
  have e := congrArg (fun h4 => slices_Equal_impl_Standard_impl_Standard_t n h4 a0 a1) (funext fun k => funext fun v13 => funext fun v1 => funext fun v0 => funext fun v12 => slices_Equal_impl_Standard_impl_Standard_l4_eq n k v13 v1 v0 v12)
  exact e

theorem slices_Equal_impl_Standard_impl_Standard_ok (n : Nat) : FunOk P (slices_Equal_impl_Standard_impl_StandardF n) :=
  funOk_mk (C := []) (N := 26) (kp := slices_Equal_impl_Standard_impl_Standardkp) (c := slices_Equal_impl_Standard_impl_Standardc) (n := n) (G := fun x y => slices_Equal_impl_Standard_impl_Standard n x.1 x.2.1) follows (AllOk.mem (trivial : AllOk P ([]))) (by kernel_rfl : P.funcs[86]? = some Go.Proofs.Try.f86) (by kernel_rfl) (by kernel_rfl) (by kernel_rfl)
    (fun x y => slices_Equal_impl_Standard_impl_Standard_eq n x.1 x.2.1) (fun _ _ => map_same (fun _ => rfl) _) (fun _ _ _ _ => rfl)

abbrev impl_SameChainsp : List Sp := [.v false (.list (.pair .str (.pair (.int .i64) (.pair (.pair (.pair (.int .i64) (.int .i64)) (.pair (.int .i64) (.int .i64))) (.pair (.pair (.int .i64) (.int .i64)) (.pair (.int .i64) (.int .i64))))))), .v false (.list (.pair .str (.pair (.int .i64) (.pair (.pair (.pair (.int .i64) (.int .i64)) (.pair (.int .i64) (.int .i64))) (.pair (.pair (.int .i64) (.int .i64)) (.pair (.int .i64) (.int .i64)))))))]
abbrev impl_SameChainbs : List (Bs × Bool) := []
abbrev impl_SameChainrs : List (Bool × List Rp) := [(false, [.v false .bool])]
noncomputable def impl_SameChainkp : Keep := { loop := fun id => match id with | _ => [], join := fun id => match id with | _ => none }
noncomputable def impl_SameChainc : Code := bodyOf Go.Proofs.Try.f29
noncomputable def impl_SameChainF (n : Nat) : Fun := { id := 29, sp := impl_SameChainsp, bs := impl_SameChainbs, rs := impl_SameChainrs, f := fun x y => impl_SameChain n x.1 x.2.1 }

theorem impl_SameChain_eq (n : Nat) (a0 : List ((ByteArray) × ((Int) × ((((Int) × (Int)) × ((Int) × (Int))) × (((Int) × (Int)) × ((Int) × (Int))))))) (a1 : List ((ByteArray) × ((Int) × ((((Int) × (Int)) × ((Int) × (Int))) × (((Int) × (Int)) × ((Int) × (Int))))))) : runBody ([slices_Equal_impl_Standard_impl_StandardF n]) ty 8 n impl_SameChainkp impl_SameChainc Go.Proofs.Try.f29.results.toList impl_SameChainrs impl_SameChainsp impl_SameChainbs (a0, (a1, ())) () = impl_SameChain n a0 a1 := by
  have h : runBody ([slices_Equal_impl_Standard_impl_StandardF n]) ty 8 n impl_SameChainkp impl_SameChainc Go.Proofs.Try.f29.results.toList impl_SameChainrs impl_SameChainsp impl_SameChainbs (a0, (a1, ())) () = impl_SameChain_t n a0 a1 := by kernel_rfl
  rw [h]
  rfl

theorem impl_SameChain_ok (n : Nat) : FunOk P (impl_SameChainF n) :=
  funOk_mk (C := [slices_Equal_impl_Standard_impl_StandardF n]) (N := 8) (kp := impl_SameChainkp) (c := impl_SameChainc) (n := n) (G := fun x y => impl_SameChain n x.1 x.2.1) follows (AllOk.mem (⟨slices_Equal_impl_Standard_impl_Standard_ok n, trivial⟩ : AllOk P ([slices_Equal_impl_Standard_impl_StandardF n]))) (by kernel_rfl : P.funcs[29]? = some Go.Proofs.Try.f29) (by kernel_rfl) (by kernel_rfl) (by kernel_rfl)
    (fun x y => impl_SameChain_eq n x.1 x.2.1) (fun _ _ => map_same (fun _ => rfl) _) (fun _ _ _ _ => rfl)

abbrev laws_eqFracsp : List Sp := [.v true (.pair (.int .i64) (.int .i64)), .v true (.pair (.int .i64) (.int .i64))]
abbrev laws_eqFracbs : List (Bs × Bool) := []
abbrev laws_eqFracrs : List (Bool × List Rp) := [(false, [.v false .bool])]
noncomputable def laws_eqFrackp : Keep := { loop := fun id => match id with | _ => [], join := fun id => match id with | _ => none }
noncomputable def laws_eqFracc : Code := bodyOf Go.Proofs.Try.f23
noncomputable def laws_eqFracF (n : Nat) : Fun := { id := 23, sp := laws_eqFracsp, bs := laws_eqFracbs, rs := laws_eqFracrs, f := fun x y => laws_eqFrac n x.1 x.2.1 }

theorem laws_eqFrac_eq (n : Nat) (a0 : (Int) × (Int)) (a1 : (Int) × (Int)) : runBody ([]) ty 15 n laws_eqFrackp laws_eqFracc Go.Proofs.Try.f23.results.toList laws_eqFracrs laws_eqFracsp laws_eqFracbs (a0, (a1, ())) () = laws_eqFrac n a0 a1 := by
  have h : runBody ([]) ty 15 n laws_eqFrackp laws_eqFracc Go.Proofs.Try.f23.results.toList laws_eqFracrs laws_eqFracsp laws_eqFracbs (a0, (a1, ())) () = laws_eqFrac_t n a0 a1 := by kernel_rfl
  rw [h]
  rfl

theorem laws_eqFrac_ok (n : Nat) : FunOk P (laws_eqFracF n) :=
  funOk_mk (C := []) (N := 15) (kp := laws_eqFrackp) (c := laws_eqFracc) (n := n) (G := fun x y => laws_eqFrac n x.1 x.2.1) follows (AllOk.mem (trivial : AllOk P ([]))) (by kernel_rfl : P.funcs[23]? = some Go.Proofs.Try.f23) (by kernel_rfl) (by kernel_rfl) (by kernel_rfl)
    (fun x y => laws_eqFrac_eq n x.1 x.2.1) (fun _ _ => map_same (fun _ => rfl) _) (fun _ _ _ _ => rfl)

abbrev laws_eqSpansp : List Sp := [.v true (.pair (.pair (.int .i64) (.int .i64)) (.pair (.int .i64) (.int .i64))), .v true (.pair (.pair (.int .i64) (.int .i64)) (.pair (.int .i64) (.int .i64)))]
abbrev laws_eqSpanbs : List (Bs × Bool) := []
abbrev laws_eqSpanrs : List (Bool × List Rp) := [(false, [.v false .bool])]
noncomputable def laws_eqSpankp : Keep := { loop := fun id => match id with | _ => [], join := fun id => match id with | _ => none }
noncomputable def laws_eqSpanc : Code := bodyOf Go.Proofs.Try.f143
noncomputable def laws_eqSpanF (n : Nat) : Fun := { id := 143, sp := laws_eqSpansp, bs := laws_eqSpanbs, rs := laws_eqSpanrs, f := fun x y => laws_eqSpan n x.1 x.2.1 }

theorem laws_eqSpan_eq (n : Nat) (a0 : ((Int) × (Int)) × ((Int) × (Int))) (a1 : ((Int) × (Int)) × ((Int) × (Int))) : runBody ([laws_eqFracF n]) ty 17 n laws_eqSpankp laws_eqSpanc Go.Proofs.Try.f143.results.toList laws_eqSpanrs laws_eqSpansp laws_eqSpanbs (a0, (a1, ())) () = laws_eqSpan n a0 a1 := by
  have h : runBody ([laws_eqFracF n]) ty 17 n laws_eqSpankp laws_eqSpanc Go.Proofs.Try.f143.results.toList laws_eqSpanrs laws_eqSpansp laws_eqSpanbs (a0, (a1, ())) () = laws_eqSpan_t n a0 a1 := by kernel_rfl
  rw [h]
  rfl

theorem laws_eqSpan_ok (n : Nat) : FunOk P (laws_eqSpanF n) :=
  funOk_mk (C := [laws_eqFracF n]) (N := 17) (kp := laws_eqSpankp) (c := laws_eqSpanc) (n := n) (G := fun x y => laws_eqSpan n x.1 x.2.1) follows (AllOk.mem (⟨laws_eqFrac_ok n, trivial⟩ : AllOk P ([laws_eqFracF n]))) (by kernel_rfl : P.funcs[143]? = some Go.Proofs.Try.f143) (by kernel_rfl) (by kernel_rfl) (by kernel_rfl)
    (fun x y => laws_eqSpan_eq n x.1 x.2.1) (fun _ _ => map_same (fun _ => rfl) _) (fun _ _ _ _ => rfl)

abbrev laws_eqStandardsp : List Sp := [.v true (.pair .str (.pair (.int .i64) (.pair (.pair (.pair (.int .i64) (.int .i64)) (.pair (.int .i64) (.int .i64))) (.pair (.pair (.int .i64) (.int .i64)) (.pair (.int .i64) (.int .i64)))))), .v true (.pair .str (.pair (.int .i64) (.pair (.pair (.pair (.int .i64) (.int .i64)) (.pair (.int .i64) (.int .i64))) (.pair (.pair (.int .i64) (.int .i64)) (.pair (.int .i64) (.int .i64))))))]
abbrev laws_eqStandardbs : List (Bs × Bool) := []
abbrev laws_eqStandardrs : List (Bool × List Rp) := [(false, [.v false .bool])]
noncomputable def laws_eqStandardkp : Keep := { loop := fun id => match id with | _ => [], join := fun id => match id with | _ => none }
noncomputable def laws_eqStandardc : Code := bodyOf Go.Proofs.Try.f87
noncomputable def laws_eqStandardF (n : Nat) : Fun := { id := 87, sp := laws_eqStandardsp, bs := laws_eqStandardbs, rs := laws_eqStandardrs, f := fun x y => laws_eqStandard n x.1 x.2.1 }

theorem laws_eqStandard_eq (n : Nat) (a0 : (ByteArray) × ((Int) × ((((Int) × (Int)) × ((Int) × (Int))) × (((Int) × (Int)) × ((Int) × (Int)))))) (a1 : (ByteArray) × ((Int) × ((((Int) × (Int)) × ((Int) × (Int))) × (((Int) × (Int)) × ((Int) × (Int)))))) : runBody ([laws_eqSpanF n, laws_eqFracF n]) ty 37 n laws_eqStandardkp laws_eqStandardc Go.Proofs.Try.f87.results.toList laws_eqStandardrs laws_eqStandardsp laws_eqStandardbs (a0, (a1, ())) () = laws_eqStandard n a0 a1 := by
  have h : runBody ([laws_eqSpanF n, laws_eqFracF n]) ty 37 n laws_eqStandardkp laws_eqStandardc Go.Proofs.Try.f87.results.toList laws_eqStandardrs laws_eqStandardsp laws_eqStandardbs (a0, (a1, ())) () = laws_eqStandard_t n a0 a1 := by kernel_rfl
  rw [h]
  rfl

theorem laws_eqStandard_ok (n : Nat) : FunOk P (laws_eqStandardF n) :=
  funOk_mk (C := [laws_eqSpanF n, laws_eqFracF n]) (N := 37) (kp := laws_eqStandardkp) (c := laws_eqStandardc) (n := n) (G := fun x y => laws_eqStandard n x.1 x.2.1) follows (AllOk.mem (⟨laws_eqSpan_ok n, ⟨laws_eqFrac_ok n, trivial⟩⟩ : AllOk P ([laws_eqSpanF n, laws_eqFracF n]))) (by kernel_rfl : P.funcs[87]? = some Go.Proofs.Try.f87) (by kernel_rfl) (by kernel_rfl) (by kernel_rfl)
    (fun x y => laws_eqStandard_eq n x.1 x.2.1) (fun _ _ => map_same (fun _ => rfl) _) (fun _ _ _ _ => rfl)

abbrev laws_eqStandardSsp : List Sp := [.v false (.list (.pair .str (.pair (.int .i64) (.pair (.pair (.pair (.int .i64) (.int .i64)) (.pair (.int .i64) (.int .i64))) (.pair (.pair (.int .i64) (.int .i64)) (.pair (.int .i64) (.int .i64))))))), .v false (.list (.pair .str (.pair (.int .i64) (.pair (.pair (.pair (.int .i64) (.int .i64)) (.pair (.int .i64) (.int .i64))) (.pair (.pair (.int .i64) (.int .i64)) (.pair (.int .i64) (.int .i64)))))))]
abbrev laws_eqStandardSbs : List (Bs × Bool) := []
abbrev laws_eqStandardSrs : List (Bool × List Rp) := [(false, [.v false .bool])]
noncomputable def laws_eqStandardSkp : Keep := { loop := fun id => match id with | 4 => [5, 1, 0] | _ => [], join := fun id => match id with | _ => none }
noncomputable def laws_eqStandardSc : Code := bodyOf Go.Proofs.Try.f30
noncomputable def laws_eqStandardSF (n : Nat) : Fun := { id := 30, sp := laws_eqStandardSsp, bs := laws_eqStandardSbs, rs := laws_eqStandardSrs, f := fun x y => laws_eqStandardS n x.1 x.2.1 }

theorem laws_eqStandardS_l4_eq (n : Nat) : ∀ (k : Nat) (v5 : Int) (v1 : List ((ByteArray) × ((Int) × ((((Int) × (Int)) × ((Int) × (Int))) × (((Int) × (Int)) × ((Int) × (Int))))))) (v0 : List ((ByteArray) × ((Int) × ((((Int) × (Int)) × ((Int) × (Int))) × (((Int) × (Int)) × ((Int) × (Int))))))), iter (interp ([laws_eqStandardF n]) ty 27 0 n laws_eqStandardSkp (codeAt laws_eqStandardSc [1, 1, 0, 1, 0, 0])) (canon 0 (laws_eqStandardSkp.loop 4)) (kAt ([laws_eqStandardF n]) ty 27 0 n laws_eqStandardSkp laws_eqStandardSc [1, 1, 0, 1, 0] [] (ending ty 0 Go.Proofs.Try.f30.results.toList laws_eqStandardSrs laws_eqStandardSbs)) k { env := [(5, .one (.sc (.int .i64 v5))), (1, .one (.list true (.pair .str (.pair (.int .i64) (.pair (.pair (.pair (.int .i64) (.int .i64)) (.pair (.int .i64) (.int .i64))) (.pair (.pair (.int .i64) (.int .i64)) (.pair (.int .i64) (.int .i64)))))) v1)), (0, .one (.list true (.pair .str (.pair (.int .i64) (.pair (.pair (.pair (.int .i64) (.int .i64)) (.pair (.int .i64) (.int .i64))) (.pair (.pair (.int .i64) (.int .i64)) (.pair (.int .i64) (.int .i64)))))) v0))], bx := [], nx := 0 } = laws_eqStandardS_l4 n k v5 v1 v0
  | 0, _, _, _ => by kernel_rfl
  | k + 1, v5, v1, v0 => by
    have h : iter (interp ([laws_eqStandardF n]) ty 27 0 n laws_eqStandardSkp (codeAt laws_eqStandardSc [1, 1, 0, 1, 0, 0])) (canon 0 (laws_eqStandardSkp.loop 4)) (kAt ([laws_eqStandardF n]) ty 27 0 n laws_eqStandardSkp laws_eqStandardSc [1, 1, 0, 1, 0] [] (ending ty 0 Go.Proofs.Try.f30.results.toList laws_eqStandardSrs laws_eqStandardSbs)) (k + 1) { env := [(5, .one (.sc (.int .i64 v5))), (1, .one (.list true (.pair .str (.pair (.int .i64) (.pair (.pair (.pair (.int .i64) (.int .i64)) (.pair (.int .i64) (.int .i64))) (.pair (.pair (.int .i64) (.int .i64)) (.pair (.int .i64) (.int .i64)))))) v1)), (0, .one (.list true (.pair .str (.pair (.int .i64) (.pair (.pair (.pair (.int .i64) (.int .i64)) (.pair (.int .i64) (.int .i64))) (.pair (.pair (.int .i64) (.int .i64)) (.pair (.int .i64) (.int .i64)))))) v0))], bx := [], nx := 0 } = laws_eqStandardS_t4 n (fun v5 v1 v0 => iter (interp ([laws_eqStandardF n]) ty 27 0 n laws_eqStandardSkp (codeAt laws_eqStandardSc [1, 1, 0, 1, 0, 0])) (canon 0 (laws_eqStandardSkp.loop 4)) (kAt ([laws_eqStandardF n]) ty 27 0 n laws_eqStandardSkp laws_eqStandardSc [1, 1, 0, 1, 0] [] (ending ty 0 Go.Proofs.Try.f30.results.toList laws_eqStandardSrs laws_eqStandardSbs)) k { env := [(5, .one (.sc (.int .i64 v5))), (1, .one (.list true (.pair .str (.pair (.int .i64) (.pair (.pair (.pair (.int .i64) (.int .i64)) (.pair (.int .i64) (.int .i64))) (.pair (.pair (.int .i64) (.int .i64)) (.pair (.int .i64) (.int .i64)))))) v1)), (0, .one (.list true (.pair .str (.pair (.int .i64) (.pair (.pair (.pair (.int .i64) (.int .i64)) (.pair (.int .i64) (.int .i64))) (.pair (.pair (.int .i64) (.int .i64)) (.pair (.int .i64) (.int .i64)))))) v0))], bx := [], nx := 0 }) v5 v1 v0 := by kernel_rfl
    rw [h]
    have e := congrArg (fun g => laws_eqStandardS_t4 n g v5 v1 v0) (funext fun v5 => funext fun v1 => funext fun v0 => laws_eqStandardS_l4_eq n k v5 v1 v0)
    exact e

theorem laws_eqStandardS_eq (n : Nat) (a0 : List ((ByteArray) × ((Int) × ((((Int) × (Int)) × ((Int) × (Int))) × (((Int) × (Int)) × ((Int) × (Int))))))) (a1 : List ((ByteArray) × ((Int) × ((((Int) × (Int)) × ((Int) × (Int))) × (((Int) × (Int)) × ((Int) × (Int))))))) : runBody ([laws_eqStandardF n]) ty 27 n laws_eqStandardSkp laws_eqStandardSc Go.Proofs.Try.f30.results.toList laws_eqStandardSrs laws_eqStandardSsp laws_eqStandardSbs (a0, (a1, ())) () = laws_eqStandardS n a0 a1 := by
  have h : runBody ([laws_eqStandardF n]) ty 27 n laws_eqStandardSkp laws_eqStandardSc Go.Proofs.Try.f30.results.toList laws_eqStandardSrs laws_eqStandardSsp laws_eqStandardSbs (a0, (a1, ())) () = laws_eqStandardS_t n (fun k v5 v1 v0 => iter (interp ([laws_eqStandardF n]) ty 27 0 n laws_eqStandardSkp (codeAt laws_eqStandardSc [1, 1, 0, 1, 0, 0])) (canon 0 (laws_eqStandardSkp.loop 4)) (kAt ([laws_eqStandardF n]) ty 27 0 n laws_eqStandardSkp laws_eqStandardSc [1, 1, 0, 1, 0] [] (ending ty 0 Go.Proofs.Try.f30.results.toList laws_eqStandardSrs laws_eqStandardSbs)) k { env := [(5, .one (.sc (.int .i64 v5))), (1, .one (.list true (.pair .str (.pair (.int .i64) (.pair (.pair (.pair (.int .i64) (.int .i64)) (.pair (.int .i64) (.int .i64))) (.pair (.pair (.int .i64) (.int .i64)) (.pair (.int .i64) (.int .i64)))))) v1)), (0, .one (.list true (.pair .str (.pair (.int .i64) (.pair (.pair (.pair (.int .i64) (.int .i64)) (.pair (.int .i64) (.int .i64))) (.pair (.pair (.int .i64) (.int .i64)) (.pair (.int .i64) (.int .i64)))))) v0))], bx := [], nx := 0 }) a0 a1 := by kernel_rfl
  rw [h]
  have e := congrArg (fun h4 => laws_eqStandardS_t n h4 a0 a1) (funext fun k => funext fun v5 => funext fun v1 => funext fun v0 => laws_eqStandardS_l4_eq n k v5 v1 v0)
  exact e

theorem laws_eqStandardS_ok (n : Nat) : FunOk P (laws_eqStandardSF n) :=
  funOk_mk (C := [laws_eqStandardF n]) (N := 27) (kp := laws_eqStandardSkp) (c := laws_eqStandardSc) (n := n) (G := fun x y => laws_eqStandardS n x.1 x.2.1) follows (AllOk.mem (⟨laws_eqStandard_ok n, trivial⟩ : AllOk P ([laws_eqStandardF n]))) (by kernel_rfl : P.funcs[30]? = some Go.Proofs.Try.f30) (by kernel_rfl) (by kernel_rfl) (by kernel_rfl)
    (fun x y => laws_eqStandardS_eq n x.1 x.2.1) (fun _ _ => map_same (fun _ => rfl) _) (fun _ _ _ _ => rfl)

abbrev laws_FnExactSameChainsp : List Sp := [.v false (.list (.pair .str (.pair (.int .i64) (.pair (.pair (.pair (.int .i64) (.int .i64)) (.pair (.int .i64) (.int .i64))) (.pair (.pair (.int .i64) (.int .i64)) (.pair (.int .i64) (.int .i64))))))), .v false (.list (.pair .str (.pair (.int .i64) (.pair (.pair (.pair (.int .i64) (.int .i64)) (.pair (.int .i64) (.int .i64))) (.pair (.pair (.int .i64) (.int .i64)) (.pair (.int .i64) (.int .i64)))))))]
abbrev laws_FnExactSameChainbs : List (Bs × Bool) := []
abbrev laws_FnExactSameChainrs : List (Bool × List Rp) := [(false, [.v false .bool])]
noncomputable def laws_FnExactSameChainkp : Keep := { loop := fun id => match id with | _ => [], join := fun id => match id with | _ => none }
noncomputable def laws_FnExactSameChainc : Code := bodyOf Go.Proofs.Try.f6
noncomputable def laws_FnExactSameChainF (n : Nat) : Fun := { id := 6, sp := laws_FnExactSameChainsp, bs := laws_FnExactSameChainbs, rs := laws_FnExactSameChainrs, f := fun x y => laws_FnExactSameChain n x.1 x.2.1 }

theorem laws_FnExactSameChain_eq (n : Nat) (a0 : List ((ByteArray) × ((Int) × ((((Int) × (Int)) × ((Int) × (Int))) × (((Int) × (Int)) × ((Int) × (Int))))))) (a1 : List ((ByteArray) × ((Int) × ((((Int) × (Int)) × ((Int) × (Int))) × (((Int) × (Int)) × ((Int) × (Int))))))) : runBody ([laws_szStandardSF n, laws_toStandardSF n, spec_SameChainF n, impl_SameChainF n, laws_eqStandardSF n]) ty 45 n laws_FnExactSameChainkp laws_FnExactSameChainc Go.Proofs.Try.f6.results.toList laws_FnExactSameChainrs laws_FnExactSameChainsp laws_FnExactSameChainbs (a0, (a1, ())) () = laws_FnExactSameChain n a0 a1 := by
  have h : runBody ([laws_szStandardSF n, laws_toStandardSF n, spec_SameChainF n, impl_SameChainF n, laws_eqStandardSF n]) ty 45 n laws_FnExactSameChainkp laws_FnExactSameChainc Go.Proofs.Try.f6.results.toList laws_FnExactSameChainrs laws_FnExactSameChainsp laws_FnExactSameChainbs (a0, (a1, ())) () = laws_FnExactSameChain_t n a0 a1 := by kernel_rfl
  rw [h]
  rfl

theorem laws_FnExactSameChain_ok (n : Nat) : FunOk P (laws_FnExactSameChainF n) :=
  funOk_mk (C := [laws_szStandardSF n, laws_toStandardSF n, spec_SameChainF n, impl_SameChainF n, laws_eqStandardSF n]) (N := 45) (kp := laws_FnExactSameChainkp) (c := laws_FnExactSameChainc) (n := n) (G := fun x y => laws_FnExactSameChain n x.1 x.2.1) follows (AllOk.mem (⟨laws_szStandardS_ok n, ⟨laws_toStandardS_ok n, ⟨spec_SameChain_ok n, ⟨impl_SameChain_ok n, ⟨laws_eqStandardS_ok n, trivial⟩⟩⟩⟩⟩ : AllOk P ([laws_szStandardSF n, laws_toStandardSF n, spec_SameChainF n, impl_SameChainF n, laws_eqStandardSF n]))) (by kernel_rfl : P.funcs[6]? = some Go.Proofs.Try.f6) (by kernel_rfl) (by kernel_rfl) (by kernel_rfl)
    (fun x y => laws_FnExactSameChain_eq n x.1 x.2.1) (fun _ _ => map_same (fun _ => rfl) _) (fun _ _ _ _ => rfl)

end Go.Abs
