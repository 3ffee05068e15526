import Derived.Test.YtmkhdpdepomohaaDRenewStandard0
import Derived.Test.YtmkhdpdepomohaaProg
import Derived.Test.YtmkhdpdepomohaaRow
import Derived.KernelRfl
namespace Go.Abs
open Go.Proofs
set_option maxRecDepth 100000
set_option linter.unusedVariables false

noncomputable abbrev P : Program := Try.prog
noncomputable abbrev ty : Nat → Option TyI := tyOf P
def bodyOf (f : Func) : Code := match f.body with | some c => c | none => .skip
theorem follows : P.follows .mixedOrders = true := by kernel_rfl

abbrev laws_szStandardsp : List Sp := [.v true (.pair .str (.pair (.int .i64) (.pair (.pair (.pair (.int .i64) (.int .i64)) (.pair (.int .i64) (.int .i64))) (.pair (.pair (.int .i64) (.int .i64)) (.pair (.int .i64) (.int .i64)))))), .v false (.int .i64)]
abbrev laws_szStandardbs : List (Bs × Bool) := []
abbrev laws_szStandardrs : List (Bool × List Rp) := [(false, [.v false (.int .i64)])]
noncomputable def laws_szStandardkp : Keep := { loop := fun id => match id with | _ => ([], []), join := fun id => match id with | _ => none }
noncomputable def laws_szStandardc : Code := bodyOf Go.Proofs.Try.f30
noncomputable def laws_szStandardF (n : Nat) : Fun := { id := 30, sp := laws_szStandardsp, bs := laws_szStandardbs, rs := laws_szStandardrs, f := fun x y => laws_szStandard n x.1 x.2.1 }

theorem laws_szStandard_eq (n : Nat) (a0 : (ByteArray) × ((Int) × ((((Int) × (Int)) × ((Int) × (Int))) × (((Int) × (Int)) × ((Int) × (Int)))))) (a1 : Int) : runBody ([]) ty 13 n laws_szStandardkp laws_szStandardc Go.Proofs.Try.f30.results.toList laws_szStandardrs laws_szStandardsp laws_szStandardbs (a0, (a1, ())) () = laws_szStandard n a0 a1 := by
  have h : runBody ([]) ty 13 n laws_szStandardkp laws_szStandardc Go.Proofs.Try.f30.results.toList laws_szStandardrs laws_szStandardsp laws_szStandardbs (a0, (a1, ())) () = laws_szStandard_t n a0 a1 := by kernel_rfl
  rw [h]
  rfl

theorem laws_szStandard_ok (n : Nat) : FunOk P (laws_szStandardF n) :=
  funOk_mk (C := []) (N := 13) (kp := laws_szStandardkp) (c := laws_szStandardc) (n := n) (G := fun x y => laws_szStandard n x.1 x.2.1) follows (AllOk.mem (trivial : AllOk P ([]))) (by kernel_rfl : P.funcs[30]? = some Go.Proofs.Try.f30) (by kernel_rfl) (by kernel_rfl) (by kernel_rfl)
    (fun x y => laws_szStandard_eq n x.1 x.2.1) (fun _ _ => map_same (fun _ => rfl) _) (fun _ _ _ _ => rfl)

abbrev laws_szStandardSsp : List Sp := [.v false (.list (.pair .str (.pair (.int .i64) (.pair (.pair (.pair (.int .i64) (.int .i64)) (.pair (.int .i64) (.int .i64))) (.pair (.pair (.int .i64) (.int .i64)) (.pair (.int .i64) (.int .i64))))))), .v false (.int .i64)]
abbrev laws_szStandardSbs : List (Bs × Bool) := []
abbrev laws_szStandardSrs : List (Bool × List Rp) := [(false, [.v false (.int .i64)])]
noncomputable def laws_szStandardSkp : Keep := { loop := fun id => match id with | 5 => ([5, 1, 0], []) | _ => ([], []), join := fun id => match id with | _ => none }
noncomputable def laws_szStandardSc : Code := bodyOf Go.Proofs.Try.f15
noncomputable def laws_szStandardSF (n : Nat) : Fun := { id := 15, sp := laws_szStandardSsp, bs := laws_szStandardSbs, rs := laws_szStandardSrs, f := fun x y => laws_szStandardS n x.1 x.2.1 }

theorem laws_szStandardS_l5_eq (n : Nat) : ∀ (k : Nat) (v5 : Int) (v1 : Int) (v0 : List ((ByteArray) × ((Int) × ((((Int) × (Int)) × ((Int) × (Int))) × (((Int) × (Int)) × ((Int) × (Int))))))), iter (interp ([laws_szStandardF n]) ty 27 0 n laws_szStandardSkp (codeAt laws_szStandardSc [1, 1, 1, 0, 1, 0, 0])) (canon 0 (laws_szStandardSkp.loop 5)) (kAt ([laws_szStandardF n]) ty 27 0 n laws_szStandardSkp laws_szStandardSc [1, 1, 1, 0, 1, 0] [] (ending ty 0 Go.Proofs.Try.f15.results.toList laws_szStandardSrs laws_szStandardSbs)) k { env := [(5, .one (.sc (.int .i64 v5))), (1, .one (.sc (.int .i64 v1))), (0, .one (.list true (.pair .str (.pair (.int .i64) (.pair (.pair (.pair (.int .i64) (.int .i64)) (.pair (.int .i64) (.int .i64))) (.pair (.pair (.int .i64) (.int .i64)) (.pair (.int .i64) (.int .i64)))))) v0))], bx := [], nx := 0 } = laws_szStandardS_l5 n k v5 v1 v0
  | 0, _, _, _ => by kernel_rfl
  | k + 1, v5, v1, v0 => by
    have h : iter (interp ([laws_szStandardF n]) ty 27 0 n laws_szStandardSkp (codeAt laws_szStandardSc [1, 1, 1, 0, 1, 0, 0])) (canon 0 (laws_szStandardSkp.loop 5)) (kAt ([laws_szStandardF n]) ty 27 0 n laws_szStandardSkp laws_szStandardSc [1, 1, 1, 0, 1, 0] [] (ending ty 0 Go.Proofs.Try.f15.results.toList laws_szStandardSrs laws_szStandardSbs)) (k + 1) { env := [(5, .one (.sc (.int .i64 v5))), (1, .one (.sc (.int .i64 v1))), (0, .one (.list true (.pair .str (.pair (.int .i64) (.pair (.pair (.pair (.int .i64) (.int .i64)) (.pair (.int .i64) (.int .i64))) (.pair (.pair (.int .i64) (.int .i64)) (.pair (.int .i64) (.int .i64)))))) v0))], bx := [], nx := 0 } = laws_szStandardS_t5 n (fun v5 v1 v0 => iter (interp ([laws_szStandardF n]) ty 27 0 n laws_szStandardSkp (codeAt laws_szStandardSc [1, 1, 1, 0, 1, 0, 0])) (canon 0 (laws_szStandardSkp.loop 5)) (kAt ([laws_szStandardF n]) ty 27 0 n laws_szStandardSkp laws_szStandardSc [1, 1, 1, 0, 1, 0] [] (ending ty 0 Go.Proofs.Try.f15.results.toList laws_szStandardSrs laws_szStandardSbs)) k { env := [(5, .one (.sc (.int .i64 v5))), (1, .one (.sc (.int .i64 v1))), (0, .one (.list true (.pair .str (.pair (.int .i64) (.pair (.pair (.pair (.int .i64) (.int .i64)) (.pair (.int .i64) (.int .i64))) (.pair (.pair (.int .i64) (.int .i64)) (.pair (.int .i64) (.int .i64)))))) v0))], bx := [], nx := 0 }) v5 v1 v0 := by kernel_rfl
    rw [h]
    have e := congrArg (fun g => laws_szStandardS_t5 n g v5 v1 v0) (funext fun v5 => funext fun v1 => funext fun v0 => laws_szStandardS_l5_eq n k v5 v1 v0)
    exact e

theorem laws_szStandardS_eq (n : Nat) (a0 : List ((ByteArray) × ((Int) × ((((Int) × (Int)) × ((Int) × (Int))) × (((Int) × (Int)) × ((Int) × (Int))))))) (a1 : Int) : runBody ([laws_szStandardF n]) ty 27 n laws_szStandardSkp laws_szStandardSc Go.Proofs.Try.f15.results.toList laws_szStandardSrs laws_szStandardSsp laws_szStandardSbs (a0, (a1, ())) () = laws_szStandardS n a0 a1 := by
  have h : runBody ([laws_szStandardF n]) ty 27 n laws_szStandardSkp laws_szStandardSc Go.Proofs.Try.f15.results.toList laws_szStandardSrs laws_szStandardSsp laws_szStandardSbs (a0, (a1, ())) () = laws_szStandardS_t n (fun k v5 v1 v0 => iter (interp ([laws_szStandardF n]) ty 27 0 n laws_szStandardSkp (codeAt laws_szStandardSc [1, 1, 1, 0, 1, 0, 0])) (canon 0 (laws_szStandardSkp.loop 5)) (kAt ([laws_szStandardF n]) ty 27 0 n laws_szStandardSkp laws_szStandardSc [1, 1, 1, 0, 1, 0] [] (ending ty 0 Go.Proofs.Try.f15.results.toList laws_szStandardSrs laws_szStandardSbs)) k { env := [(5, .one (.sc (.int .i64 v5))), (1, .one (.sc (.int .i64 v1))), (0, .one (.list true (.pair .str (.pair (.int .i64) (.pair (.pair (.pair (.int .i64) (.int .i64)) (.pair (.int .i64) (.int .i64))) (.pair (.pair (.int .i64) (.int .i64)) (.pair (.int .i64) (.int .i64)))))) v0))], bx := [], nx := 0 }) a0 a1 := by kernel_rfl
  rw [h]
  have e := congrArg (fun h5 => laws_szStandardS_t n h5 a0 a1) (funext fun k => funext fun v5 => funext fun v1 => funext fun v0 => laws_szStandardS_l5_eq n k v5 v1 v0)
  exact e

theorem laws_szStandardS_ok (n : Nat) : FunOk P (laws_szStandardSF n) :=
  funOk_mk (C := [laws_szStandardF n]) (N := 27) (kp := laws_szStandardSkp) (c := laws_szStandardSc) (n := n) (G := fun x y => laws_szStandardS n x.1 x.2.1) follows (AllOk.mem (⟨laws_szStandard_ok n, trivial⟩ : AllOk P ([laws_szStandardF n]))) (by kernel_rfl : P.funcs[15]? = some Go.Proofs.Try.f15) (by kernel_rfl) (by kernel_rfl) (by kernel_rfl)
    (fun x y => laws_szStandardS_eq n x.1 x.2.1) (fun _ _ => map_same (fun _ => rfl) _) (fun _ _ _ _ => rfl)

abbrev laws_toFracsp : List Sp := [.v true (.pair (.int .i64) (.int .i64))]
abbrev laws_toFracbs : List (Bs × Bool) := []
abbrev laws_toFracrs : List (Bool × List Rp) := [(true, [.v false (.pair (.int .i64) (.int .i64))])]
noncomputable def laws_toFrackp : Keep := { loop := fun id => match id with | _ => ([], []), join := fun id => match id with | _ => none }
noncomputable def laws_toFracc : Code := bodyOf Go.Proofs.Try.f41
noncomputable def laws_toFracF (n : Nat) : Fun := { id := 41, sp := laws_toFracsp, bs := laws_toFracbs, rs := laws_toFracrs, f := fun x y => laws_toFrac n x.1 }

theorem laws_toFrac_eq (n : Nat) (a0 : (Int) × (Int)) : runBody ([]) ty 11 n laws_toFrackp laws_toFracc Go.Proofs.Try.f41.results.toList laws_toFracrs laws_toFracsp laws_toFracbs (a0, ()) () = laws_toFrac n a0 := by
  have h : runBody ([]) ty 11 n laws_toFrackp laws_toFracc Go.Proofs.Try.f41.results.toList laws_toFracrs laws_toFracsp laws_toFracbs (a0, ()) () = laws_toFrac_t n a0 := by kernel_rfl
  rw [h]
  rfl

theorem laws_toFrac_ok (n : Nat) : FunOk P (laws_toFracF n) :=
  funOk_mk (C := []) (N := 11) (kp := laws_toFrackp) (c := laws_toFracc) (n := n) (G := fun x y => laws_toFrac n x.1) follows (AllOk.mem (trivial : AllOk P ([]))) (by kernel_rfl : P.funcs[41]? = some Go.Proofs.Try.f41) (by kernel_rfl) (by kernel_rfl) (by kernel_rfl)
    (fun x y => laws_toFrac_eq n x.1) (fun _ _ => map_same (fun _ => rfl) _) (fun _ _ _ _ => rfl)

abbrev laws_toSpansp : List Sp := [.v true (.pair (.pair (.int .i64) (.int .i64)) (.pair (.int .i64) (.int .i64)))]
abbrev laws_toSpanbs : List (Bs × Bool) := []
abbrev laws_toSpanrs : List (Bool × List Rp) := [(true, [.v false (.pair (.pair (.int .i64) (.int .i64)) (.pair (.int .i64) (.int .i64)))])]
noncomputable def laws_toSpankp : Keep := { loop := fun id => match id with | _ => ([], []), join := fun id => match id with | _ => none }
noncomputable def laws_toSpanc : Code := bodyOf Go.Proofs.Try.f36
noncomputable def laws_toSpanF (n : Nat) : Fun := { id := 36, sp := laws_toSpansp, bs := laws_toSpanbs, rs := laws_toSpanrs, f := fun x y => laws_toSpan n x.1 }

theorem laws_toSpan_eq (n : Nat) (a0 : ((Int) × (Int)) × ((Int) × (Int))) : runBody ([laws_toFracF n]) ty 13 n laws_toSpankp laws_toSpanc Go.Proofs.Try.f36.results.toList laws_toSpanrs laws_toSpansp laws_toSpanbs (a0, ()) () = laws_toSpan n a0 := by
  have h : runBody ([laws_toFracF n]) ty 13 n laws_toSpankp laws_toSpanc Go.Proofs.Try.f36.results.toList laws_toSpanrs laws_toSpansp laws_toSpanbs (a0, ()) () = laws_toSpan_t n a0 := by kernel_rfl
  rw [h]
  rfl

theorem laws_toSpan_ok (n : Nat) : FunOk P (laws_toSpanF n) :=
  funOk_mk (C := [laws_toFracF n]) (N := 13) (kp := laws_toSpankp) (c := laws_toSpanc) (n := n) (G := fun x y => laws_toSpan n x.1) follows (AllOk.mem (⟨laws_toFrac_ok n, trivial⟩ : AllOk P ([laws_toFracF n]))) (by kernel_rfl : P.funcs[36]? = some Go.Proofs.Try.f36) (by kernel_rfl) (by kernel_rfl) (by kernel_rfl)
    (fun x y => laws_toSpan_eq n x.1) (fun _ _ => map_same (fun _ => rfl) _) (fun _ _ _ _ => rfl)

abbrev laws_toStandardsp : List Sp := [.v true (.pair .str (.pair (.int .i64) (.pair (.pair (.pair (.int .i64) (.int .i64)) (.pair (.int .i64) (.int .i64))) (.pair (.pair (.int .i64) (.int .i64)) (.pair (.int .i64) (.int .i64))))))]
abbrev laws_toStandardbs : List (Bs × Bool) := []
abbrev laws_toStandardrs : List (Bool × List Rp) := [(true, [.v false (.pair .str (.pair (.int .i64) (.pair (.pair (.pair (.int .i64) (.int .i64)) (.pair (.int .i64) (.int .i64))) (.pair (.pair (.int .i64) (.int .i64)) (.pair (.int .i64) (.int .i64))))))])]
noncomputable def laws_toStandardkp : Keep := { loop := fun id => match id with | _ => ([], []), join := fun id => match id with | _ => none }
noncomputable def laws_toStandardc : Code := bodyOf Go.Proofs.Try.f32
noncomputable def laws_toStandardF (n : Nat) : Fun := { id := 32, sp := laws_toStandardsp, bs := laws_toStandardbs, rs := laws_toStandardrs, f := fun x y => laws_toStandard n x.1 }

theorem laws_toStandard_eq (n : Nat) (a0 : (ByteArray) × ((Int) × ((((Int) × (Int)) × ((Int) × (Int))) × (((Int) × (Int)) × ((Int) × (Int)))))) : runBody ([laws_toSpanF n, laws_toFracF n]) ty 25 n laws_toStandardkp laws_toStandardc Go.Proofs.Try.f32.results.toList laws_toStandardrs laws_toStandardsp laws_toStandardbs (a0, ()) () = laws_toStandard n a0 := by
  have h : runBody ([laws_toSpanF n, laws_toFracF n]) ty 25 n laws_toStandardkp laws_toStandardc Go.Proofs.Try.f32.results.toList laws_toStandardrs laws_toStandardsp laws_toStandardbs (a0, ()) () = laws_toStandard_t n a0 := by kernel_rfl
  rw [h]
  rfl

theorem laws_toStandard_ok (n : Nat) : FunOk P (laws_toStandardF n) :=
  funOk_mk (C := [laws_toSpanF n, laws_toFracF n]) (N := 25) (kp := laws_toStandardkp) (c := laws_toStandardc) (n := n) (G := fun x y => laws_toStandard n x.1) follows (AllOk.mem (⟨laws_toSpan_ok n, ⟨laws_toFrac_ok n, trivial⟩⟩ : AllOk P ([laws_toSpanF n, laws_toFracF n]))) (by kernel_rfl : P.funcs[32]? = some Go.Proofs.Try.f32) (by kernel_rfl) (by kernel_rfl) (by kernel_rfl)
    (fun x y => laws_toStandard_eq n x.1) (fun _ _ => map_same (fun _ => rfl) _) (fun _ _ _ _ => rfl)

abbrev laws_toStandardSsp : List Sp := [.v false (.list (.pair .str (.pair (.int .i64) (.pair (.pair (.pair (.int .i64) (.int .i64)) (.pair (.int .i64) (.int .i64))) (.pair (.pair (.int .i64) (.int .i64)) (.pair (.int .i64) (.int .i64)))))))]
abbrev laws_toStandardSbs : List (Bs × Bool) := []
abbrev laws_toStandardSrs : List (Bool × List Rp) := [(false, [.new  (.pair .str (.pair (.int .i64) (.pair (.pair (.pair (.int .i64) (.int .i64)) (.pair (.int .i64) (.int .i64))) (.pair (.pair (.int .i64) (.int .i64)) (.pair (.int .i64) (.int .i64))))))])]
noncomputable def laws_toStandardSkp : Keep := { loop := fun id => match id with | 3 => ([4, 0, 3], []) | _ => ([], []), join := fun id => match id with | _ => none }
noncomputable def laws_toStandardSc : Code := bodyOf Go.Proofs.Try.f17
noncomputable def laws_toStandardSF (n : Nat) : Fun := { id := 17, sp := laws_toStandardSsp, bs := laws_toStandardSbs, rs := laws_toStandardSrs, f := fun x y => laws_toStandardS n x.1 }

theorem laws_toStandardS_l3_eq (n : Nat) : ∀ (k : Nat) (v4 : Int) (v0 : List ((ByteArray) × ((Int) × ((((Int) × (Int)) × ((Int) × (Int))) × (((Int) × (Int)) × ((Int) × (Int))))))) (b0 : List ((ByteArray) × ((Int) × ((((Int) × (Int)) × ((Int) × (Int))) × (((Int) × (Int)) × ((Int) × (Int))))))), iter (interp ([laws_toStandardF n]) ty 23 0 n laws_toStandardSkp (codeAt laws_toStandardSc [1, 1, 0, 1, 0, 0])) (canon 0 (laws_toStandardSkp.loop 3)) (kAt ([laws_toStandardF n]) ty 23 0 n laws_toStandardSkp laws_toStandardSc [1, 1, 0, 1, 0] [] (ending ty 0 Go.Proofs.Try.f17.results.toList laws_toStandardSrs laws_toStandardSbs)) k { env := [(4, .one (.sc (.int .i64 v4))), (0, .one (.list true (.pair .str (.pair (.int .i64) (.pair (.pair (.pair (.int .i64) (.int .i64)) (.pair (.int .i64) (.int .i64))) (.pair (.pair (.int .i64) (.int .i64)) (.pair (.int .i64) (.int .i64)))))) v0)), (3, .one (.slice 0 0 none))], bx := [(0, .row 0 (.pair .str (.pair (.int .i64) (.pair (.pair (.pair (.int .i64) (.int .i64)) (.pair (.int .i64) (.int .i64))) (.pair (.pair (.int .i64) (.int .i64)) (.pair (.int .i64) (.int .i64)))))) b0)], nx := 1 } = laws_toStandardS_l3 n k v4 v0 b0
  | 0, _, _, _ => by kernel_rfl
  | k + 1, v4, v0, b0 => by
    have h : iter (interp ([laws_toStandardF n]) ty 23 0 n laws_toStandardSkp (codeAt laws_toStandardSc [1, 1, 0, 1, 0, 0])) (canon 0 (laws_toStandardSkp.loop 3)) (kAt ([laws_toStandardF n]) ty 23 0 n laws_toStandardSkp laws_toStandardSc [1, 1, 0, 1, 0] [] (ending ty 0 Go.Proofs.Try.f17.results.toList laws_toStandardSrs laws_toStandardSbs)) (k + 1) { env := [(4, .one (.sc (.int .i64 v4))), (0, .one (.list true (.pair .str (.pair (.int .i64) (.pair (.pair (.pair (.int .i64) (.int .i64)) (.pair (.int .i64) (.int .i64))) (.pair (.pair (.int .i64) (.int .i64)) (.pair (.int .i64) (.int .i64)))))) v0)), (3, .one (.slice 0 0 none))], bx := [(0, .row 0 (.pair .str (.pair (.int .i64) (.pair (.pair (.pair (.int .i64) (.int .i64)) (.pair (.int .i64) (.int .i64))) (.pair (.pair (.int .i64) (.int .i64)) (.pair (.int .i64) (.int .i64)))))) b0)], nx := 1 } = laws_toStandardS_t3 n (fun v4 v0 b0 => iter (interp ([laws_toStandardF n]) ty 23 0 n laws_toStandardSkp (codeAt laws_toStandardSc [1, 1, 0, 1, 0, 0])) (canon 0 (laws_toStandardSkp.loop 3)) (kAt ([laws_toStandardF n]) ty 23 0 n laws_toStandardSkp laws_toStandardSc [1, 1, 0, 1, 0] [] (ending ty 0 Go.Proofs.Try.f17.results.toList laws_toStandardSrs laws_toStandardSbs)) k { env := [(4, .one (.sc (.int .i64 v4))), (0, .one (.list true (.pair .str (.pair (.int .i64) (.pair (.pair (.pair (.int .i64) (.int .i64)) (.pair (.int .i64) (.int .i64))) (.pair (.pair (.int .i64) (.int .i64)) (.pair (.int .i64) (.int .i64)))))) v0)), (3, .one (.slice 0 0 none))], bx := [(0, .row 0 (.pair .str (.pair (.int .i64) (.pair (.pair (.pair (.int .i64) (.int .i64)) (.pair (.int .i64) (.int .i64))) (.pair (.pair (.int .i64) (.int .i64)) (.pair (.int .i64) (.int .i64)))))) b0)], nx := 1 }) v4 v0 b0 := by kernel_rfl
    rw [h]
    have e := congrArg (fun g => laws_toStandardS_t3 n g v4 v0 b0) (funext fun v4 => funext fun v0 => funext fun b0 => laws_toStandardS_l3_eq n k v4 v0 b0)
    exact e

theorem laws_toStandardS_eq (n : Nat) (a0 : List ((ByteArray) × ((Int) × ((((Int) × (Int)) × ((Int) × (Int))) × (((Int) × (Int)) × ((Int) × (Int))))))) : runBody ([laws_toStandardF n]) ty 23 n laws_toStandardSkp laws_toStandardSc Go.Proofs.Try.f17.results.toList laws_toStandardSrs laws_toStandardSsp laws_toStandardSbs (a0, ()) () = laws_toStandardS n a0 := by
  have h : runBody ([laws_toStandardF n]) ty 23 n laws_toStandardSkp laws_toStandardSc Go.Proofs.Try.f17.results.toList laws_toStandardSrs laws_toStandardSsp laws_toStandardSbs (a0, ()) () = laws_toStandardS_t n (fun k v4 v0 b0 => iter (interp ([laws_toStandardF n]) ty 23 0 n laws_toStandardSkp (codeAt laws_toStandardSc [1, 1, 0, 1, 0, 0])) (canon 0 (laws_toStandardSkp.loop 3)) (kAt ([laws_toStandardF n]) ty 23 0 n laws_toStandardSkp laws_toStandardSc [1, 1, 0, 1, 0] [] (ending ty 0 Go.Proofs.Try.f17.results.toList laws_toStandardSrs laws_toStandardSbs)) k { env := [(4, .one (.sc (.int .i64 v4))), (0, .one (.list true (.pair .str (.pair (.int .i64) (.pair (.pair (.pair (.int .i64) (.int .i64)) (.pair (.int .i64) (.int .i64))) (.pair (.pair (.int .i64) (.int .i64)) (.pair (.int .i64) (.int .i64)))))) v0)), (3, .one (.slice 0 0 none))], bx := [(0, .row 0 (.pair .str (.pair (.int .i64) (.pair (.pair (.pair (.int .i64) (.int .i64)) (.pair (.int .i64) (.int .i64))) (.pair (.pair (.int .i64) (.int .i64)) (.pair (.int .i64) (.int .i64)))))) b0)], nx := 1 }) a0 := by kernel_rfl
  rw [h]
  have e := congrArg (fun h3 => laws_toStandardS_t n h3 a0) (funext fun k => funext fun v4 => funext fun v0 => funext fun b0 => laws_toStandardS_l3_eq n k v4 v0 b0)
  exact e

theorem laws_toStandardS_ok (n : Nat) : FunOk P (laws_toStandardSF n) :=
  funOk_mk (C := [laws_toStandardF n]) (N := 23) (kp := laws_toStandardSkp) (c := laws_toStandardSc) (n := n) (G := fun x y => laws_toStandardS n x.1) follows (AllOk.mem (⟨laws_toStandard_ok n, trivial⟩ : AllOk P ([laws_toStandardF n]))) (by kernel_rfl : P.funcs[17]? = some Go.Proofs.Try.f17) (by kernel_rfl) (by kernel_rfl) (by kernel_rfl)
    (fun x y => laws_toStandardS_eq n x.1) (fun _ _ => map_same (fun _ => rfl) _) (fun _ _ _ _ => rfl)

abbrev spec_l05Namesp : List Sp := [.v false .str]
abbrev spec_l05Namebs : List (Bs × Bool) := []
abbrev spec_l05Namers : List (Bool × List Rp) := [(false, [.v false .bool])]
noncomputable def spec_l05Namekp : Keep := { loop := fun id => match id with | 4 => ([3, 0], []) | _ => ([], []), join := fun id => match id with | _ => none }
noncomputable def spec_l05Namec : Code := bodyOf Go.Proofs.Try.f132
noncomputable def spec_l05NameF (n : Nat) : Fun := { id := 132, sp := spec_l05Namesp, bs := spec_l05Namebs, rs := spec_l05Namers, f := fun x y => spec_l05Name n x.1 }

theorem spec_l05Name_l4_eq (n : Nat) : ∀ (k : Nat) (v3 : Int) (v0 : ByteArray), iter (interp ([]) ty 28 0 n spec_l05Namekp (codeAt spec_l05Namec [1, 1, 0, 1, 0, 0])) (canon 0 (spec_l05Namekp.loop 4)) (kAt ([]) ty 28 0 n spec_l05Namekp spec_l05Namec [1, 1, 0, 1, 0] [] (ending ty 0 Go.Proofs.Try.f132.results.toList spec_l05Namers spec_l05Namebs)) k { env := [(3, .one (.sc (.int .i64 v3))), (0, .one (.sc (.string v0)))], bx := [], nx := 0 } = spec_l05Name_l4 n k v3 v0
  | 0, _, _ => by kernel_rfl
  | k + 1, v3, v0 => by
    have h : iter (interp ([]) ty 28 0 n spec_l05Namekp (codeAt spec_l05Namec [1, 1, 0, 1, 0, 0])) (canon 0 (spec_l05Namekp.loop 4)) (kAt ([]) ty 28 0 n spec_l05Namekp spec_l05Namec [1, 1, 0, 1, 0] [] (ending ty 0 Go.Proofs.Try.f132.results.toList spec_l05Namers spec_l05Namebs)) (k + 1) { env := [(3, .one (.sc (.int .i64 v3))), (0, .one (.sc (.string v0)))], bx := [], nx := 0 } = spec_l05Name_t4 n (fun v3 v0 => iter (interp ([]) ty 28 0 n spec_l05Namekp (codeAt spec_l05Namec [1, 1, 0, 1, 0, 0])) (canon 0 (spec_l05Namekp.loop 4)) (kAt ([]) ty 28 0 n spec_l05Namekp spec_l05Namec [1, 1, 0, 1, 0] [] (ending ty 0 Go.Proofs.Try.f132.results.toList spec_l05Namers spec_l05Namebs)) k { env := [(3, .one (.sc (.int .i64 v3))), (0, .one (.sc (.string v0)))], bx := [], nx := 0 }) v3 v0 := by kernel_rfl
    rw [h]
    have e := congrArg (fun g => spec_l05Name_t4 n g v3 v0) (funext fun v3 => funext fun v0 => spec_l05Name_l4_eq n k v3 v0)
    exact e

theorem spec_l05Name_eq (n : Nat) (a0 : ByteArray) : runBody ([]) ty 28 n spec_l05Namekp spec_l05Namec Go.Proofs.Try.f132.results.toList spec_l05Namers spec_l05Namesp spec_l05Namebs (a0, ()) () = spec_l05Name n a0 := by
  have h : runBody ([]) ty 28 n spec_l05Namekp spec_l05Namec Go.Proofs.Try.f132.results.toList spec_l05Namers spec_l05Namesp spec_l05Namebs (a0, ()) () = spec_l05Name_t n (fun k v3 v0 => iter (interp ([]) ty 28 0 n spec_l05Namekp (codeAt spec_l05Namec [1, 1, 0, 1, 0, 0])) (canon 0 (spec_l05Namekp.loop 4)) (kAt ([]) ty 28 0 n spec_l05Namekp spec_l05Namec [1, 1, 0, 1, 0] [] (ending ty 0 Go.Proofs.Try.f132.results.toList spec_l05Namers spec_l05Namebs)) k { env := [(3, .one (.sc (.int .i64 v3))), (0, .one (.sc (.string v0)))], bx := [], nx := 0 }) a0 := by kernel_rfl
  rw [h]
  have e := congrArg (fun h4 => spec_l05Name_t n h4 a0) (funext fun k => funext fun v3 => funext fun v0 => spec_l05Name_l4_eq n k v3 v0)
  exact e

theorem spec_l05Name_ok (n : Nat) : FunOk P (spec_l05NameF n) :=
  funOk_mk (C := []) (N := 28) (kp := spec_l05Namekp) (c := spec_l05Namec) (n := n) (G := fun x y => spec_l05Name n x.1) follows (AllOk.mem (trivial : AllOk P ([]))) (by kernel_rfl : P.funcs[132]? = some Go.Proofs.Try.f132) (by kernel_rfl) (by kernel_rfl) (by kernel_rfl)
    (fun x y => spec_l05Name_eq n x.1) (fun _ _ => map_same (fun _ => rfl) _) (fun _ _ _ _ => rfl)

abbrev spec_l00Insp : List Sp := [.v false (.int .i64), .v false (.int .i64), .v false (.int .i64)]
abbrev spec_l00Inbs : List (Bs × Bool) := []
abbrev spec_l00Inrs : List (Bool × List Rp) := [(false, [.v false .bool])]
noncomputable def spec_l00Inkp : Keep := { loop := fun id => match id with | _ => ([], []), join := fun id => match id with | _ => none }
noncomputable def spec_l00Inc : Code := bodyOf Go.Proofs.Try.f94
noncomputable def spec_l00InF (n : Nat) : Fun := { id := 94, sp := spec_l00Insp, bs := spec_l00Inbs, rs := spec_l00Inrs, f := fun x y => spec_l00In n x.1 x.2.1 x.2.2.1 }

theorem spec_l00In_eq (n : Nat) (a0 : Int) (a1 : Int) (a2 : Int) : runBody ([]) ty 15 n spec_l00Inkp spec_l00Inc Go.Proofs.Try.f94.results.toList spec_l00Inrs spec_l00Insp spec_l00Inbs (a0, (a1, (a2, ()))) () = spec_l00In n a0 a1 a2 := by
  have h : runBody ([]) ty 15 n spec_l00Inkp spec_l00Inc Go.Proofs.Try.f94.results.toList spec_l00Inrs spec_l00Insp spec_l00Inbs (a0, (a1, (a2, ()))) () = spec_l00In_t n a0 a1 a2 := by kernel_rfl
  rw [h]
  rfl

theorem spec_l00In_ok (n : Nat) : FunOk P (spec_l00InF n) :=
  funOk_mk (C := []) (N := 15) (kp := spec_l00Inkp) (c := spec_l00Inc) (n := n) (G := fun x y => spec_l00In n x.1 x.2.1 x.2.2.1) follows (AllOk.mem (trivial : AllOk P ([]))) (by kernel_rfl : P.funcs[94]? = some Go.Proofs.Try.f94) (by kernel_rfl) (by kernel_rfl) (by kernel_rfl)
    (fun x y => spec_l00In_eq n x.1 x.2.1 x.2.2.1) (fun _ _ => map_same (fun _ => rfl) _) (fun _ _ _ _ => rfl)

abbrev spec_l01Abssp : List Sp := [.v false (.int .i64)]
abbrev spec_l01Absbs : List (Bs × Bool) := []
abbrev spec_l01Absrs : List (Bool × List Rp) := [(false, [.v false (.int .i64)])]
noncomputable def spec_l01Abskp : Keep := { loop := fun id => match id with | _ => ([], []), join := fun id => match id with | _ => none }
noncomputable def spec_l01Absc : Code := bodyOf Go.Proofs.Try.f144
noncomputable def spec_l01AbsF (n : Nat) : Fun := { id := 144, sp := spec_l01Abssp, bs := spec_l01Absbs, rs := spec_l01Absrs, f := fun x y => spec_l01Abs n x.1 }

theorem spec_l01Abs_eq (n : Nat) (a0 : Int) : runBody ([]) ty 8 n spec_l01Abskp spec_l01Absc Go.Proofs.Try.f144.results.toList spec_l01Absrs spec_l01Abssp spec_l01Absbs (a0, ()) () = spec_l01Abs n a0 := by
  have h : runBody ([]) ty 8 n spec_l01Abskp spec_l01Absc Go.Proofs.Try.f144.results.toList spec_l01Absrs spec_l01Abssp spec_l01Absbs (a0, ()) () = spec_l01Abs_t n a0 := by kernel_rfl
  rw [h]
  rfl

theorem spec_l01Abs_ok (n : Nat) : FunOk P (spec_l01AbsF n) :=
  funOk_mk (C := []) (N := 8) (kp := spec_l01Abskp) (c := spec_l01Absc) (n := n) (G := fun x y => spec_l01Abs n x.1) follows (AllOk.mem (trivial : AllOk P ([]))) (by kernel_rfl : P.funcs[144]? = some Go.Proofs.Try.f144) (by kernel_rfl) (by kernel_rfl) (by kernel_rfl)
    (fun x y => spec_l01Abs_eq n x.1) (fun _ _ => map_same (fun _ => rfl) _) (fun _ _ _ _ => rfl)

abbrev spec_l01Gcdsp : List Sp := [.v false (.int .i64), .v false (.int .i64)]
abbrev spec_l01Gcdbs : List (Bs × Bool) := []
abbrev spec_l01Gcdrs : List (Bool × List Rp) := [(false, [.v false (.int .i64)])]
noncomputable def spec_l01Gcdkp : Keep := { loop := fun id => match id with | 1 => ([1, 0], []) | _ => ([], []), join := fun id => match id with | _ => none }
noncomputable def spec_l01Gcdc : Code := bodyOf Go.Proofs.Try.f143
noncomputable def spec_l01GcdF (n : Nat) : Fun := { id := 143, sp := spec_l01Gcdsp, bs := spec_l01Gcdbs, rs := spec_l01Gcdrs, f := fun x y => spec_l01Gcd n x.1 x.2.1 }

theorem spec_l01Gcd_l1_eq (n : Nat) : ∀ (k : Nat) (v1 : Int) (v0 : Int), iter (interp ([]) ty 14 0 n spec_l01Gcdkp (codeAt spec_l01Gcdc [1, 0, 0, 0])) (canon 0 (spec_l01Gcdkp.loop 1)) (kAt ([]) ty 14 0 n spec_l01Gcdkp spec_l01Gcdc [1, 0, 0] [] (ending ty 0 Go.Proofs.Try.f143.results.toList spec_l01Gcdrs spec_l01Gcdbs)) k { env := [(1, .one (.sc (.int .i64 v1))), (0, .one (.sc (.int .i64 v0)))], bx := [], nx := 0 } = spec_l01Gcd_l1 n k v1 v0
  | 0, _, _ => by kernel_rfl
  | k + 1, v1, v0 => by
    have h : iter (interp ([]) ty 14 0 n spec_l01Gcdkp (codeAt spec_l01Gcdc [1, 0, 0, 0])) (canon 0 (spec_l01Gcdkp.loop 1)) (kAt ([]) ty 14 0 n spec_l01Gcdkp spec_l01Gcdc [1, 0, 0] [] (ending ty 0 Go.Proofs.Try.f143.results.toList spec_l01Gcdrs spec_l01Gcdbs)) (k + 1) { env := [(1, .one (.sc (.int .i64 v1))), (0, .one (.sc (.int .i64 v0)))], bx := [], nx := 0 } = spec_l01Gcd_t1 n (fun v1 v0 => iter (interp ([]) ty 14 0 n spec_l01Gcdkp (codeAt spec_l01Gcdc [1, 0, 0, 0])) (canon 0 (spec_l01Gcdkp.loop 1)) (kAt ([]) ty 14 0 n spec_l01Gcdkp spec_l01Gcdc [1, 0, 0] [] (ending ty 0 Go.Proofs.Try.f143.results.toList spec_l01Gcdrs spec_l01Gcdbs)) k { env := [(1, .one (.sc (.int .i64 v1))), (0, .one (.sc (.int .i64 v0)))], bx := [], nx := 0 }) v1 v0 := by kernel_rfl
    rw [h]
    have e := congrArg (fun g => spec_l01Gcd_t1 n g v1 v0) (funext fun v1 => funext fun v0 => spec_l01Gcd_l1_eq n k v1 v0)
    exact e

theorem spec_l01Gcd_eq (n : Nat) (a0 : Int) (a1 : Int) : runBody ([]) ty 14 n spec_l01Gcdkp spec_l01Gcdc Go.Proofs.Try.f143.results.toList spec_l01Gcdrs spec_l01Gcdsp spec_l01Gcdbs (a0, (a1, ())) () = spec_l01Gcd n a0 a1 := by
  have h : runBody ([]) ty 14 n spec_l01Gcdkp spec_l01Gcdc Go.Proofs.Try.f143.results.toList spec_l01Gcdrs spec_l01Gcdsp spec_l01Gcdbs (a0, (a1, ())) () = spec_l01Gcd_t n (fun k v1 v0 => iter (interp ([]) ty 14 0 n spec_l01Gcdkp (codeAt spec_l01Gcdc [1, 0, 0, 0])) (canon 0 (spec_l01Gcdkp.loop 1)) (kAt ([]) ty 14 0 n spec_l01Gcdkp spec_l01Gcdc [1, 0, 0] [] (ending ty 0 Go.Proofs.Try.f143.results.toList spec_l01Gcdrs spec_l01Gcdbs)) k { env := [(1, .one (.sc (.int .i64 v1))), (0, .one (.sc (.int .i64 v0)))], bx := [], nx := 0 }) a0 a1 := by kernel_rfl
  rw [h]
  have e := congrArg (fun h1 => spec_l01Gcd_t n h1 a0 a1) (funext fun k => funext fun v1 => funext fun v0 => spec_l01Gcd_l1_eq n k v1 v0)
  exact e

theorem spec_l01Gcd_ok (n : Nat) : FunOk P (spec_l01GcdF n) :=
  funOk_mk (C := []) (N := 14) (kp := spec_l01Gcdkp) (c := spec_l01Gcdc) (n := n) (G := fun x y => spec_l01Gcd n x.1 x.2.1) follows (AllOk.mem (trivial : AllOk P ([]))) (by kernel_rfl : P.funcs[143]? = some Go.Proofs.Try.f143) (by kernel_rfl) (by kernel_rfl) (by kernel_rfl)
    (fun x y => spec_l01Gcd_eq n x.1 x.2.1) (fun _ _ => map_same (fun _ => rfl) _) (fun _ _ _ _ => rfl)

abbrev spec_l01Oksp : List Sp := [.v true (.pair (.int .i64) (.int .i64))]
abbrev spec_l01Okbs : List (Bs × Bool) := []
abbrev spec_l01Okrs : List (Bool × List Rp) := [(false, [.v false .bool])]
noncomputable def spec_l01Okkp : Keep := { loop := fun id => match id with | _ => ([], []), join := fun id => match id with | _ => none }
noncomputable def spec_l01Okc : Code := bodyOf Go.Proofs.Try.f93
noncomputable def spec_l01OkF (n : Nat) : Fun := { id := 93, sp := spec_l01Oksp, bs := spec_l01Okbs, rs := spec_l01Okrs, f := fun x y => spec_l01Ok n x.1 }

theorem spec_l01Ok_eq (n : Nat) (a0 : (Int) × (Int)) : runBody ([spec_l00InF n, spec_l01AbsF n, spec_l01GcdF n]) ty 20 n spec_l01Okkp spec_l01Okc Go.Proofs.Try.f93.results.toList spec_l01Okrs spec_l01Oksp spec_l01Okbs (a0, ()) () = spec_l01Ok n a0 := by
  have h : runBody ([spec_l00InF n, spec_l01AbsF n, spec_l01GcdF n]) ty 20 n spec_l01Okkp spec_l01Okc Go.Proofs.Try.f93.results.toList spec_l01Okrs spec_l01Oksp spec_l01Okbs (a0, ()) () = spec_l01Ok_t n a0 := by kernel_rfl
  rw [h]
  rfl

theorem spec_l01Ok_ok (n : Nat) : FunOk P (spec_l01OkF n) :=
  funOk_mk (C := [spec_l00InF n, spec_l01AbsF n, spec_l01GcdF n]) (N := 20) (kp := spec_l01Okkp) (c := spec_l01Okc) (n := n) (G := fun x y => spec_l01Ok n x.1) follows (AllOk.mem (⟨spec_l00In_ok n, ⟨spec_l01Abs_ok n, ⟨spec_l01Gcd_ok n, trivial⟩⟩⟩ : AllOk P ([spec_l00InF n, spec_l01AbsF n, spec_l01GcdF n]))) (by kernel_rfl : P.funcs[93]? = some Go.Proofs.Try.f93) (by kernel_rfl) (by kernel_rfl) (by kernel_rfl)
    (fun x y => spec_l01Ok_eq n x.1) (fun _ _ => map_same (fun _ => rfl) _) (fun _ _ _ _ => rfl)

abbrev spec_l01Cmpsp : List Sp := [.v true (.pair (.int .i64) (.int .i64)), .v true (.pair (.int .i64) (.int .i64))]
abbrev spec_l01Cmpbs : List (Bs × Bool) := []
abbrev spec_l01Cmprs : List (Bool × List Rp) := [(false, [.v false (.int .i64)])]
noncomputable def spec_l01Cmpkp : Keep := { loop := fun id => match id with | _ => ([], []), join := fun id => match id with | _ => none }
noncomputable def spec_l01Cmpc : Code := bodyOf Go.Proofs.Try.f141
noncomputable def spec_l01CmpF (n : Nat) : Fun := { id := 141, sp := spec_l01Cmpsp, bs := spec_l01Cmpbs, rs := spec_l01Cmprs, f := fun x y => spec_l01Cmp n x.1 x.2.1 }

theorem spec_l01Cmp_eq (n : Nat) (a0 : (Int) × (Int)) (a1 : (Int) × (Int)) : runBody ([]) ty 25 n spec_l01Cmpkp spec_l01Cmpc Go.Proofs.Try.f141.results.toList spec_l01Cmprs spec_l01Cmpsp spec_l01Cmpbs (a0, (a1, ())) () = spec_l01Cmp n a0 a1 := by
  have h : runBody ([]) ty 25 n spec_l01Cmpkp spec_l01Cmpc Go.Proofs.Try.f141.results.toList spec_l01Cmprs spec_l01Cmpsp spec_l01Cmpbs (a0, (a1, ())) () = spec_l01Cmp_t n a0 a1 := by kernel_rfl
  rw [h]
  rfl

theorem spec_l01Cmp_ok (n : Nat) : FunOk P (spec_l01CmpF n) :=
  funOk_mk (C := []) (N := 25) (kp := spec_l01Cmpkp) (c := spec_l01Cmpc) (n := n) (G := fun x y => spec_l01Cmp n x.1 x.2.1) follows (AllOk.mem (trivial : AllOk P ([]))) (by kernel_rfl : P.funcs[141]? = some Go.Proofs.Try.f141) (by kernel_rfl) (by kernel_rfl) (by kernel_rfl)
    (fun x y => spec_l01Cmp_eq n x.1 x.2.1) (fun _ _ => map_same (fun _ => rfl) _) (fun _ _ _ _ => rfl)

abbrev spec_l01Span_esp : List Sp := [.er (.pair (.pair (.int .i64) (.int .i64)) (.pair (.int .i64) (.int .i64)))]
abbrev spec_l01Span_ebs : List (Bs × Bool) := []
abbrev spec_l01Span_ers : List (Bool × List Rp) := [(false, [.v false .bool])]
noncomputable def spec_l01Span_ekp : Keep := { loop := fun id => match id with | _ => ([], []), join := fun id => match id with | _ => none }
noncomputable def spec_l01Span_ec : Code := bodyOf Go.Proofs.Try.f90
noncomputable def spec_l01Span_eF (n : Nat) : Fun := { id := 90, sp := spec_l01Span_esp, bs := spec_l01Span_ebs, rs := spec_l01Span_ers, f := fun x y => spec_l01Span_e n x.1 }

theorem spec_l01Span_e_eq (n : Nat) (a0 : ((Int) × (Int)) × ((Int) × (Int))) : runBody ([spec_l01OkF n, spec_l01CmpF n]) ty 27 n spec_l01Span_ekp spec_l01Span_ec Go.Proofs.Try.f90.results.toList spec_l01Span_ers spec_l01Span_esp spec_l01Span_ebs (a0, ()) () = spec_l01Span_e n a0 := by
  have h : runBody ([spec_l01OkF n, spec_l01CmpF n]) ty 27 n spec_l01Span_ekp spec_l01Span_ec Go.Proofs.Try.f90.results.toList spec_l01Span_ers spec_l01Span_esp spec_l01Span_ebs (a0, ()) () = spec_l01Span_e_t n a0 := by kernel_rfl
  rw [h]
  rfl

theorem spec_l01Span_e_ok (n : Nat) : FunOk P (spec_l01Span_eF n) :=
  funOk_mk (C := [spec_l01OkF n, spec_l01CmpF n]) (N := 27) (kp := spec_l01Span_ekp) (c := spec_l01Span_ec) (n := n) (G := fun x y => spec_l01Span_e n x.1) follows (AllOk.mem (⟨spec_l01Ok_ok n, ⟨spec_l01Cmp_ok n, trivial⟩⟩ : AllOk P ([spec_l01OkF n, spec_l01CmpF n]))) (by kernel_rfl : P.funcs[90]? = some Go.Proofs.Try.f90) (by kernel_rfl) (by kernel_rfl) (by kernel_rfl)
    (fun x y => spec_l01Span_e_eq n x.1) (fun _ _ => map_same (fun _ => rfl) _) (fun _ _ _ _ => rfl)

abbrev spec_l05Daysp : List Sp := [.v false (.int .i64)]
abbrev spec_l05Daybs : List (Bs × Bool) := []
abbrev spec_l05Dayrs : List (Bool × List Rp) := [(false, [.v false .bool])]
noncomputable def spec_l05Daykp : Keep := { loop := fun id => match id with | _ => ([], []), join := fun id => match id with | _ => none }
noncomputable def spec_l05Dayc : Code := bodyOf Go.Proofs.Try.f71
noncomputable def spec_l05DayF (n : Nat) : Fun := { id := 71, sp := spec_l05Daysp, bs := spec_l05Daybs, rs := spec_l05Dayrs, f := fun x y => spec_l05Day n x.1 }

theorem spec_l05Day_eq (n : Nat) (a0 : Int) : runBody ([spec_l00InF n]) ty 5 n spec_l05Daykp spec_l05Dayc Go.Proofs.Try.f71.results.toList spec_l05Dayrs spec_l05Daysp spec_l05Daybs (a0, ()) () = spec_l05Day n a0 := by
  have h : runBody ([spec_l00InF n]) ty 5 n spec_l05Daykp spec_l05Dayc Go.Proofs.Try.f71.results.toList spec_l05Dayrs spec_l05Daysp spec_l05Daybs (a0, ()) () = spec_l05Day_t n a0 := by kernel_rfl
  rw [h]
  rfl

theorem spec_l05Day_ok (n : Nat) : FunOk P (spec_l05DayF n) :=
  funOk_mk (C := [spec_l00InF n]) (N := 5) (kp := spec_l05Daykp) (c := spec_l05Dayc) (n := n) (G := fun x y => spec_l05Day n x.1) follows (AllOk.mem (⟨spec_l00In_ok n, trivial⟩ : AllOk P ([spec_l00InF n]))) (by kernel_rfl : P.funcs[71]? = some Go.Proofs.Try.f71) (by kernel_rfl) (by kernel_rfl) (by kernel_rfl)
    (fun x y => spec_l05Day_eq n x.1) (fun _ _ => map_same (fun _ => rfl) _) (fun _ _ _ _ => rfl)

abbrev spec_l05Good_esp : List Sp := [.er (.pair .str (.pair (.int .i64) (.pair (.pair (.pair (.int .i64) (.int .i64)) (.pair (.int .i64) (.int .i64))) (.pair (.pair (.int .i64) (.int .i64)) (.pair (.int .i64) (.int .i64)))))), .v false (.int .i64)]
abbrev spec_l05Good_ebs : List (Bs × Bool) := []
abbrev spec_l05Good_ers : List (Bool × List Rp) := [(false, [.v false .bool])]
noncomputable def spec_l05Good_ekp : Keep := { loop := fun id => match id with | _ => ([], []), join := fun id => match id with | _ => none }
noncomputable def spec_l05Good_ec : Code := bodyOf Go.Proofs.Try.f72
noncomputable def spec_l05Good_eF (n : Nat) : Fun := { id := 72, sp := spec_l05Good_esp, bs := spec_l05Good_ebs, rs := spec_l05Good_ers, f := fun x y => spec_l05Good_e n x.1 x.2.1 }

theorem spec_l05Good_e_eq (n : Nat) (a0 : (ByteArray) × ((Int) × ((((Int) × (Int)) × ((Int) × (Int))) × (((Int) × (Int)) × ((Int) × (Int)))))) (a1 : Int) : runBody ([]) ty 24 n spec_l05Good_ekp spec_l05Good_ec Go.Proofs.Try.f72.results.toList spec_l05Good_ers spec_l05Good_esp spec_l05Good_ebs (a0, (a1, ())) () = spec_l05Good_e n a0 a1 := by
  have h : runBody ([]) ty 24 n spec_l05Good_ekp spec_l05Good_ec Go.Proofs.Try.f72.results.toList spec_l05Good_ers spec_l05Good_esp spec_l05Good_ebs (a0, (a1, ())) () = spec_l05Good_e_t n a0 a1 := by kernel_rfl
  rw [h]
  rfl

theorem spec_l05Good_e_ok (n : Nat) : FunOk P (spec_l05Good_eF n) :=
  funOk_mk (C := []) (N := 24) (kp := spec_l05Good_ekp) (c := spec_l05Good_ec) (n := n) (G := fun x y => spec_l05Good_e n x.1 x.2.1) follows (AllOk.mem (trivial : AllOk P ([]))) (by kernel_rfl : P.funcs[72]? = some Go.Proofs.Try.f72) (by kernel_rfl) (by kernel_rfl) (by kernel_rfl)
    (fun x y => spec_l05Good_e_eq n x.1 x.2.1) (fun _ _ => map_same (fun _ => rfl) _) (fun _ _ _ _ => rfl)

abbrev spec_l05Standard_esp : List Sp := [.v false (.list (.pair .str (.pair (.int .i64) (.pair (.pair (.pair (.int .i64) (.int .i64)) (.pair (.int .i64) (.int .i64))) (.pair (.pair (.int .i64) (.int .i64)) (.pair (.int .i64) (.int .i64))))))), .er (.pair .str (.pair (.int .i64) (.pair (.pair (.pair (.int .i64) (.int .i64)) (.pair (.int .i64) (.int .i64))) (.pair (.pair (.int .i64) (.int .i64)) (.pair (.int .i64) (.int .i64))))))]
abbrev spec_l05Standard_ebs : List (Bs × Bool) := []
abbrev spec_l05Standard_ers : List (Bool × List Rp) := [(false, [.v false .bool])]
noncomputable def spec_l05Standard_ekp : Keep := { loop := fun id => match id with | _ => ([], []), join := fun id => match id with | _ => none }
noncomputable def spec_l05Standard_ec : Code := bodyOf Go.Proofs.Try.f133
noncomputable def spec_l05Standard_eF (n : Nat) : Fun := { id := 133, sp := spec_l05Standard_esp, bs := spec_l05Standard_ebs, rs := spec_l05Standard_ers, f := fun x y => spec_l05Standard_e n x.1 x.2.1 }

theorem spec_l05Standard_e_eq (n : Nat) (a0 : List ((ByteArray) × ((Int) × ((((Int) × (Int)) × ((Int) × (Int))) × (((Int) × (Int)) × ((Int) × (Int))))))) (a1 : (ByteArray) × ((Int) × ((((Int) × (Int)) × ((Int) × (Int))) × (((Int) × (Int)) × ((Int) × (Int)))))) : runBody ([spec_l01Span_eF n, spec_l01OkF n, spec_l05DayF n, spec_l00InF n, spec_l05Good_eF n]) ty 68 n spec_l05Standard_ekp spec_l05Standard_ec Go.Proofs.Try.f133.results.toList spec_l05Standard_ers spec_l05Standard_esp spec_l05Standard_ebs (a0, (a1, ())) () = spec_l05Standard_e n a0 a1 := by
  have h : runBody ([spec_l01Span_eF n, spec_l01OkF n, spec_l05DayF n, spec_l00InF n, spec_l05Good_eF n]) ty 68 n spec_l05Standard_ekp spec_l05Standard_ec Go.Proofs.Try.f133.results.toList spec_l05Standard_ers spec_l05Standard_esp spec_l05Standard_ebs (a0, (a1, ())) () = spec_l05Standard_e_t n a0 a1 := by kernel_rfl
  rw [h]
  rfl

theorem spec_l05Standard_e_ok (n : Nat) : FunOk P (spec_l05Standard_eF n) :=
  funOk_mk (C := [spec_l01Span_eF n, spec_l01OkF n, spec_l05DayF n, spec_l00InF n, spec_l05Good_eF n]) (N := 68) (kp := spec_l05Standard_ekp) (c := spec_l05Standard_ec) (n := n) (G := fun x y => spec_l05Standard_e n x.1 x.2.1) follows (AllOk.mem (⟨spec_l01Span_e_ok n, ⟨spec_l01Ok_ok n, ⟨spec_l05Day_ok n, ⟨spec_l00In_ok n, ⟨spec_l05Good_e_ok n, trivial⟩⟩⟩⟩⟩ : AllOk P ([spec_l01Span_eF n, spec_l01OkF n, spec_l05DayF n, spec_l00InF n, spec_l05Good_eF n]))) (by kernel_rfl : P.funcs[133]? = some Go.Proofs.Try.f133) (by kernel_rfl) (by kernel_rfl) (by kernel_rfl)
    (fun x y => spec_l05Standard_e_eq n x.1 x.2.1) (fun _ _ => map_same (fun _ => rfl) _) (fun _ _ _ _ => rfl)

abbrev spec_l05Oksp : List Sp := [.v false (.list (.pair .str (.pair (.int .i64) (.pair (.pair (.pair (.int .i64) (.int .i64)) (.pair (.int .i64) (.int .i64))) (.pair (.pair (.int .i64) (.int .i64)) (.pair (.int .i64) (.int .i64)))))))]
abbrev spec_l05Okbs : List (Bs × Bool) := []
abbrev spec_l05Okrs : List (Bool × List Rp) := [(false, [.v false .bool])]
noncomputable def spec_l05Okkp : Keep := { loop := fun id => match id with | 4 => ([3, 0], []) | 9 => ([4, 3, 0], []) | _ => ([], []), join := fun id => match id with | _ => none }
noncomputable def spec_l05Okc : Code := bodyOf Go.Proofs.Try.f70
noncomputable def spec_l05OkF (n : Nat) : Fun := { id := 70, sp := spec_l05Oksp, bs := spec_l05Okbs, rs := spec_l05Okrs, f := fun x y => spec_l05Ok n x.1 }

theorem spec_l05Ok_l9_eq (n : Nat) (G4 : St → Option ((((Bool) × (Unit)) × (Unit)) × (Unit))) : ∀ (k : Nat) (v4 : Int) (v3 : Int) (v0 : List ((ByteArray) × ((Int) × ((((Int) × (Int)) × ((Int) × (Int))) × (((Int) × (Int)) × ((Int) × (Int))))))), iter (interp ([spec_l05NameF n, spec_l05Standard_eF n]) ty 47 0 n spec_l05Okkp (codeAt spec_l05Okc [1, 1, 0, 1, 0, 0, 1, 0, 0, 1, 1, 0, 0])) (canon 0 (spec_l05Okkp.loop 9)) (kAt ([spec_l05NameF n, spec_l05Standard_eF n]) ty 47 0 n spec_l05Okkp spec_l05Okc [1, 1, 0, 1, 0, 0, 1, 0, 0, 1, 1, 0] [G4] (ending ty 0 Go.Proofs.Try.f70.results.toList spec_l05Okrs spec_l05Okbs)) k { env := [(4, .one (.sc (.int .i64 v4))), (3, .one (.sc (.int .i64 v3))), (0, .one (.list true (.pair .str (.pair (.int .i64) (.pair (.pair (.pair (.int .i64) (.int .i64)) (.pair (.int .i64) (.int .i64))) (.pair (.pair (.int .i64) (.int .i64)) (.pair (.int .i64) (.int .i64)))))) v0))], bx := [], nx := 0 } = spec_l05Ok_l9 n (fun v3 v0 => G4 { env := [(3, .one (.sc (.int .i64 v3))), (0, .one (.list true (.pair .str (.pair (.int .i64) (.pair (.pair (.pair (.int .i64) (.int .i64)) (.pair (.int .i64) (.int .i64))) (.pair (.pair (.int .i64) (.int .i64)) (.pair (.int .i64) (.int .i64)))))) v0))], bx := [], nx := 0 }) k v4 v3 v0
  | 0, _, _, _ => by kernel_rfl
  | k + 1, v4, v3, v0 => by
    have h : iter (interp ([spec_l05NameF n, spec_l05Standard_eF n]) ty 47 0 n spec_l05Okkp (codeAt spec_l05Okc [1, 1, 0, 1, 0, 0, 1, 0, 0, 1, 1, 0, 0])) (canon 0 (spec_l05Okkp.loop 9)) (kAt ([spec_l05NameF n, spec_l05Standard_eF n]) ty 47 0 n spec_l05Okkp spec_l05Okc [1, 1, 0, 1, 0, 0, 1, 0, 0, 1, 1, 0] [G4] (ending ty 0 Go.Proofs.Try.f70.results.toList spec_l05Okrs spec_l05Okbs)) (k + 1) { env := [(4, .one (.sc (.int .i64 v4))), (3, .one (.sc (.int .i64 v3))), (0, .one (.list true (.pair .str (.pair (.int .i64) (.pair (.pair (.pair (.int .i64) (.int .i64)) (.pair (.int .i64) (.int .i64))) (.pair (.pair (.int .i64) (.int .i64)) (.pair (.int .i64) (.int .i64)))))) v0))], bx := [], nx := 0 } = spec_l05Ok_t9 n (fun v3 v0 => G4 { env := [(3, .one (.sc (.int .i64 v3))), (0, .one (.list true (.pair .str (.pair (.int .i64) (.pair (.pair (.pair (.int .i64) (.int .i64)) (.pair (.int .i64) (.int .i64))) (.pair (.pair (.int .i64) (.int .i64)) (.pair (.int .i64) (.int .i64)))))) v0))], bx := [], nx := 0 }) (fun v4 v3 v0 => iter (interp ([spec_l05NameF n, spec_l05Standard_eF n]) ty 47 0 n spec_l05Okkp (codeAt spec_l05Okc [1, 1, 0, 1, 0, 0, 1, 0, 0, 1, 1, 0, 0])) (canon 0 (spec_l05Okkp.loop 9)) (kAt ([spec_l05NameF n, spec_l05Standard_eF n]) ty 47 0 n spec_l05Okkp spec_l05Okc [1, 1, 0, 1, 0, 0, 1, 0, 0, 1, 1, 0] [G4] (ending ty 0 Go.Proofs.Try.f70.results.toList spec_l05Okrs spec_l05Okbs)) k { env := [(4, .one (.sc (.int .i64 v4))), (3, .one (.sc (.int .i64 v3))), (0, .one (.list true (.pair .str (.pair (.int .i64) (.pair (.pair (.pair (.int .i64) (.int .i64)) (.pair (.int .i64) (.int .i64))) (.pair (.pair (.int .i64) (.int .i64)) (.pair (.int .i64) (.int .i64)))))) v0))], bx := [], nx := 0 }) v4 v3 v0 := by kernel_rfl
    rw [h]
    have e := congrArg (fun g => spec_l05Ok_t9 n (fun v3 v0 => G4 { env := [(3, .one (.sc (.int .i64 v3))), (0, .one (.list true (.pair .str (.pair (.int .i64) (.pair (.pair (.pair (.int .i64) (.int .i64)) (.pair (.int .i64) (.int .i64))) (.pair (.pair (.int .i64) (.int .i64)) (.pair (.int .i64) (.int .i64)))))) v0))], bx := [], nx := 0 }) g v4 v3 v0) (funext fun v4 => funext fun v3 => funext fun v0 => spec_l05Ok_l9_eq n G4 k v4 v3 v0)
    exact e

theorem spec_l05Ok_l4_eq (n : Nat) : ∀ (k : Nat) (v3 : Int) (v0 : List ((ByteArray) × ((Int) × ((((Int) × (Int)) × ((Int) × (Int))) × (((Int) × (Int)) × ((Int) × (Int))))))), iter (interp ([spec_l05NameF n, spec_l05Standard_eF n]) ty 47 0 n spec_l05Okkp (codeAt spec_l05Okc [1, 1, 0, 1, 0, 0])) (canon 0 (spec_l05Okkp.loop 4)) (kAt ([spec_l05NameF n, spec_l05Standard_eF n]) ty 47 0 n spec_l05Okkp spec_l05Okc [1, 1, 0, 1, 0] [] (ending ty 0 Go.Proofs.Try.f70.results.toList spec_l05Okrs spec_l05Okbs)) k { env := [(3, .one (.sc (.int .i64 v3))), (0, .one (.list true (.pair .str (.pair (.int .i64) (.pair (.pair (.pair (.int .i64) (.int .i64)) (.pair (.int .i64) (.int .i64))) (.pair (.pair (.int .i64) (.int .i64)) (.pair (.int .i64) (.int .i64)))))) v0))], bx := [], nx := 0 } = spec_l05Ok_l4 n k v3 v0
  | 0, _, _ => by kernel_rfl
  | k + 1, v3, v0 => by
    have h : iter (interp ([spec_l05NameF n, spec_l05Standard_eF n]) ty 47 0 n spec_l05Okkp (codeAt spec_l05Okc [1, 1, 0, 1, 0, 0])) (canon 0 (spec_l05Okkp.loop 4)) (kAt ([spec_l05NameF n, spec_l05Standard_eF n]) ty 47 0 n spec_l05Okkp spec_l05Okc [1, 1, 0, 1, 0] [] (ending ty 0 Go.Proofs.Try.f70.results.toList spec_l05Okrs spec_l05Okbs)) (k + 1) { env := [(3, .one (.sc (.int .i64 v3))), (0, .one (.list true (.pair .str (.pair (.int .i64) (.pair (.pair (.pair (.int .i64) (.int .i64)) (.pair (.int .i64) (.int .i64))) (.pair (.pair (.int .i64) (.int .i64)) (.pair (.int .i64) (.int .i64)))))) v0))], bx := [], nx := 0 } = spec_l05Ok_t4 n (fun k' v4 v3 v0 => iter (interp ([spec_l05NameF n, spec_l05Standard_eF n]) ty 47 0 n spec_l05Okkp (codeAt spec_l05Okc [1, 1, 0, 1, 0, 0, 1, 0, 0, 1, 1, 0, 0])) (canon 0 (spec_l05Okkp.loop 9)) (kAt ([spec_l05NameF n, spec_l05Standard_eF n]) ty 47 0 n spec_l05Okkp spec_l05Okc [1, 1, 0, 1, 0, 0, 1, 0, 0, 1, 1, 0] [(fun s => iter (interp ([spec_l05NameF n, spec_l05Standard_eF n]) ty 47 0 n spec_l05Okkp (codeAt spec_l05Okc [1, 1, 0, 1, 0, 0])) (canon 0 (spec_l05Okkp.loop 4)) (kAt ([spec_l05NameF n, spec_l05Standard_eF n]) ty 47 0 n spec_l05Okkp spec_l05Okc [1, 1, 0, 1, 0] [] (ending ty 0 Go.Proofs.Try.f70.results.toList spec_l05Okrs spec_l05Okbs)) k s)] (ending ty 0 Go.Proofs.Try.f70.results.toList spec_l05Okrs spec_l05Okbs)) k' { env := [(4, .one (.sc (.int .i64 v4))), (3, .one (.sc (.int .i64 v3))), (0, .one (.list true (.pair .str (.pair (.int .i64) (.pair (.pair (.pair (.int .i64) (.int .i64)) (.pair (.int .i64) (.int .i64))) (.pair (.pair (.int .i64) (.int .i64)) (.pair (.int .i64) (.int .i64)))))) v0))], bx := [], nx := 0 }) (fun v3 v0 => iter (interp ([spec_l05NameF n, spec_l05Standard_eF n]) ty 47 0 n spec_l05Okkp (codeAt spec_l05Okc [1, 1, 0, 1, 0, 0])) (canon 0 (spec_l05Okkp.loop 4)) (kAt ([spec_l05NameF n, spec_l05Standard_eF n]) ty 47 0 n spec_l05Okkp spec_l05Okc [1, 1, 0, 1, 0] [] (ending ty 0 Go.Proofs.Try.f70.results.toList spec_l05Okrs spec_l05Okbs)) k { env := [(3, .one (.sc (.int .i64 v3))), (0, .one (.list true (.pair .str (.pair (.int .i64) (.pair (.pair (.pair (.int .i64) (.int .i64)) (.pair (.int .i64) (.int .i64))) (.pair (.pair (.int .i64) (.int .i64)) (.pair (.int .i64) (.int .i64)))))) v0))], bx := [], nx := 0 }) v3 v0 := by kernel_rfl
    rw [h]
    have e := congr (congrArg (fun h9 g => spec_l05Ok_t4 n h9 g v3 v0) ((funext fun k' => funext fun v4 => funext fun v3 => funext fun v0 => spec_l05Ok_l9_eq n (fun s => iter (interp ([spec_l05NameF n, spec_l05Standard_eF n]) ty 47 0 n spec_l05Okkp (codeAt spec_l05Okc [1, 1, 0, 1, 0, 0])) (canon 0 (spec_l05Okkp.loop 4)) (kAt ([spec_l05NameF n, spec_l05Standard_eF n]) ty 47 0 n spec_l05Okkp spec_l05Okc [1, 1, 0, 1, 0] [] (ending ty 0 Go.Proofs.Try.f70.results.toList spec_l05Okrs spec_l05Okbs)) k s) k' v4 v3 v0).trans (congrArg (fun z => spec_l05Ok_l9 n z) (funext fun v3 => funext fun v0 => spec_l05Ok_l4_eq n k v3 v0)))) (funext fun v3 => funext fun v0 => spec_l05Ok_l4_eq n k v3 v0)
    exact e

theorem spec_l05Ok_eq (n : Nat) (a0 : List ((ByteArray) × ((Int) × ((((Int) × (Int)) × ((Int) × (Int))) × (((Int) × (Int)) × ((Int) × (Int))))))) : runBody ([spec_l05NameF n, spec_l05Standard_eF n]) ty 47 n spec_l05Okkp spec_l05Okc Go.Proofs.Try.f70.results.toList spec_l05Okrs spec_l05Oksp spec_l05Okbs (a0, ()) () = spec_l05Ok n a0 := by
  have h : runBody ([spec_l05NameF n, spec_l05Standard_eF n]) ty 47 n spec_l05Okkp spec_l05Okc Go.Proofs.Try.f70.results.toList spec_l05Okrs spec_l05Oksp spec_l05Okbs (a0, ()) () = spec_l05Ok_t n (fun k v3 v0 => iter (interp ([spec_l05NameF n, spec_l05Standard_eF n]) ty 47 0 n spec_l05Okkp (codeAt spec_l05Okc [1, 1, 0, 1, 0, 0])) (canon 0 (spec_l05Okkp.loop 4)) (kAt ([spec_l05NameF n, spec_l05Standard_eF n]) ty 47 0 n spec_l05Okkp spec_l05Okc [1, 1, 0, 1, 0] [] (ending ty 0 Go.Proofs.Try.f70.results.toList spec_l05Okrs spec_l05Okbs)) k { env := [(3, .one (.sc (.int .i64 v3))), (0, .one (.list true (.pair .str (.pair (.int .i64) (.pair (.pair (.pair (.int .i64) (.int .i64)) (.pair (.int .i64) (.int .i64))) (.pair (.pair (.int .i64) (.int .i64)) (.pair (.int .i64) (.int .i64)))))) v0))], bx := [], nx := 0 }) a0 := by kernel_rfl
  rw [h]
  have e := congrArg (fun h4 => spec_l05Ok_t n h4 a0) (funext fun k => funext fun v3 => funext fun v0 => spec_l05Ok_l4_eq n k v3 v0)
  exact e

theorem spec_l05Ok_ok (n : Nat) : FunOk P (spec_l05OkF n) :=
  funOk_mk (C := [spec_l05NameF n, spec_l05Standard_eF n]) (N := 47) (kp := spec_l05Okkp) (c := spec_l05Okc) (n := n) (G := fun x y => spec_l05Ok n x.1) follows (AllOk.mem (⟨spec_l05Name_ok n, ⟨spec_l05Standard_e_ok n, trivial⟩⟩ : AllOk P ([spec_l05NameF n, spec_l05Standard_eF n]))) (by kernel_rfl : P.funcs[70]? = some Go.Proofs.Try.f70) (by kernel_rfl) (by kernel_rfl) (by kernel_rfl)
    (fun x y => spec_l05Ok_eq n x.1) (fun _ _ => map_same (fun _ => rfl) _) (fun _ _ _ _ => rfl)

abbrev spec_l01Spansp : List Sp := [.ref 0]
abbrev spec_l01Spanbs : List (Bs × Bool) := [(.var 47 (.pair (.pair (.int .i64) (.int .i64)) (.pair (.int .i64) (.int .i64))), true)]
abbrev spec_l01Spanrs : List (Bool × List Rp) := [(false, [.v false .bool])]
noncomputable def spec_l01Spankp : Keep := { loop := fun id => match id with | _ => ([], []), join := fun id => match id with | _ => none }
noncomputable def spec_l01Spanc : Code := bodyOf Go.Proofs.Try.f90
noncomputable def spec_l01SpanF (n : Nat) : Fun := { id := 90, sp := spec_l01Spansp, bs := spec_l01Spanbs, rs := spec_l01Spanrs, f := fun x y => spec_l01Span n y.1 }

theorem spec_l01Span_eq (n : Nat) (b0 : ((Int) × (Int)) × ((Int) × (Int))) : runBody ([spec_l01OkF n, spec_l01CmpF n]) ty 27 n spec_l01Spankp spec_l01Spanc Go.Proofs.Try.f90.results.toList spec_l01Spanrs spec_l01Spansp spec_l01Spanbs ((), ()) (b0, ()) = spec_l01Span n b0 := by
  have h : runBody ([spec_l01OkF n, spec_l01CmpF n]) ty 27 n spec_l01Spankp spec_l01Spanc Go.Proofs.Try.f90.results.toList spec_l01Spanrs spec_l01Spansp spec_l01Spanbs ((), ()) (b0, ()) = spec_l01Span_t n b0 := by kernel_rfl
  rw [h]
  rfl

theorem spec_l01Span_ok (n : Nat) : FunOk P (spec_l01SpanF n) :=
  funOk_mk (C := [spec_l01OkF n, spec_l01CmpF n]) (N := 27) (kp := spec_l01Spankp) (c := spec_l01Spanc) (n := n) (G := fun x y => spec_l01Span n y.1) follows (AllOk.mem (⟨spec_l01Ok_ok n, ⟨spec_l01Cmp_ok n, trivial⟩⟩ : AllOk P ([spec_l01OkF n, spec_l01CmpF n]))) (by kernel_rfl : P.funcs[90]? = some Go.Proofs.Try.f90) (by kernel_rfl) (by kernel_rfl) (by kernel_rfl)
    (fun x y => spec_l01Span_eq n y.1) (fun _ _ => map_same (fun _ => rfl) _) (fun _ _ _ _ => rfl)

abbrev spec_l05Atsp : List Sp := [.v false (.list (.pair .str (.pair (.int .i64) (.pair (.pair (.pair (.int .i64) (.int .i64)) (.pair (.int .i64) (.int .i64))) (.pair (.pair (.int .i64) (.int .i64)) (.pair (.int .i64) (.int .i64))))))), .v false (.int .i64), .v false (.int .i64)]
abbrev spec_l05Atbs : List (Bs × Bool) := []
abbrev spec_l05Atrs : List (Bool × List Rp) := [(false, [.v false (.int .i64)])]
noncomputable def spec_l05Atkp : Keep := { loop := fun id => match id with | _ => ([], []), join := fun id => match id with | _ => none }
noncomputable def spec_l05Atc : Code := bodyOf Go.Proofs.Try.f79
noncomputable def spec_l05AtF (n : Nat) : Fun := { id := 79, sp := spec_l05Atsp, bs := spec_l05Atbs, rs := spec_l05Atrs, f := fun x y => spec_l05At n x.1 x.2.1 x.2.2.1 }

theorem spec_l05At_eq (n : Nat) (a0 : List ((ByteArray) × ((Int) × ((((Int) × (Int)) × ((Int) × (Int))) × (((Int) × (Int)) × ((Int) × (Int))))))) (a1 : Int) (a2 : Int) : runBody ([spec_l05OkF n, spec_l00InF n, spec_l05DayF n]) ty 21 n spec_l05Atkp spec_l05Atc Go.Proofs.Try.f79.results.toList spec_l05Atrs spec_l05Atsp spec_l05Atbs (a0, (a1, (a2, ()))) () = spec_l05At n a0 a1 a2 := by
  have h : runBody ([spec_l05OkF n, spec_l00InF n, spec_l05DayF n]) ty 21 n spec_l05Atkp spec_l05Atc Go.Proofs.Try.f79.results.toList spec_l05Atrs spec_l05Atsp spec_l05Atbs (a0, (a1, (a2, ()))) () = spec_l05At_t n a0 a1 a2 := by kernel_rfl
  rw [h]
  rfl

theorem spec_l05At_ok (n : Nat) : FunOk P (spec_l05AtF n) :=
  funOk_mk (C := [spec_l05OkF n, spec_l00InF n, spec_l05DayF n]) (N := 21) (kp := spec_l05Atkp) (c := spec_l05Atc) (n := n) (G := fun x y => spec_l05At n x.1 x.2.1 x.2.2.1) follows (AllOk.mem (⟨spec_l05Ok_ok n, ⟨spec_l00In_ok n, ⟨spec_l05Day_ok n, trivial⟩⟩⟩ : AllOk P ([spec_l05OkF n, spec_l00InF n, spec_l05DayF n]))) (by kernel_rfl : P.funcs[79]? = some Go.Proofs.Try.f79) (by kernel_rfl) (by kernel_rfl) (by kernel_rfl)
    (fun x y => spec_l05At_eq n x.1 x.2.1 x.2.2.1) (fun _ _ => map_same (fun _ => rfl) _) (fun _ _ _ _ => rfl)

abbrev spec_l05Copysp : List Sp := [.v false (.list (.pair .str (.pair (.int .i64) (.pair (.pair (.pair (.int .i64) (.int .i64)) (.pair (.int .i64) (.int .i64))) (.pair (.pair (.int .i64) (.int .i64)) (.pair (.int .i64) (.int .i64)))))))]
abbrev spec_l05Copybs : List (Bs × Bool) := []
abbrev spec_l05Copyrs : List (Bool × List Rp) := [(false, [.new  (.pair .str (.pair (.int .i64) (.pair (.pair (.pair (.int .i64) (.int .i64)) (.pair (.int .i64) (.int .i64))) (.pair (.pair (.int .i64) (.int .i64)) (.pair (.int .i64) (.int .i64))))))])]
noncomputable def spec_l05Copykp : Keep := { loop := fun id => match id with | _ => ([], []), join := fun id => match id with | _ => none }
noncomputable def spec_l05Copyc : Code := bodyOf Go.Proofs.Try.f87
noncomputable def spec_l05CopyF (n : Nat) : Fun := { id := 87, sp := spec_l05Copysp, bs := spec_l05Copybs, rs := spec_l05Copyrs, f := fun x y => spec_l05Copy n x.1 }

theorem spec_l05Copy_eq (n : Nat) (a0 : List ((ByteArray) × ((Int) × ((((Int) × (Int)) × ((Int) × (Int))) × (((Int) × (Int)) × ((Int) × (Int))))))) : runBody ([]) ty 6 n spec_l05Copykp spec_l05Copyc Go.Proofs.Try.f87.results.toList spec_l05Copyrs spec_l05Copysp spec_l05Copybs (a0, ()) () = spec_l05Copy n a0 := by
  have h : runBody ([]) ty 6 n spec_l05Copykp spec_l05Copyc Go.Proofs.Try.f87.results.toList spec_l05Copyrs spec_l05Copysp spec_l05Copybs (a0, ()) () = spec_l05Copy_t n a0 := by kernel_rfl
  rw [h]
  rfl

theorem spec_l05Copy_ok (n : Nat) : FunOk P (spec_l05CopyF n) :=
  funOk_mk (C := []) (N := 6) (kp := spec_l05Copykp) (c := spec_l05Copyc) (n := n) (G := fun x y => spec_l05Copy n x.1) follows (AllOk.mem (trivial : AllOk P ([]))) (by kernel_rfl : P.funcs[87]? = some Go.Proofs.Try.f87) (by kernel_rfl) (by kernel_rfl) (by kernel_rfl)
    (fun x y => spec_l05Copy_eq n x.1) (fun _ _ => map_same (fun _ => rfl) _) (fun _ _ _ _ => rfl)

abbrev spec_RenewStandardsp : List Sp := [.v false (.list (.pair .str (.pair (.int .i64) (.pair (.pair (.pair (.int .i64) (.int .i64)) (.pair (.int .i64) (.int .i64))) (.pair (.pair (.int .i64) (.int .i64)) (.pair (.int .i64) (.int .i64))))))), .v false (.int .i64), .v false (.int .i64), .v true (.pair (.pair (.int .i64) (.int .i64)) (.pair (.int .i64) (.int .i64))), .v false (.int .i64)]
abbrev spec_RenewStandardbs : List (Bs × Bool) := []
abbrev spec_RenewStandardrs : List (Bool × List Rp) := [(false, [.new  (.pair .str (.pair (.int .i64) (.pair (.pair (.pair (.int .i64) (.int .i64)) (.pair (.int .i64) (.int .i64))) (.pair (.pair (.int .i64) (.int .i64)) (.pair (.int .i64) (.int .i64))))))]), (false, [.v false (.int .i64)])]
noncomputable def spec_RenewStandardkp : Keep := { loop := fun id => match id with | _ => ([], []), join := fun id => match id with | _ => none }
noncomputable def spec_RenewStandardc : Code := bodyOf Go.Proofs.Try.f35
noncomputable def spec_RenewStandardF (n : Nat) : Fun := { id := 35, sp := spec_RenewStandardsp, bs := spec_RenewStandardbs, rs := spec_RenewStandardrs, f := fun x y => spec_RenewStandard n x.1 x.2.1 x.2.2.1 x.2.2.2.1 x.2.2.2.2.1 }

theorem spec_RenewStandard_eq (n : Nat) (a0 : List ((ByteArray) × ((Int) × ((((Int) × (Int)) × ((Int) × (Int))) × (((Int) × (Int)) × ((Int) × (Int))))))) (a1 : Int) (a2 : Int) (a3 : ((Int) × (Int)) × ((Int) × (Int))) (a4 : Int) : runBody ([spec_l05OkF n, spec_l01SpanF n, spec_l05AtF n, spec_l05CopyF n]) ty 52 n spec_RenewStandardkp spec_RenewStandardc Go.Proofs.Try.f35.results.toList spec_RenewStandardrs spec_RenewStandardsp spec_RenewStandardbs (a0, (a1, (a2, (a3, (a4, ()))))) () = spec_RenewStandard n a0 a1 a2 a3 a4 := by
  have h : runBody ([spec_l05OkF n, spec_l01SpanF n, spec_l05AtF n, spec_l05CopyF n]) ty 52 n spec_RenewStandardkp spec_RenewStandardc Go.Proofs.Try.f35.results.toList spec_RenewStandardrs spec_RenewStandardsp spec_RenewStandardbs (a0, (a1, (a2, (a3, (a4, ()))))) () = spec_RenewStandard_t n a0 a1 a2 a3 a4 := by kernel_rfl
  rw [h]
  rfl

theorem spec_RenewStandard_ok (n : Nat) : FunOk P (spec_RenewStandardF n) :=
  funOk_mk (C := [spec_l05OkF n, spec_l01SpanF n, spec_l05AtF n, spec_l05CopyF n]) (N := 52) (kp := spec_RenewStandardkp) (c := spec_RenewStandardc) (n := n) (G := fun x y => spec_RenewStandard n x.1 x.2.1 x.2.2.1 x.2.2.2.1 x.2.2.2.2.1) follows (AllOk.mem (⟨spec_l05Ok_ok n, ⟨spec_l01Span_ok n, ⟨spec_l05At_ok n, ⟨spec_l05Copy_ok n, trivial⟩⟩⟩⟩ : AllOk P ([spec_l05OkF n, spec_l01SpanF n, spec_l05AtF n, spec_l05CopyF n]))) (by kernel_rfl : P.funcs[35]? = some Go.Proofs.Try.f35) (by kernel_rfl) (by kernel_rfl) (by kernel_rfl)
    (fun x y => spec_RenewStandard_eq n x.1 x.2.1 x.2.2.1 x.2.2.2.1 x.2.2.2.2.1) (fun _ _ => map_same (fun _ => rfl) _) (fun _ _ _ _ => rfl)

abbrev impl_withinsp : List Sp := [.v false (.int .i64), .v false (.int .i64), .v false (.int .i64)]
abbrev impl_withinbs : List (Bs × Bool) := []
abbrev impl_withinrs : List (Bool × List Rp) := [(false, [.v false .bool])]
noncomputable def impl_withinkp : Keep := { loop := fun id => match id with | _ => ([], []), join := fun id => match id with | _ => none }
noncomputable def impl_withinc : Code := bodyOf Go.Proofs.Try.f110
noncomputable def impl_withinF (n : Nat) : Fun := { id := 110, sp := impl_withinsp, bs := impl_withinbs, rs := impl_withinrs, f := fun x y => impl_within n x.1 x.2.1 x.2.2.1 }

theorem impl_within_eq (n : Nat) (a0 : Int) (a1 : Int) (a2 : Int) : runBody ([]) ty 15 n impl_withinkp impl_withinc Go.Proofs.Try.f110.results.toList impl_withinrs impl_withinsp impl_withinbs (a0, (a1, (a2, ()))) () = impl_within n a0 a1 a2 := by
  have h : runBody ([]) ty 15 n impl_withinkp impl_withinc Go.Proofs.Try.f110.results.toList impl_withinrs impl_withinsp impl_withinbs (a0, (a1, (a2, ()))) () = impl_within_t n a0 a1 a2 := by kernel_rfl
  rw [h]
  rfl

theorem impl_within_ok (n : Nat) : FunOk P (impl_withinF n) :=
  funOk_mk (C := []) (N := 15) (kp := impl_withinkp) (c := impl_withinc) (n := n) (G := fun x y => impl_within n x.1 x.2.1 x.2.2.1) follows (AllOk.mem (trivial : AllOk P ([]))) (by kernel_rfl : P.funcs[110]? = some Go.Proofs.Try.f110) (by kernel_rfl) (by kernel_rfl) (by kernel_rfl)
    (fun x y => impl_within_eq n x.1 x.2.1 x.2.2.1) (fun _ _ => map_same (fun _ => rfl) _) (fun _ _ _ _ => rfl)

abbrev impl_gcdsp : List Sp := [.v false (.int .i64), .v false (.int .i64)]
abbrev impl_gcdbs : List (Bs × Bool) := []
abbrev impl_gcdrs : List (Bool × List Rp) := [(false, [.v false (.int .i64)])]
noncomputable def impl_gcdkp : Keep := { loop := fun id => match id with | 1 => ([1, 0], []) | _ => ([], []), join := fun id => match id with | _ => none }
noncomputable def impl_gcdc : Code := bodyOf Go.Proofs.Try.f147
noncomputable def impl_gcdF (n : Nat) : Fun := { id := 147, sp := impl_gcdsp, bs := impl_gcdbs, rs := impl_gcdrs, f := fun x y => impl_gcd n x.1 x.2.1 }

theorem impl_gcd_l1_eq (n : Nat) : ∀ (k : Nat) (v1 : Int) (v0 : Int), iter (interp ([]) ty 15 0 n impl_gcdkp (codeAt impl_gcdc [1, 0, 0, 0])) (canon 0 (impl_gcdkp.loop 1)) (kAt ([]) ty 15 0 n impl_gcdkp impl_gcdc [1, 0, 0] [] (ending ty 0 Go.Proofs.Try.f147.results.toList impl_gcdrs impl_gcdbs)) k { env := [(1, .one (.sc (.int .i64 v1))), (0, .one (.sc (.int .i64 v0)))], bx := [], nx := 0 } = impl_gcd_l1 n k v1 v0
  | 0, _, _ => by kernel_rfl
  | k + 1, v1, v0 => by
    have h : iter (interp ([]) ty 15 0 n impl_gcdkp (codeAt impl_gcdc [1, 0, 0, 0])) (canon 0 (impl_gcdkp.loop 1)) (kAt ([]) ty 15 0 n impl_gcdkp impl_gcdc [1, 0, 0] [] (ending ty 0 Go.Proofs.Try.f147.results.toList impl_gcdrs impl_gcdbs)) (k + 1) { env := [(1, .one (.sc (.int .i64 v1))), (0, .one (.sc (.int .i64 v0)))], bx := [], nx := 0 } = impl_gcd_t1 n (fun v1 v0 => iter (interp ([]) ty 15 0 n impl_gcdkp (codeAt impl_gcdc [1, 0, 0, 0])) (canon 0 (impl_gcdkp.loop 1)) (kAt ([]) ty 15 0 n impl_gcdkp impl_gcdc [1, 0, 0] [] (ending ty 0 Go.Proofs.Try.f147.results.toList impl_gcdrs impl_gcdbs)) k { env := [(1, .one (.sc (.int .i64 v1))), (0, .one (.sc (.int .i64 v0)))], bx := [], nx := 0 }) v1 v0 := by kernel_rfl
    rw [h]
    have e := congrArg (fun g => impl_gcd_t1 n g v1 v0) (funext fun v1 => funext fun v0 => impl_gcd_l1_eq n k v1 v0)
    exact e

theorem impl_gcd_eq (n : Nat) (a0 : Int) (a1 : Int) : runBody ([]) ty 15 n impl_gcdkp impl_gcdc Go.Proofs.Try.f147.results.toList impl_gcdrs impl_gcdsp impl_gcdbs (a0, (a1, ())) () = impl_gcd n a0 a1 := by
  have h : runBody ([]) ty 15 n impl_gcdkp impl_gcdc Go.Proofs.Try.f147.results.toList impl_gcdrs impl_gcdsp impl_gcdbs (a0, (a1, ())) () = impl_gcd_t n (fun k v1 v0 => iter (interp ([]) ty 15 0 n impl_gcdkp (codeAt impl_gcdc [1, 0, 0, 0])) (canon 0 (impl_gcdkp.loop 1)) (kAt ([]) ty 15 0 n impl_gcdkp impl_gcdc [1, 0, 0] [] (ending ty 0 Go.Proofs.Try.f147.results.toList impl_gcdrs impl_gcdbs)) k { env := [(1, .one (.sc (.int .i64 v1))), (0, .one (.sc (.int .i64 v0)))], bx := [], nx := 0 }) a0 a1 := by kernel_rfl
  rw [h]
  have e := congrArg (fun h1 => impl_gcd_t n h1 a0 a1) (funext fun k => funext fun v1 => funext fun v0 => impl_gcd_l1_eq n k v1 v0)
  exact e

theorem impl_gcd_ok (n : Nat) : FunOk P (impl_gcdF n) :=
  funOk_mk (C := []) (N := 15) (kp := impl_gcdkp) (c := impl_gcdc) (n := n) (G := fun x y => impl_gcd n x.1 x.2.1) follows (AllOk.mem (trivial : AllOk P ([]))) (by kernel_rfl : P.funcs[147]? = some Go.Proofs.Try.f147) (by kernel_rfl) (by kernel_rfl) (by kernel_rfl)
    (fun x y => impl_gcd_eq n x.1 x.2.1) (fun _ _ => map_same (fun _ => rfl) _) (fun _ _ _ _ => rfl)

abbrev impl_ValidFracsp : List Sp := [.v true (.pair (.int .i64) (.int .i64))]
abbrev impl_ValidFracbs : List (Bs × Bool) := []
abbrev impl_ValidFracrs : List (Bool × List Rp) := [(false, [.v false .bool])]
noncomputable def impl_ValidFrackp : Keep := { loop := fun id => match id with | _ => ([], []), join := fun id => match id with | _ => none }
noncomputable def impl_ValidFracc : Code := bodyOf Go.Proofs.Try.f97
noncomputable def impl_ValidFracF (n : Nat) : Fun := { id := 97, sp := impl_ValidFracsp, bs := impl_ValidFracbs, rs := impl_ValidFracrs, f := fun x y => impl_ValidFrac n x.1 }

theorem impl_ValidFrac_eq (n : Nat) (a0 : (Int) × (Int)) : runBody ([impl_withinF n, impl_gcdF n]) ty 19 n impl_ValidFrackp impl_ValidFracc Go.Proofs.Try.f97.results.toList impl_ValidFracrs impl_ValidFracsp impl_ValidFracbs (a0, ()) () = impl_ValidFrac n a0 := by
  have h : runBody ([impl_withinF n, impl_gcdF n]) ty 19 n impl_ValidFrackp impl_ValidFracc Go.Proofs.Try.f97.results.toList impl_ValidFracrs impl_ValidFracsp impl_ValidFracbs (a0, ()) () = impl_ValidFrac_t n a0 := by kernel_rfl
  rw [h]
  rfl

theorem impl_ValidFrac_ok (n : Nat) : FunOk P (impl_ValidFracF n) :=
  funOk_mk (C := [impl_withinF n, impl_gcdF n]) (N := 19) (kp := impl_ValidFrackp) (c := impl_ValidFracc) (n := n) (G := fun x y => impl_ValidFrac n x.1) follows (AllOk.mem (⟨impl_within_ok n, ⟨impl_gcd_ok n, trivial⟩⟩ : AllOk P ([impl_withinF n, impl_gcdF n]))) (by kernel_rfl : P.funcs[97]? = some Go.Proofs.Try.f97) (by kernel_rfl) (by kernel_rfl) (by kernel_rfl)
    (fun x y => impl_ValidFrac_eq n x.1) (fun _ _ => map_same (fun _ => rfl) _) (fun _ _ _ _ => rfl)

abbrev impl_areValid_1sp : List Sp := [.v true (.pair (.int .i64) (.int .i64))]
abbrev impl_areValid_1bs : List (Bs × Bool) := []
abbrev impl_areValid_1rs : List (Bool × List Rp) := [(false, [.v false .bool])]
noncomputable def impl_areValid_1kp : Keep := { loop := fun id => match id with | _ => ([], []), join := fun id => match id with | _ => none }
noncomputable def impl_areValid_1c : Code := bodyOf Go.Proofs.Try.f146
noncomputable def impl_areValid_1F (n : Nat) : Fun := { id := 146, sp := impl_areValid_1sp, bs := impl_areValid_1bs, rs := impl_areValid_1rs, f := fun x y => impl_areValid_1 n x.1 }

theorem impl_areValid_1_eq (n : Nat) (a0 : (Int) × (Int)) : runBody ([impl_ValidFracF n]) ty 6 n impl_areValid_1kp impl_areValid_1c Go.Proofs.Try.f146.results.toList impl_areValid_1rs impl_areValid_1sp impl_areValid_1bs (a0, ()) () = impl_areValid_1 n a0 := by
  have h : runBody ([impl_ValidFracF n]) ty 6 n impl_areValid_1kp impl_areValid_1c Go.Proofs.Try.f146.results.toList impl_areValid_1rs impl_areValid_1sp impl_areValid_1bs (a0, ()) () = impl_areValid_1_t n a0 := by kernel_rfl
  rw [h]
  rfl

theorem impl_areValid_1_ok (n : Nat) : FunOk P (impl_areValid_1F n) :=
  funOk_mk (C := [impl_ValidFracF n]) (N := 6) (kp := impl_areValid_1kp) (c := impl_areValid_1c) (n := n) (G := fun x y => impl_areValid_1 n x.1) follows (AllOk.mem (⟨impl_ValidFrac_ok n, trivial⟩ : AllOk P ([impl_ValidFracF n]))) (by kernel_rfl : P.funcs[146]? = some Go.Proofs.Try.f146) (by kernel_rfl) (by kernel_rfl) (by kernel_rfl)
    (fun x y => impl_areValid_1_eq n x.1) (fun _ _ => map_same (fun _ => rfl) _) (fun _ _ _ _ => rfl)

abbrev slices_IndexFunc_impl_Frac_impl_Frac_at_impl_areValid_1sp : List Sp := [.v false (.list (.pair (.int .i64) (.int .i64))), .cl 146 []]
abbrev slices_IndexFunc_impl_Frac_impl_Frac_at_impl_areValid_1bs : List (Bs × Bool) := []
abbrev slices_IndexFunc_impl_Frac_impl_Frac_at_impl_areValid_1rs : List (Bool × List Rp) := [(false, [.v false (.int .i64)])]
noncomputable def slices_IndexFunc_impl_Frac_impl_Frac_at_impl_areValid_1kp : Keep := { loop := fun id => match id with | 2 => ([8, 0, 1, 7], []) | _ => ([], []), join := fun id => match id with | _ => none }
noncomputable def slices_IndexFunc_impl_Frac_impl_Frac_at_impl_areValid_1c : Code := bodyOf Go.Proofs.Try.f174
noncomputable def slices_IndexFunc_impl_Frac_impl_Frac_at_impl_areValid_1F (n : Nat) : Fun := { id := 174, sp := slices_IndexFunc_impl_Frac_impl_Frac_at_impl_areValid_1sp, bs := slices_IndexFunc_impl_Frac_impl_Frac_at_impl_areValid_1bs, rs := slices_IndexFunc_impl_Frac_impl_Frac_at_impl_areValid_1rs, f := fun x y => slices_IndexFunc_impl_Frac_impl_Frac_at_impl_areValid_1 n x.1 }

theorem slices_IndexFunc_impl_Frac_impl_Frac_at_impl_areValid_1_l2_eq (n : Nat) : ∀ (k : Nat) (v8 : Int) (v0 : List ((Int) × (Int))) (v7 : Int), iter (interp ([impl_areValid_1F n]) ty 19 0 n slices_IndexFunc_impl_Frac_impl_Frac_at_impl_areValid_1kp (codeAt slices_IndexFunc_impl_Frac_impl_Frac_at_impl_areValid_1c [1, 0, 1, 0, 0])) (canon 0 (slices_IndexFunc_impl_Frac_impl_Frac_at_impl_areValid_1kp.loop 2)) (kAt ([impl_areValid_1F n]) ty 19 0 n slices_IndexFunc_impl_Frac_impl_Frac_at_impl_areValid_1kp slices_IndexFunc_impl_Frac_impl_Frac_at_impl_areValid_1c [1, 0, 1, 0] [] (ending ty 0 Go.Proofs.Try.f174.results.toList slices_IndexFunc_impl_Frac_impl_Frac_at_impl_areValid_1rs slices_IndexFunc_impl_Frac_impl_Frac_at_impl_areValid_1bs)) k { env := [(8, .one (.sc (.int .i64 v8))), (0, .one (.list true (.pair (.int .i64) (.int .i64)) v0)), (1, .one (.clos 146 [])), (7, .one (.sc (.int .i64 v7)))], bx := [], nx := 0 } = slices_IndexFunc_impl_Frac_impl_Frac_at_impl_areValid_1_l2 n k v8 v0 v7
  | 0, _, _, _ => by kernel_rfl
  | k + 1, v8, v0, v7 => by
    have h : iter (interp ([impl_areValid_1F n]) ty 19 0 n slices_IndexFunc_impl_Frac_impl_Frac_at_impl_areValid_1kp (codeAt slices_IndexFunc_impl_Frac_impl_Frac_at_impl_areValid_1c [1, 0, 1, 0, 0])) (canon 0 (slices_IndexFunc_impl_Frac_impl_Frac_at_impl_areValid_1kp.loop 2)) (kAt ([impl_areValid_1F n]) ty 19 0 n slices_IndexFunc_impl_Frac_impl_Frac_at_impl_areValid_1kp slices_IndexFunc_impl_Frac_impl_Frac_at_impl_areValid_1c [1, 0, 1, 0] [] (ending ty 0 Go.Proofs.Try.f174.results.toList slices_IndexFunc_impl_Frac_impl_Frac_at_impl_areValid_1rs slices_IndexFunc_impl_Frac_impl_Frac_at_impl_areValid_1bs)) (k + 1) { env := [(8, .one (.sc (.int .i64 v8))), (0, .one (.list true (.pair (.int .i64) (.int .i64)) v0)), (1, .one (.clos 146 [])), (7, .one (.sc (.int .i64 v7)))], bx := [], nx := 0 } = slices_IndexFunc_impl_Frac_impl_Frac_at_impl_areValid_1_t2 n (fun v8 v0 v7 => iter (interp ([impl_areValid_1F n]) ty 19 0 n slices_IndexFunc_impl_Frac_impl_Frac_at_impl_areValid_1kp (codeAt slices_IndexFunc_impl_Frac_impl_Frac_at_impl_areValid_1c [1, 0, 1, 0, 0])) (canon 0 (slices_IndexFunc_impl_Frac_impl_Frac_at_impl_areValid_1kp.loop 2)) (kAt ([impl_areValid_1F n]) ty 19 0 n slices_IndexFunc_impl_Frac_impl_Frac_at_impl_areValid_1kp slices_IndexFunc_impl_Frac_impl_Frac_at_impl_areValid_1c [1, 0, 1, 0] [] (ending ty 0 Go.Proofs.Try.f174.results.toList slices_IndexFunc_impl_Frac_impl_Frac_at_impl_areValid_1rs slices_IndexFunc_impl_Frac_impl_Frac_at_impl_areValid_1bs)) k { env := [(8, .one (.sc (.int .i64 v8))), (0, .one (.list true (.pair (.int .i64) (.int .i64)) v0)), (1, .one (.clos 146 [])), (7, .one (.sc (.int .i64 v7)))], bx := [], nx := 0 }) v8 v0 v7 := by kernel_rfl
    rw [h]
    have e := congrArg (fun g => slices_IndexFunc_impl_Frac_impl_Frac_at_impl_areValid_1_t2 n g v8 v0 v7) (funext fun v8 => funext fun v0 => funext fun v7 => slices_IndexFunc_impl_Frac_impl_Frac_at_impl_areValid_1_l2_eq n k v8 v0 v7)
    exact e

theorem slices_IndexFunc_impl_Frac_impl_Frac_at_impl_areValid_1_eq (n : Nat) (a0 : List ((Int) × (Int))) : runBody ([impl_areValid_1F n]) ty 19 n slices_IndexFunc_impl_Frac_impl_Frac_at_impl_areValid_1kp slices_IndexFunc_impl_Frac_impl_Frac_at_impl_areValid_1c Go.Proofs.Try.f174.results.toList slices_IndexFunc_impl_Frac_impl_Frac_at_impl_areValid_1rs slices_IndexFunc_impl_Frac_impl_Frac_at_impl_areValid_1sp slices_IndexFunc_impl_Frac_impl_Frac_at_impl_areValid_1bs (a0, ((), ())) () = slices_IndexFunc_impl_Frac_impl_Frac_at_impl_areValid_1 n a0 := by
  have h : runBody ([impl_areValid_1F n]) ty 19 n slices_IndexFunc_impl_Frac_impl_Frac_at_impl_areValid_1kp slices_IndexFunc_impl_Frac_impl_Frac_at_impl_areValid_1c Go.Proofs.Try.f174.results.toList slices_IndexFunc_impl_Frac_impl_Frac_at_impl_areValid_1rs slices_IndexFunc_impl_Frac_impl_Frac_at_impl_areValid_1sp slices_IndexFunc_impl_Frac_impl_Frac_at_impl_areValid_1bs (a0, ((), ())) () = slices_IndexFunc_impl_Frac_impl_Frac_at_impl_areValid_1_t n (fun k v8 v0 v7 => iter (interp ([impl_areValid_1F n]) ty 19 0 n slices_IndexFunc_impl_Frac_impl_Frac_at_impl_areValid_1kp (codeAt slices_IndexFunc_impl_Frac_impl_Frac_at_impl_areValid_1c [1, 0, 1, 0, 0])) (canon 0 (slices_IndexFunc_impl_Frac_impl_Frac_at_impl_areValid_1kp.loop 2)) (kAt ([impl_areValid_1F n]) ty 19 0 n slices_IndexFunc_impl_Frac_impl_Frac_at_impl_areValid_1kp slices_IndexFunc_impl_Frac_impl_Frac_at_impl_areValid_1c [1, 0, 1, 0] [] (ending ty 0 Go.Proofs.Try.f174.results.toList slices_IndexFunc_impl_Frac_impl_Frac_at_impl_areValid_1rs slices_IndexFunc_impl_Frac_impl_Frac_at_impl_areValid_1bs)) k { env := [(8, .one (.sc (.int .i64 v8))), (0, .one (.list true (.pair (.int .i64) (.int .i64)) v0)), (1, .one (.clos 146 [])), (7, .one (.sc (.int .i64 v7)))], bx := [], nx := 0 }) a0 := by kernel_rfl
  rw [h]
  have e := congrArg (fun h2 => slices_IndexFunc_impl_Frac_impl_Frac_at_impl_areValid_1_t n h2 a0) (funext fun k => funext fun v8 => funext fun v0 => funext fun v7 => slices_IndexFunc_impl_Frac_impl_Frac_at_impl_areValid_1_l2_eq n k v8 v0 v7)
  exact e

theorem slices_IndexFunc_impl_Frac_impl_Frac_at_impl_areValid_1_ok (n : Nat) : FunOk P (slices_IndexFunc_impl_Frac_impl_Frac_at_impl_areValid_1F n) :=
  funOk_mk (C := [impl_areValid_1F n]) (N := 19) (kp := slices_IndexFunc_impl_Frac_impl_Frac_at_impl_areValid_1kp) (c := slices_IndexFunc_impl_Frac_impl_Frac_at_impl_areValid_1c) (n := n) (G := fun x y => slices_IndexFunc_impl_Frac_impl_Frac_at_impl_areValid_1 n x.1) follows (AllOk.mem (⟨impl_areValid_1_ok n, trivial⟩ : AllOk P ([impl_areValid_1F n]))) (by kernel_rfl : P.funcs[174]? = some Go.Proofs.Try.f174) (by kernel_rfl) (by kernel_rfl) (by kernel_rfl)
    (fun x y => slices_IndexFunc_impl_Frac_impl_Frac_at_impl_areValid_1_eq n x.1) (fun _ _ => map_same (fun _ => rfl) _) (fun _ _ _ _ => rfl)

abbrev slices_ContainsFunc_impl_Frac_impl_Frac_at_impl_areValid_1sp : List Sp := [.v false (.list (.pair (.int .i64) (.int .i64))), .cl 146 []]
abbrev slices_ContainsFunc_impl_Frac_impl_Frac_at_impl_areValid_1bs : List (Bs × Bool) := []
abbrev slices_ContainsFunc_impl_Frac_impl_Frac_at_impl_areValid_1rs : List (Bool × List Rp) := [(false, [.v false .bool])]
noncomputable def slices_ContainsFunc_impl_Frac_impl_Frac_at_impl_areValid_1kp : Keep := { loop := fun id => match id with | _ => ([], []), join := fun id => match id with | _ => none }
noncomputable def slices_ContainsFunc_impl_Frac_impl_Frac_at_impl_areValid_1c : Code := bodyOf Go.Proofs.Try.f145
noncomputable def slices_ContainsFunc_impl_Frac_impl_Frac_at_impl_areValid_1F (n : Nat) : Fun := { id := 145, sp := slices_ContainsFunc_impl_Frac_impl_Frac_at_impl_areValid_1sp, bs := slices_ContainsFunc_impl_Frac_impl_Frac_at_impl_areValid_1bs, rs := slices_ContainsFunc_impl_Frac_impl_Frac_at_impl_areValid_1rs, f := fun x y => slices_ContainsFunc_impl_Frac_impl_Frac_at_impl_areValid_1 n x.1 }

theorem slices_ContainsFunc_impl_Frac_impl_Frac_at_impl_areValid_1_eq (n : Nat) (a0 : List ((Int) × (Int))) : runBody ([slices_IndexFunc_impl_Frac_impl_Frac_at_impl_areValid_1F n]) ty 9 n slices_ContainsFunc_impl_Frac_impl_Frac_at_impl_areValid_1kp slices_ContainsFunc_impl_Frac_impl_Frac_at_impl_areValid_1c Go.Proofs.Try.f145.results.toList slices_ContainsFunc_impl_Frac_impl_Frac_at_impl_areValid_1rs slices_ContainsFunc_impl_Frac_impl_Frac_at_impl_areValid_1sp slices_ContainsFunc_impl_Frac_impl_Frac_at_impl_areValid_1bs (a0, ((), ())) () = slices_ContainsFunc_impl_Frac_impl_Frac_at_impl_areValid_1 n a0 := by
  have h : runBody ([slices_IndexFunc_impl_Frac_impl_Frac_at_impl_areValid_1F n]) ty 9 n slices_ContainsFunc_impl_Frac_impl_Frac_at_impl_areValid_1kp slices_ContainsFunc_impl_Frac_impl_Frac_at_impl_areValid_1c Go.Proofs.Try.f145.results.toList slices_ContainsFunc_impl_Frac_impl_Frac_at_impl_areValid_1rs slices_ContainsFunc_impl_Frac_impl_Frac_at_impl_areValid_1sp slices_ContainsFunc_impl_Frac_impl_Frac_at_impl_areValid_1bs (a0, ((), ())) () = slices_ContainsFunc_impl_Frac_impl_Frac_at_impl_areValid_1_t n a0 := by kernel_rfl
  rw [h]
  rfl

theorem slices_ContainsFunc_impl_Frac_impl_Frac_at_impl_areValid_1_ok (n : Nat) : FunOk P (slices_ContainsFunc_impl_Frac_impl_Frac_at_impl_areValid_1F n) :=
  funOk_mk (C := [slices_IndexFunc_impl_Frac_impl_Frac_at_impl_areValid_1F n]) (N := 9) (kp := slices_ContainsFunc_impl_Frac_impl_Frac_at_impl_areValid_1kp) (c := slices_ContainsFunc_impl_Frac_impl_Frac_at_impl_areValid_1c) (n := n) (G := fun x y => slices_ContainsFunc_impl_Frac_impl_Frac_at_impl_areValid_1 n x.1) follows (AllOk.mem (⟨slices_IndexFunc_impl_Frac_impl_Frac_at_impl_areValid_1_ok n, trivial⟩ : AllOk P ([slices_IndexFunc_impl_Frac_impl_Frac_at_impl_areValid_1F n]))) (by kernel_rfl : P.funcs[145]? = some Go.Proofs.Try.f145) (by kernel_rfl) (by kernel_rfl) (by kernel_rfl)
    (fun x y => slices_ContainsFunc_impl_Frac_impl_Frac_at_impl_areValid_1_eq n x.1) (fun _ _ => map_same (fun _ => rfl) _) (fun _ _ _ _ => rfl)

abbrev impl_areValidsp : List Sp := [.v false (.list (.pair (.int .i64) (.int .i64)))]
abbrev impl_areValidbs : List (Bs × Bool) := []
abbrev impl_areValidrs : List (Bool × List Rp) := [(false, [.v false .bool])]
noncomputable def impl_areValidkp : Keep := { loop := fun id => match id with | _ => ([], []), join := fun id => match id with | _ => none }
noncomputable def impl_areValidc : Code := bodyOf Go.Proofs.Try.f96
noncomputable def impl_areValidF (n : Nat) : Fun := { id := 96, sp := impl_areValidsp, bs := impl_areValidbs, rs := impl_areValidrs, f := fun x y => impl_areValid n x.1 }

theorem impl_areValid_eq (n : Nat) (a0 : List ((Int) × (Int))) : runBody ([slices_ContainsFunc_impl_Frac_impl_Frac_at_impl_areValid_1F n]) ty 6 n impl_areValidkp impl_areValidc Go.Proofs.Try.f96.results.toList impl_areValidrs impl_areValidsp impl_areValidbs (a0, ()) () = impl_areValid n a0 := by
  have h : runBody ([slices_ContainsFunc_impl_Frac_impl_Frac_at_impl_areValid_1F n]) ty 6 n impl_areValidkp impl_areValidc Go.Proofs.Try.f96.results.toList impl_areValidrs impl_areValidsp impl_areValidbs (a0, ()) () = impl_areValid_t n a0 := by kernel_rfl
  rw [h]
  rfl

theorem impl_areValid_ok (n : Nat) : FunOk P (impl_areValidF n) :=
  funOk_mk (C := [slices_ContainsFunc_impl_Frac_impl_Frac_at_impl_areValid_1F n]) (N := 6) (kp := impl_areValidkp) (c := impl_areValidc) (n := n) (G := fun x y => impl_areValid n x.1) follows (AllOk.mem (⟨slices_ContainsFunc_impl_Frac_impl_Frac_at_impl_areValid_1_ok n, trivial⟩ : AllOk P ([slices_ContainsFunc_impl_Frac_impl_Frac_at_impl_areValid_1F n]))) (by kernel_rfl : P.funcs[96]? = some Go.Proofs.Try.f96) (by kernel_rfl) (by kernel_rfl) (by kernel_rfl)
    (fun x y => impl_areValid_eq n x.1) (fun _ _ => map_same (fun _ => rfl) _) (fun _ _ _ _ => rfl)

abbrev impl_comparesp : List Sp := [.v true (.pair (.int .i64) (.int .i64)), .v true (.pair (.int .i64) (.int .i64))]
abbrev impl_comparebs : List (Bs × Bool) := []
abbrev impl_comparers : List (Bool × List Rp) := [(false, [.v false (.int .i64)])]
noncomputable def impl_comparekp : Keep := { loop := fun id => match id with | _ => ([], []), join := fun id => match id with | _ => none }
noncomputable def impl_comparec : Code := bodyOf Go.Proofs.Try.f142
noncomputable def impl_compareF (n : Nat) : Fun := { id := 142, sp := impl_comparesp, bs := impl_comparebs, rs := impl_comparers, f := fun x y => impl_compare n x.1 x.2.1 }

theorem impl_compare_eq (n : Nat) (a0 : (Int) × (Int)) (a1 : (Int) × (Int)) : runBody ([]) ty 25 n impl_comparekp impl_comparec Go.Proofs.Try.f142.results.toList impl_comparers impl_comparesp impl_comparebs (a0, (a1, ())) () = impl_compare n a0 a1 := by
  have h : runBody ([]) ty 25 n impl_comparekp impl_comparec Go.Proofs.Try.f142.results.toList impl_comparers impl_comparesp impl_comparebs (a0, (a1, ())) () = impl_compare_t n a0 a1 := by kernel_rfl
  rw [h]
  rfl

theorem impl_compare_ok (n : Nat) : FunOk P (impl_compareF n) :=
  funOk_mk (C := []) (N := 25) (kp := impl_comparekp) (c := impl_comparec) (n := n) (G := fun x y => impl_compare n x.1 x.2.1) follows (AllOk.mem (trivial : AllOk P ([]))) (by kernel_rfl : P.funcs[142]? = some Go.Proofs.Try.f142) (by kernel_rfl) (by kernel_rfl) (by kernel_rfl)
    (fun x y => impl_compare_eq n x.1 x.2.1) (fun _ _ => map_same (fun _ => rfl) _) (fun _ _ _ _ => rfl)

abbrev impl_ValidSpansp : List Sp := [.v true (.pair (.pair (.int .i64) (.int .i64)) (.pair (.int .i64) (.int .i64)))]
abbrev impl_ValidSpanbs : List (Bs × Bool) := []
abbrev impl_ValidSpanrs : List (Bool × List Rp) := [(false, [.v false .bool])]
noncomputable def impl_ValidSpankp : Keep := { loop := fun id => match id with | _ => ([], []), join := fun id => match id with | _ => none }
noncomputable def impl_ValidSpanc : Code := bodyOf Go.Proofs.Try.f91
noncomputable def impl_ValidSpanF (n : Nat) : Fun := { id := 91, sp := impl_ValidSpansp, bs := impl_ValidSpanbs, rs := impl_ValidSpanrs, f := fun x y => impl_ValidSpan n x.1 }

theorem impl_ValidSpan_eq (n : Nat) (a0 : ((Int) × (Int)) × ((Int) × (Int))) : runBody ([impl_areValidF n, impl_compareF n]) ty 17 n impl_ValidSpankp impl_ValidSpanc Go.Proofs.Try.f91.results.toList impl_ValidSpanrs impl_ValidSpansp impl_ValidSpanbs (a0, ()) () = impl_ValidSpan n a0 := by
  have h : runBody ([impl_areValidF n, impl_compareF n]) ty 17 n impl_ValidSpankp impl_ValidSpanc Go.Proofs.Try.f91.results.toList impl_ValidSpanrs impl_ValidSpansp impl_ValidSpanbs (a0, ()) () = impl_ValidSpan_t n a0 := by kernel_rfl
  rw [h]
  rfl

theorem impl_ValidSpan_ok (n : Nat) : FunOk P (impl_ValidSpanF n) :=
  funOk_mk (C := [impl_areValidF n, impl_compareF n]) (N := 17) (kp := impl_ValidSpankp) (c := impl_ValidSpanc) (n := n) (G := fun x y => impl_ValidSpan n x.1) follows (AllOk.mem (⟨impl_areValid_ok n, ⟨impl_compare_ok n, trivial⟩⟩ : AllOk P ([impl_areValidF n, impl_compareF n]))) (by kernel_rfl : P.funcs[91]? = some Go.Proofs.Try.f91) (by kernel_rfl) (by kernel_rfl) (by kernel_rfl)
    (fun x y => impl_ValidSpan_eq n x.1) (fun _ _ => map_same (fun _ => rfl) _) (fun _ _ _ _ => rfl)

abbrev impl_isWordsp : List Sp := [.v false .str]
abbrev impl_isWordbs : List (Bs × Bool) := []
abbrev impl_isWordrs : List (Bool × List Rp) := [(false, [.v false .bool])]
noncomputable def impl_isWordkp : Keep := { loop := fun id => match id with | 2 => ([6, 0, 5], []) | _ => ([], []), join := fun id => match id with | _ => none }
noncomputable def impl_isWordc : Code := bodyOf Go.Proofs.Try.f138
noncomputable def impl_isWordF (n : Nat) : Fun := { id := 138, sp := impl_isWordsp, bs := impl_isWordbs, rs := impl_isWordrs, f := fun x y => impl_isWord n x.1 }

theorem impl_isWord_l2_eq (n : Nat) : ∀ (k : Nat) (v6 : Int) (v0 : ByteArray) (v5 : Int), iter (interp ([impl_withinF n]) ty 23 0 n impl_isWordkp (codeAt impl_isWordc [1, 0, 1, 0, 0])) (canon 0 (impl_isWordkp.loop 2)) (kAt ([impl_withinF n]) ty 23 0 n impl_isWordkp impl_isWordc [1, 0, 1, 0] [] (ending ty 0 Go.Proofs.Try.f138.results.toList impl_isWordrs impl_isWordbs)) k { env := [(6, .one (.sc (.int .i64 v6))), (0, .one (.sc (.string v0))), (5, .one (.sc (.int .i64 v5)))], bx := [], nx := 0 } = impl_isWord_l2 n k v6 v0 v5
  | 0, _, _, _ => by kernel_rfl
  | k + 1, v6, v0, v5 => by
    have h : iter (interp ([impl_withinF n]) ty 23 0 n impl_isWordkp (codeAt impl_isWordc [1, 0, 1, 0, 0])) (canon 0 (impl_isWordkp.loop 2)) (kAt ([impl_withinF n]) ty 23 0 n impl_isWordkp impl_isWordc [1, 0, 1, 0] [] (ending ty 0 Go.Proofs.Try.f138.results.toList impl_isWordrs impl_isWordbs)) (k + 1) { env := [(6, .one (.sc (.int .i64 v6))), (0, .one (.sc (.string v0))), (5, .one (.sc (.int .i64 v5)))], bx := [], nx := 0 } = impl_isWord_t2 n (fun v6 v0 v5 => iter (interp ([impl_withinF n]) ty 23 0 n impl_isWordkp (codeAt impl_isWordc [1, 0, 1, 0, 0])) (canon 0 (impl_isWordkp.loop 2)) (kAt ([impl_withinF n]) ty 23 0 n impl_isWordkp impl_isWordc [1, 0, 1, 0] [] (ending ty 0 Go.Proofs.Try.f138.results.toList impl_isWordrs impl_isWordbs)) k { env := [(6, .one (.sc (.int .i64 v6))), (0, .one (.sc (.string v0))), (5, .one (.sc (.int .i64 v5)))], bx := [], nx := 0 }) v6 v0 v5 := by kernel_rfl
    rw [h]
    have e := congrArg (fun g => impl_isWord_t2 n g v6 v0 v5) (funext fun v6 => funext fun v0 => funext fun v5 => impl_isWord_l2_eq n k v6 v0 v5)
    exact e

theorem impl_isWord_eq (n : Nat) (a0 : ByteArray) : runBody ([impl_withinF n]) ty 23 n impl_isWordkp impl_isWordc Go.Proofs.Try.f138.results.toList impl_isWordrs impl_isWordsp impl_isWordbs (a0, ()) () = impl_isWord n a0 := by
  have h : runBody ([impl_withinF n]) ty 23 n impl_isWordkp impl_isWordc Go.Proofs.Try.f138.results.toList impl_isWordrs impl_isWordsp impl_isWordbs (a0, ()) () = impl_isWord_t n (fun k v6 v0 v5 => iter (interp ([impl_withinF n]) ty 23 0 n impl_isWordkp (codeAt impl_isWordc [1, 0, 1, 0, 0])) (canon 0 (impl_isWordkp.loop 2)) (kAt ([impl_withinF n]) ty 23 0 n impl_isWordkp impl_isWordc [1, 0, 1, 0] [] (ending ty 0 Go.Proofs.Try.f138.results.toList impl_isWordrs impl_isWordbs)) k { env := [(6, .one (.sc (.int .i64 v6))), (0, .one (.sc (.string v0))), (5, .one (.sc (.int .i64 v5)))], bx := [], nx := 0 }) a0 := by kernel_rfl
  rw [h]
  have e := congrArg (fun h2 => impl_isWord_t n h2 a0) (funext fun k => funext fun v6 => funext fun v0 => funext fun v5 => impl_isWord_l2_eq n k v6 v0 v5)
  exact e

theorem impl_isWord_ok (n : Nat) : FunOk P (impl_isWordF n) :=
  funOk_mk (C := [impl_withinF n]) (N := 23) (kp := impl_isWordkp) (c := impl_isWordc) (n := n) (G := fun x y => impl_isWord n x.1) follows (AllOk.mem (⟨impl_within_ok n, trivial⟩ : AllOk P ([impl_withinF n]))) (by kernel_rfl : P.funcs[138]? = some Go.Proofs.Try.f138) (by kernel_rfl) (by kernel_rfl) (by kernel_rfl)
    (fun x y => impl_isWord_eq n x.1) (fun _ _ => map_same (fun _ => rfl) _) (fun _ _ _ _ => rfl)

abbrev impl_ValidChain_1sp : List Sp := [.v true (.pair .str (.pair (.int .i64) (.pair (.pair (.pair (.int .i64) (.int .i64)) (.pair (.int .i64) (.int .i64))) (.pair (.pair (.int .i64) (.int .i64)) (.pair (.int .i64) (.int .i64)))))), .ref 0]
abbrev impl_ValidChain_1bs : List (Bs × Bool) := [(.var 49 (.pair .str (.pair (.int .i64) (.pair (.pair (.pair (.int .i64) (.int .i64)) (.pair (.int .i64) (.int .i64))) (.pair (.pair (.int .i64) (.int .i64)) (.pair (.int .i64) (.int .i64)))))), true)]
abbrev impl_ValidChain_1rs : List (Bool × List Rp) := [(false, [.v false .bool])]
noncomputable def impl_ValidChain_1kp : Keep := { loop := fun id => match id with | _ => ([], []), join := fun id => match id with | _ => none }
noncomputable def impl_ValidChain_1c : Code := bodyOf Go.Proofs.Try.f140
noncomputable def impl_ValidChain_1F (n : Nat) : Fun := { id := 140, sp := impl_ValidChain_1sp, bs := impl_ValidChain_1bs, rs := impl_ValidChain_1rs, f := fun x y => impl_ValidChain_1 n x.1 y.1 }

theorem impl_ValidChain_1_eq (n : Nat) (a0 : (ByteArray) × ((Int) × ((((Int) × (Int)) × ((Int) × (Int))) × (((Int) × (Int)) × ((Int) × (Int)))))) (b0 : (ByteArray) × ((Int) × ((((Int) × (Int)) × ((Int) × (Int))) × (((Int) × (Int)) × ((Int) × (Int)))))) : runBody ([]) ty 9 n impl_ValidChain_1kp impl_ValidChain_1c Go.Proofs.Try.f140.results.toList impl_ValidChain_1rs impl_ValidChain_1sp impl_ValidChain_1bs (a0, ((), ())) (b0, ()) = impl_ValidChain_1 n a0 b0 := by
  have h : runBody ([]) ty 9 n impl_ValidChain_1kp impl_ValidChain_1c Go.Proofs.Try.f140.results.toList impl_ValidChain_1rs impl_ValidChain_1sp impl_ValidChain_1bs (a0, ((), ())) (b0, ()) = impl_ValidChain_1_t n a0 b0 := by kernel_rfl
  rw [h]
  rfl

theorem impl_ValidChain_1_ok (n : Nat) : FunOk P (impl_ValidChain_1F n) :=
  funOk_mk (C := []) (N := 9) (kp := impl_ValidChain_1kp) (c := impl_ValidChain_1c) (n := n) (G := fun x y => impl_ValidChain_1 n x.1 y.1) follows (AllOk.mem (trivial : AllOk P ([]))) (by kernel_rfl : P.funcs[140]? = some Go.Proofs.Try.f140) (by kernel_rfl) (by kernel_rfl) (by kernel_rfl)
    (fun x y => impl_ValidChain_1_eq n x.1 y.1) (fun _ _ => map_same (fun _ => rfl) _) (fun _ _ _ _ => rfl)

abbrev slices_IndexFunc_impl_Standard_impl_Standard_at_impl_ValidChain_1sp : List Sp := [.v false (.list (.pair .str (.pair (.int .i64) (.pair (.pair (.pair (.int .i64) (.int .i64)) (.pair (.int .i64) (.int .i64))) (.pair (.pair (.int .i64) (.int .i64)) (.pair (.int .i64) (.int .i64))))))), .cl 140 [0]]
abbrev slices_IndexFunc_impl_Standard_impl_Standard_at_impl_ValidChain_1bs : List (Bs × Bool) := [(.var 49 (.pair .str (.pair (.int .i64) (.pair (.pair (.pair (.int .i64) (.int .i64)) (.pair (.int .i64) (.int .i64))) (.pair (.pair (.int .i64) (.int .i64)) (.pair (.int .i64) (.int .i64)))))), true)]
abbrev slices_IndexFunc_impl_Standard_impl_Standard_at_impl_ValidChain_1rs : List (Bool × List Rp) := [(false, [.v false (.int .i64)])]
noncomputable def slices_IndexFunc_impl_Standard_impl_Standard_at_impl_ValidChain_1kp : Keep := { loop := fun id => match id with | 2 => ([8, 0, 1, 7], []) | _ => ([], []), join := fun id => match id with | _ => none }
noncomputable def slices_IndexFunc_impl_Standard_impl_Standard_at_impl_ValidChain_1c : Code := bodyOf Go.Proofs.Try.f173
noncomputable def slices_IndexFunc_impl_Standard_impl_Standard_at_impl_ValidChain_1F (n : Nat) : Fun := { id := 173, sp := slices_IndexFunc_impl_Standard_impl_Standard_at_impl_ValidChain_1sp, bs := slices_IndexFunc_impl_Standard_impl_Standard_at_impl_ValidChain_1bs, rs := slices_IndexFunc_impl_Standard_impl_Standard_at_impl_ValidChain_1rs, f := fun x y => slices_IndexFunc_impl_Standard_impl_Standard_at_impl_ValidChain_1 n x.1 y.1 }

theorem slices_IndexFunc_impl_Standard_impl_Standard_at_impl_ValidChain_1_l2_eq (n : Nat) : ∀ (k : Nat) (v8 : Int) (v0 : List ((ByteArray) × ((Int) × ((((Int) × (Int)) × ((Int) × (Int))) × (((Int) × (Int)) × ((Int) × (Int))))))) (v7 : Int) (b0_0 : ByteArray) (b0_1 : Int) (b0_2 : Int) (b0_3 : Int) (b0_4 : Int) (b0_5 : Int) (b0_6 : Int) (b0_7 : Int) (b0_8 : Int) (b0_9 : Int), iter (interp ([impl_ValidChain_1F n]) ty 19 1 n slices_IndexFunc_impl_Standard_impl_Standard_at_impl_ValidChain_1kp (codeAt slices_IndexFunc_impl_Standard_impl_Standard_at_impl_ValidChain_1c [1, 0, 1, 0, 0])) (canon 1 (slices_IndexFunc_impl_Standard_impl_Standard_at_impl_ValidChain_1kp.loop 2)) (kAt ([impl_ValidChain_1F n]) ty 19 1 n slices_IndexFunc_impl_Standard_impl_Standard_at_impl_ValidChain_1kp slices_IndexFunc_impl_Standard_impl_Standard_at_impl_ValidChain_1c [1, 0, 1, 0] [] (ending ty 1 Go.Proofs.Try.f173.results.toList slices_IndexFunc_impl_Standard_impl_Standard_at_impl_ValidChain_1rs slices_IndexFunc_impl_Standard_impl_Standard_at_impl_ValidChain_1bs)) k { env := [(8, .one (.sc (.int .i64 v8))), (0, .one (.list true (.pair .str (.pair (.int .i64) (.pair (.pair (.pair (.int .i64) (.int .i64)) (.pair (.int .i64) (.int .i64))) (.pair (.pair (.int .i64) (.int .i64)) (.pair (.int .i64) (.int .i64)))))) v0)), (1, .one (.clos 140 (0 :: []))), (7, .one (.sc (.int .i64 v7)))], bx := [(0, .var 49 [.sc (.string b0_0), .sc (.int .i64 b0_1), .sc (.int .i64 b0_2), .sc (.int .i64 b0_3), .sc (.int .i64 b0_4), .sc (.int .i64 b0_5), .sc (.int .i64 b0_6), .sc (.int .i64 b0_7), .sc (.int .i64 b0_8), .sc (.int .i64 b0_9)])], nx := 1 } = slices_IndexFunc_impl_Standard_impl_Standard_at_impl_ValidChain_1_l2 n k v8 v0 v7 b0_0 b0_1 b0_2 b0_3 b0_4 b0_5 b0_6 b0_7 b0_8 b0_9
  | 0, _, _, _, _, _, _, _, _, _, _, _, _, _ => by kernel_rfl
  | k + 1, v8, v0, v7, b0_0, b0_1, b0_2, b0_3, b0_4, b0_5, b0_6, b0_7, b0_8, b0_9 => by
    have h : iter (interp ([impl_ValidChain_1F n]) ty 19 1 n slices_IndexFunc_impl_Standard_impl_Standard_at_impl_ValidChain_1kp (codeAt slices_IndexFunc_impl_Standard_impl_Standard_at_impl_ValidChain_1c [1, 0, 1, 0, 0])) (canon 1 (slices_IndexFunc_impl_Standard_impl_Standard_at_impl_ValidChain_1kp.loop 2)) (kAt ([impl_ValidChain_1F n]) ty 19 1 n slices_IndexFunc_impl_Standard_impl_Standard_at_impl_ValidChain_1kp slices_IndexFunc_impl_Standard_impl_Standard_at_impl_ValidChain_1c [1, 0, 1, 0] [] (ending ty 1 Go.Proofs.Try.f173.results.toList slices_IndexFunc_impl_Standard_impl_Standard_at_impl_ValidChain_1rs slices_IndexFunc_impl_Standard_impl_Standard_at_impl_ValidChain_1bs)) (k + 1) { env := [(8, .one (.sc (.int .i64 v8))), (0, .one (.list true (.pair .str (.pair (.int .i64) (.pair (.pair (.pair (.int .i64) (.int .i64)) (.pair (.int .i64) (.int .i64))) (.pair (.pair (.int .i64) (.int .i64)) (.pair (.int .i64) (.int .i64)))))) v0)), (1, .one (.clos 140 (0 :: []))), (7, .one (.sc (.int .i64 v7)))], bx := [(0, .var 49 [.sc (.string b0_0), .sc (.int .i64 b0_1), .sc (.int .i64 b0_2), .sc (.int .i64 b0_3), .sc (.int .i64 b0_4), .sc (.int .i64 b0_5), .sc (.int .i64 b0_6), .sc (.int .i64 b0_7), .sc (.int .i64 b0_8), .sc (.int .i64 b0_9)])], nx := 1 } = slices_IndexFunc_impl_Standard_impl_Standard_at_impl_ValidChain_1_t2 n (fun v8 v0 v7 b0_0 b0_1 b0_2 b0_3 b0_4 b0_5 b0_6 b0_7 b0_8 b0_9 => iter (interp ([impl_ValidChain_1F n]) ty 19 1 n slices_IndexFunc_impl_Standard_impl_Standard_at_impl_ValidChain_1kp (codeAt slices_IndexFunc_impl_Standard_impl_Standard_at_impl_ValidChain_1c [1, 0, 1, 0, 0])) (canon 1 (slices_IndexFunc_impl_Standard_impl_Standard_at_impl_ValidChain_1kp.loop 2)) (kAt ([impl_ValidChain_1F n]) ty 19 1 n slices_IndexFunc_impl_Standard_impl_Standard_at_impl_ValidChain_1kp slices_IndexFunc_impl_Standard_impl_Standard_at_impl_ValidChain_1c [1, 0, 1, 0] [] (ending ty 1 Go.Proofs.Try.f173.results.toList slices_IndexFunc_impl_Standard_impl_Standard_at_impl_ValidChain_1rs slices_IndexFunc_impl_Standard_impl_Standard_at_impl_ValidChain_1bs)) k { env := [(8, .one (.sc (.int .i64 v8))), (0, .one (.list true (.pair .str (.pair (.int .i64) (.pair (.pair (.pair (.int .i64) (.int .i64)) (.pair (.int .i64) (.int .i64))) (.pair (.pair (.int .i64) (.int .i64)) (.pair (.int .i64) (.int .i64)))))) v0)), (1, .one (.clos 140 (0 :: []))), (7, .one (.sc (.int .i64 v7)))], bx := [(0, .var 49 [.sc (.string b0_0), .sc (.int .i64 b0_1), .sc (.int .i64 b0_2), .sc (.int .i64 b0_3), .sc (.int .i64 b0_4), .sc (.int .i64 b0_5), .sc (.int .i64 b0_6), .sc (.int .i64 b0_7), .sc (.int .i64 b0_8), .sc (.int .i64 b0_9)])], nx := 1 }) v8 v0 v7 b0_0 b0_1 b0_2 b0_3 b0_4 b0_5 b0_6 b0_7 b0_8 b0_9 := by kernel_rfl
    rw [h]
    have e := congrArg (fun g => slices_IndexFunc_impl_Standard_impl_Standard_at_impl_ValidChain_1_t2 n g v8 v0 v7 b0_0 b0_1 b0_2 b0_3 b0_4 b0_5 b0_6 b0_7 b0_8 b0_9) (funext fun v8 => funext fun v0 => funext fun v7 => funext fun b0_0 => funext fun b0_1 => funext fun b0_2 => funext fun b0_3 => funext fun b0_4 => funext fun b0_5 => funext fun b0_6 => funext fun b0_7 => funext fun b0_8 => funext fun b0_9 => slices_IndexFunc_impl_Standard_impl_Standard_at_impl_ValidChain_1_l2_eq n k v8 v0 v7 b0_0 b0_1 b0_2 b0_3 b0_4 b0_5 b0_6 b0_7 b0_8 b0_9)
    exact e

theorem slices_IndexFunc_impl_Standard_impl_Standard_at_impl_ValidChain_1_eq (n : Nat) (a0 : List ((ByteArray) × ((Int) × ((((Int) × (Int)) × ((Int) × (Int))) × (((Int) × (Int)) × ((Int) × (Int))))))) (b0 : (ByteArray) × ((Int) × ((((Int) × (Int)) × ((Int) × (Int))) × (((Int) × (Int)) × ((Int) × (Int)))))) : runBody ([impl_ValidChain_1F n]) ty 19 n slices_IndexFunc_impl_Standard_impl_Standard_at_impl_ValidChain_1kp slices_IndexFunc_impl_Standard_impl_Standard_at_impl_ValidChain_1c Go.Proofs.Try.f173.results.toList slices_IndexFunc_impl_Standard_impl_Standard_at_impl_ValidChain_1rs slices_IndexFunc_impl_Standard_impl_Standard_at_impl_ValidChain_1sp slices_IndexFunc_impl_Standard_impl_Standard_at_impl_ValidChain_1bs (a0, ((), ())) (b0, ()) = slices_IndexFunc_impl_Standard_impl_Standard_at_impl_ValidChain_1 n a0 b0 := by
  have h : runBody ([impl_ValidChain_1F n]) ty 19 n slices_IndexFunc_impl_Standard_impl_Standard_at_impl_ValidChain_1kp slices_IndexFunc_impl_Standard_impl_Standard_at_impl_ValidChain_1c Go.Proofs.Try.f173.results.toList slices_IndexFunc_impl_Standard_impl_Standard_at_impl_ValidChain_1rs slices_IndexFunc_impl_Standard_impl_Standard_at_impl_ValidChain_1sp slices_IndexFunc_impl_Standard_impl_Standard_at_impl_ValidChain_1bs (a0, ((), ())) (b0, ()) = slices_IndexFunc_impl_Standard_impl_Standard_at_impl_ValidChain_1_t n (fun k v8 v0 v7 b0_0 b0_1 b0_2 b0_3 b0_4 b0_5 b0_6 b0_7 b0_8 b0_9 => iter (interp ([impl_ValidChain_1F n]) ty 19 1 n slices_IndexFunc_impl_Standard_impl_Standard_at_impl_ValidChain_1kp (codeAt slices_IndexFunc_impl_Standard_impl_Standard_at_impl_ValidChain_1c [1, 0, 1, 0, 0])) (canon 1 (slices_IndexFunc_impl_Standard_impl_Standard_at_impl_ValidChain_1kp.loop 2)) (kAt ([impl_ValidChain_1F n]) ty 19 1 n slices_IndexFunc_impl_Standard_impl_Standard_at_impl_ValidChain_1kp slices_IndexFunc_impl_Standard_impl_Standard_at_impl_ValidChain_1c [1, 0, 1, 0] [] (ending ty 1 Go.Proofs.Try.f173.results.toList slices_IndexFunc_impl_Standard_impl_Standard_at_impl_ValidChain_1rs slices_IndexFunc_impl_Standard_impl_Standard_at_impl_ValidChain_1bs)) k { env := [(8, .one (.sc (.int .i64 v8))), (0, .one (.list true (.pair .str (.pair (.int .i64) (.pair (.pair (.pair (.int .i64) (.int .i64)) (.pair (.int .i64) (.int .i64))) (.pair (.pair (.int .i64) (.int .i64)) (.pair (.int .i64) (.int .i64)))))) v0)), (1, .one (.clos 140 (0 :: []))), (7, .one (.sc (.int .i64 v7)))], bx := [(0, .var 49 [.sc (.string b0_0), .sc (.int .i64 b0_1), .sc (.int .i64 b0_2), .sc (.int .i64 b0_3), .sc (.int .i64 b0_4), .sc (.int .i64 b0_5), .sc (.int .i64 b0_6), .sc (.int .i64 b0_7), .sc (.int .i64 b0_8), .sc (.int .i64 b0_9)])], nx := 1 }) a0 b0 := by kernel_rfl
  rw [h]
  have e := congrArg (fun h2 => slices_IndexFunc_impl_Standard_impl_Standard_at_impl_ValidChain_1_t n h2 a0 b0) (funext fun k => funext fun v8 => funext fun v0 => funext fun v7 => funext fun b0_0 => funext fun b0_1 => funext fun b0_2 => funext fun b0_3 => funext fun b0_4 => funext fun b0_5 => funext fun b0_6 => funext fun b0_7 => funext fun b0_8 => funext fun b0_9 => slices_IndexFunc_impl_Standard_impl_Standard_at_impl_ValidChain_1_l2_eq n k v8 v0 v7 b0_0 b0_1 b0_2 b0_3 b0_4 b0_5 b0_6 b0_7 b0_8 b0_9)
  exact e

theorem slices_IndexFunc_impl_Standard_impl_Standard_at_impl_ValidChain_1_ok (n : Nat) : FunOk P (slices_IndexFunc_impl_Standard_impl_Standard_at_impl_ValidChain_1F n) :=
  funOk_mk (C := [impl_ValidChain_1F n]) (N := 19) (kp := slices_IndexFunc_impl_Standard_impl_Standard_at_impl_ValidChain_1kp) (c := slices_IndexFunc_impl_Standard_impl_Standard_at_impl_ValidChain_1c) (n := n) (G := fun x y => slices_IndexFunc_impl_Standard_impl_Standard_at_impl_ValidChain_1 n x.1 y.1) follows (AllOk.mem (⟨impl_ValidChain_1_ok n, trivial⟩ : AllOk P ([impl_ValidChain_1F n]))) (by kernel_rfl : P.funcs[173]? = some Go.Proofs.Try.f173) (by kernel_rfl) (by kernel_rfl) (by kernel_rfl)
    (fun x y => slices_IndexFunc_impl_Standard_impl_Standard_at_impl_ValidChain_1_eq n x.1 y.1) (fun _ _ => map_same (fun _ => rfl) _) (fun _ _ _ _ => rfl)

abbrev slices_ContainsFunc_impl_Standard_impl_Standard_at_impl_ValidChain_1sp : List Sp := [.v false (.list (.pair .str (.pair (.int .i64) (.pair (.pair (.pair (.int .i64) (.int .i64)) (.pair (.int .i64) (.int .i64))) (.pair (.pair (.int .i64) (.int .i64)) (.pair (.int .i64) (.int .i64))))))), .cl 140 [0]]
abbrev slices_ContainsFunc_impl_Standard_impl_Standard_at_impl_ValidChain_1bs : List (Bs × Bool) := [(.var 49 (.pair .str (.pair (.int .i64) (.pair (.pair (.pair (.int .i64) (.int .i64)) (.pair (.int .i64) (.int .i64))) (.pair (.pair (.int .i64) (.int .i64)) (.pair (.int .i64) (.int .i64)))))), true)]
abbrev slices_ContainsFunc_impl_Standard_impl_Standard_at_impl_ValidChain_1rs : List (Bool × List Rp) := [(false, [.v false .bool])]
noncomputable def slices_ContainsFunc_impl_Standard_impl_Standard_at_impl_ValidChain_1kp : Keep := { loop := fun id => match id with | _ => ([], []), join := fun id => match id with | _ => none }
noncomputable def slices_ContainsFunc_impl_Standard_impl_Standard_at_impl_ValidChain_1c : Code := bodyOf Go.Proofs.Try.f139
noncomputable def slices_ContainsFunc_impl_Standard_impl_Standard_at_impl_ValidChain_1F (n : Nat) : Fun := { id := 139, sp := slices_ContainsFunc_impl_Standard_impl_Standard_at_impl_ValidChain_1sp, bs := slices_ContainsFunc_impl_Standard_impl_Standard_at_impl_ValidChain_1bs, rs := slices_ContainsFunc_impl_Standard_impl_Standard_at_impl_ValidChain_1rs, f := fun x y => slices_ContainsFunc_impl_Standard_impl_Standard_at_impl_ValidChain_1 n x.1 y.1 }

theorem slices_ContainsFunc_impl_Standard_impl_Standard_at_impl_ValidChain_1_eq (n : Nat) (a0 : List ((ByteArray) × ((Int) × ((((Int) × (Int)) × ((Int) × (Int))) × (((Int) × (Int)) × ((Int) × (Int))))))) (b0 : (ByteArray) × ((Int) × ((((Int) × (Int)) × ((Int) × (Int))) × (((Int) × (Int)) × ((Int) × (Int)))))) : runBody ([slices_IndexFunc_impl_Standard_impl_Standard_at_impl_ValidChain_1F n]) ty 9 n slices_ContainsFunc_impl_Standard_impl_Standard_at_impl_ValidChain_1kp slices_ContainsFunc_impl_Standard_impl_Standard_at_impl_ValidChain_1c Go.Proofs.Try.f139.results.toList slices_ContainsFunc_impl_Standard_impl_Standard_at_impl_ValidChain_1rs slices_ContainsFunc_impl_Standard_impl_Standard_at_impl_ValidChain_1sp slices_ContainsFunc_impl_Standard_impl_Standard_at_impl_ValidChain_1bs (a0, ((), ())) (b0, ()) = slices_ContainsFunc_impl_Standard_impl_Standard_at_impl_ValidChain_1 n a0 b0 := by
  have h : runBody ([slices_IndexFunc_impl_Standard_impl_Standard_at_impl_ValidChain_1F n]) ty 9 n slices_ContainsFunc_impl_Standard_impl_Standard_at_impl_ValidChain_1kp slices_ContainsFunc_impl_Standard_impl_Standard_at_impl_ValidChain_1c Go.Proofs.Try.f139.results.toList slices_ContainsFunc_impl_Standard_impl_Standard_at_impl_ValidChain_1rs slices_ContainsFunc_impl_Standard_impl_Standard_at_impl_ValidChain_1sp slices_ContainsFunc_impl_Standard_impl_Standard_at_impl_ValidChain_1bs (a0, ((), ())) (b0, ()) = slices_ContainsFunc_impl_Standard_impl_Standard_at_impl_ValidChain_1_t n a0 b0 := by kernel_rfl
  rw [h]
  rfl

theorem slices_ContainsFunc_impl_Standard_impl_Standard_at_impl_ValidChain_1_ok (n : Nat) : FunOk P (slices_ContainsFunc_impl_Standard_impl_Standard_at_impl_ValidChain_1F n) :=
  funOk_mk (C := [slices_IndexFunc_impl_Standard_impl_Standard_at_impl_ValidChain_1F n]) (N := 9) (kp := slices_ContainsFunc_impl_Standard_impl_Standard_at_impl_ValidChain_1kp) (c := slices_ContainsFunc_impl_Standard_impl_Standard_at_impl_ValidChain_1c) (n := n) (G := fun x y => slices_ContainsFunc_impl_Standard_impl_Standard_at_impl_ValidChain_1 n x.1 y.1) follows (AllOk.mem (⟨slices_IndexFunc_impl_Standard_impl_Standard_at_impl_ValidChain_1_ok n, trivial⟩ : AllOk P ([slices_IndexFunc_impl_Standard_impl_Standard_at_impl_ValidChain_1F n]))) (by kernel_rfl : P.funcs[139]? = some Go.Proofs.Try.f139) (by kernel_rfl) (by kernel_rfl) (by kernel_rfl)
    (fun x y => slices_ContainsFunc_impl_Standard_impl_Standard_at_impl_ValidChain_1_eq n x.1 y.1) (fun _ _ => map_same (fun _ => rfl) _) (fun _ _ _ _ => rfl)

abbrev impl_Standard_goodsp : List Sp := [.v true (.pair .str (.pair (.int .i64) (.pair (.pair (.pair (.int .i64) (.int .i64)) (.pair (.int .i64) (.int .i64))) (.pair (.pair (.int .i64) (.int .i64)) (.pair (.int .i64) (.int .i64)))))), .v false (.int .i64)]
abbrev impl_Standard_goodbs : List (Bs × Bool) := []
abbrev impl_Standard_goodrs : List (Bool × List Rp) := [(false, [.v false .bool])]
noncomputable def impl_Standard_goodkp : Keep := { loop := fun id => match id with | _ => ([], []), join := fun id => match id with | _ => none }
noncomputable def impl_Standard_goodc : Code := bodyOf Go.Proofs.Try.f76
noncomputable def impl_Standard_goodF (n : Nat) : Fun := { id := 76, sp := impl_Standard_goodsp, bs := impl_Standard_goodbs, rs := impl_Standard_goodrs, f := fun x y => impl_Standard_good n x.1 x.2.1 }

theorem impl_Standard_good_eq (n : Nat) (a0 : (ByteArray) × ((Int) × ((((Int) × (Int)) × ((Int) × (Int))) × (((Int) × (Int)) × ((Int) × (Int)))))) (a1 : Int) : runBody ([impl_withinF n]) ty 14 n impl_Standard_goodkp impl_Standard_goodc Go.Proofs.Try.f76.results.toList impl_Standard_goodrs impl_Standard_goodsp impl_Standard_goodbs (a0, (a1, ())) () = impl_Standard_good n a0 a1 := by
  have h : runBody ([impl_withinF n]) ty 14 n impl_Standard_goodkp impl_Standard_goodc Go.Proofs.Try.f76.results.toList impl_Standard_goodrs impl_Standard_goodsp impl_Standard_goodbs (a0, (a1, ())) () = impl_Standard_good_t n a0 a1 := by kernel_rfl
  rw [h]
  rfl

theorem impl_Standard_good_ok (n : Nat) : FunOk P (impl_Standard_goodF n) :=
  funOk_mk (C := [impl_withinF n]) (N := 14) (kp := impl_Standard_goodkp) (c := impl_Standard_goodc) (n := n) (G := fun x y => impl_Standard_good n x.1 x.2.1) follows (AllOk.mem (⟨impl_within_ok n, trivial⟩ : AllOk P ([impl_withinF n]))) (by kernel_rfl : P.funcs[76]? = some Go.Proofs.Try.f76) (by kernel_rfl) (by kernel_rfl) (by kernel_rfl)
    (fun x y => impl_Standard_good_eq n x.1 x.2.1) (fun _ _ => map_same (fun _ => rfl) _) (fun _ _ _ _ => rfl)

abbrev impl_ValidChainsp : List Sp := [.v false (.list (.pair .str (.pair (.int .i64) (.pair (.pair (.pair (.int .i64) (.int .i64)) (.pair (.int .i64) (.int .i64))) (.pair (.pair (.int .i64) (.int .i64)) (.pair (.int .i64) (.int .i64)))))))]
abbrev impl_ValidChainbs : List (Bs × Bool) := []
abbrev impl_ValidChainrs : List (Bool × List Rp) := [(false, [.v false .bool])]
noncomputable def impl_ValidChainkp : Keep := { loop := fun id => match id with | 2 => ([7, 0, 5, 6], []) | _ => ([], []), join := fun id => match id with | _ => none }
noncomputable def impl_ValidChainc : Code := bodyOf Go.Proofs.Try.f89
noncomputable def impl_ValidChainF (n : Nat) : Fun := { id := 89, sp := impl_ValidChainsp, bs := impl_ValidChainbs, rs := impl_ValidChainrs, f := fun x y => impl_ValidChain n x.1 }

theorem impl_ValidChain_l2_eq (n : Nat) : ∀ (k : Nat) (v7 : Int) (v0 : List ((ByteArray) × ((Int) × ((((Int) × (Int)) × ((Int) × (Int))) × (((Int) × (Int)) × ((Int) × (Int))))))) (v5 : List ((ByteArray) × ((Int) × ((((Int) × (Int)) × ((Int) × (Int))) × (((Int) × (Int)) × ((Int) × (Int))))))) (v6 : Int), iter (interp ([impl_isWordF n, slices_ContainsFunc_impl_Standard_impl_Standard_at_impl_ValidChain_1F n, impl_withinF n, impl_ValidSpanF n, impl_ValidFracF n, impl_Standard_goodF n]) ty 77 0 n impl_ValidChainkp (codeAt impl_ValidChainc [1, 0, 1, 0, 0])) (canon 0 (impl_ValidChainkp.loop 2)) (kAt ([impl_isWordF n, slices_ContainsFunc_impl_Standard_impl_Standard_at_impl_ValidChain_1F n, impl_withinF n, impl_ValidSpanF n, impl_ValidFracF n, impl_Standard_goodF n]) ty 77 0 n impl_ValidChainkp impl_ValidChainc [1, 0, 1, 0] [] (ending ty 0 Go.Proofs.Try.f89.results.toList impl_ValidChainrs impl_ValidChainbs)) k { env := [(7, .one (.sc (.int .i64 v7))), (0, .one (.list true (.pair .str (.pair (.int .i64) (.pair (.pair (.pair (.int .i64) (.int .i64)) (.pair (.int .i64) (.int .i64))) (.pair (.pair (.int .i64) (.int .i64)) (.pair (.int .i64) (.int .i64)))))) v0)), (5, .one (.list true (.pair .str (.pair (.int .i64) (.pair (.pair (.pair (.int .i64) (.int .i64)) (.pair (.int .i64) (.int .i64))) (.pair (.pair (.int .i64) (.int .i64)) (.pair (.int .i64) (.int .i64)))))) v5)), (6, .one (.sc (.int .i64 v6)))], bx := [], nx := 0 } = impl_ValidChain_l2 n k v7 v0 v5 v6
  | 0, _, _, _, _ => by kernel_rfl
  | k + 1, v7, v0, v5, v6 => by
    have h : iter (interp ([impl_isWordF n, slices_ContainsFunc_impl_Standard_impl_Standard_at_impl_ValidChain_1F n, impl_withinF n, impl_ValidSpanF n, impl_ValidFracF n, impl_Standard_goodF n]) ty 77 0 n impl_ValidChainkp (codeAt impl_ValidChainc [1, 0, 1, 0, 0])) (canon 0 (impl_ValidChainkp.loop 2)) (kAt ([impl_isWordF n, slices_ContainsFunc_impl_Standard_impl_Standard_at_impl_ValidChain_1F n, impl_withinF n, impl_ValidSpanF n, impl_ValidFracF n, impl_Standard_goodF n]) ty 77 0 n impl_ValidChainkp impl_ValidChainc [1, 0, 1, 0] [] (ending ty 0 Go.Proofs.Try.f89.results.toList impl_ValidChainrs impl_ValidChainbs)) (k + 1) { env := [(7, .one (.sc (.int .i64 v7))), (0, .one (.list true (.pair .str (.pair (.int .i64) (.pair (.pair (.pair (.int .i64) (.int .i64)) (.pair (.int .i64) (.int .i64))) (.pair (.pair (.int .i64) (.int .i64)) (.pair (.int .i64) (.int .i64)))))) v0)), (5, .one (.list true (.pair .str (.pair (.int .i64) (.pair (.pair (.pair (.int .i64) (.int .i64)) (.pair (.int .i64) (.int .i64))) (.pair (.pair (.int .i64) (.int .i64)) (.pair (.int .i64) (.int .i64)))))) v5)), (6, .one (.sc (.int .i64 v6)))], bx := [], nx := 0 } = impl_ValidChain_t2 n (fun v7 v0 v5 v6 => iter (interp ([impl_isWordF n, slices_ContainsFunc_impl_Standard_impl_Standard_at_impl_ValidChain_1F n, impl_withinF n, impl_ValidSpanF n, impl_ValidFracF n, impl_Standard_goodF n]) ty 77 0 n impl_ValidChainkp (codeAt impl_ValidChainc [1, 0, 1, 0, 0])) (canon 0 (impl_ValidChainkp.loop 2)) (kAt ([impl_isWordF n, slices_ContainsFunc_impl_Standard_impl_Standard_at_impl_ValidChain_1F n, impl_withinF n, impl_ValidSpanF n, impl_ValidFracF n, impl_Standard_goodF n]) ty 77 0 n impl_ValidChainkp impl_ValidChainc [1, 0, 1, 0] [] (ending ty 0 Go.Proofs.Try.f89.results.toList impl_ValidChainrs impl_ValidChainbs)) k { env := [(7, .one (.sc (.int .i64 v7))), (0, .one (.list true (.pair .str (.pair (.int .i64) (.pair (.pair (.pair (.int .i64) (.int .i64)) (.pair (.int .i64) (.int .i64))) (.pair (.pair (.int .i64) (.int .i64)) (.pair (.int .i64) (.int .i64)))))) v0)), (5, .one (.list true (.pair .str (.pair (.int .i64) (.pair (.pair (.pair (.int .i64) (.int .i64)) (.pair (.int .i64) (.int .i64))) (.pair (.pair (.int .i64) (.int .i64)) (.pair (.int .i64) (.int .i64)))))) v5)), (6, .one (.sc (.int .i64 v6)))], bx := [], nx := 0 }) v7 v0 v5 v6 := by kernel_rfl
    rw [h]
    have e := congrArg (fun g => impl_ValidChain_t2 n g v7 v0 v5 v6) (funext fun v7 => funext fun v0 => funext fun v5 => funext fun v6 => impl_ValidChain_l2_eq n k v7 v0 v5 v6)
    exact e

theorem impl_ValidChain_eq (n : Nat) (a0 : List ((ByteArray) × ((Int) × ((((Int) × (Int)) × ((Int) × (Int))) × (((Int) × (Int)) × ((Int) × (Int))))))) : runBody ([impl_isWordF n, slices_ContainsFunc_impl_Standard_impl_Standard_at_impl_ValidChain_1F n, impl_withinF n, impl_ValidSpanF n, impl_ValidFracF n, impl_Standard_goodF n]) ty 77 n impl_ValidChainkp impl_ValidChainc Go.Proofs.Try.f89.results.toList impl_ValidChainrs impl_ValidChainsp impl_ValidChainbs (a0, ()) () = impl_ValidChain n a0 := by
  have h : runBody ([impl_isWordF n, slices_ContainsFunc_impl_Standard_impl_Standard_at_impl_ValidChain_1F n, impl_withinF n, impl_ValidSpanF n, impl_ValidFracF n, impl_Standard_goodF n]) ty 77 n impl_ValidChainkp impl_ValidChainc Go.Proofs.Try.f89.results.toList impl_ValidChainrs impl_ValidChainsp impl_ValidChainbs (a0, ()) () = impl_ValidChain_t n (fun k v7 v0 v5 v6 => iter (interp ([impl_isWordF n, slices_ContainsFunc_impl_Standard_impl_Standard_at_impl_ValidChain_1F n, impl_withinF n, impl_ValidSpanF n, impl_ValidFracF n, impl_Standard_goodF n]) ty 77 0 n impl_ValidChainkp (codeAt impl_ValidChainc [1, 0, 1, 0, 0])) (canon 0 (impl_ValidChainkp.loop 2)) (kAt ([impl_isWordF n, slices_ContainsFunc_impl_Standard_impl_Standard_at_impl_ValidChain_1F n, impl_withinF n, impl_ValidSpanF n, impl_ValidFracF n, impl_Standard_goodF n]) ty 77 0 n impl_ValidChainkp impl_ValidChainc [1, 0, 1, 0] [] (ending ty 0 Go.Proofs.Try.f89.results.toList impl_ValidChainrs impl_ValidChainbs)) k { env := [(7, .one (.sc (.int .i64 v7))), (0, .one (.list true (.pair .str (.pair (.int .i64) (.pair (.pair (.pair (.int .i64) (.int .i64)) (.pair (.int .i64) (.int .i64))) (.pair (.pair (.int .i64) (.int .i64)) (.pair (.int .i64) (.int .i64)))))) v0)), (5, .one (.list true (.pair .str (.pair (.int .i64) (.pair (.pair (.pair (.int .i64) (.int .i64)) (.pair (.int .i64) (.int .i64))) (.pair (.pair (.int .i64) (.int .i64)) (.pair (.int .i64) (.int .i64)))))) v5)), (6, .one (.sc (.int .i64 v6)))], bx := [], nx := 0 }) a0 := by kernel_rfl
  rw [h]
  have e := congrArg (fun h2 => impl_ValidChain_t n h2 a0) (funext fun k => funext fun v7 => funext fun v0 => funext fun v5 => funext fun v6 => impl_ValidChain_l2_eq n k v7 v0 v5 v6)
  exact e

theorem impl_ValidChain_ok (n : Nat) : FunOk P (impl_ValidChainF n) :=
  funOk_mk (C := [impl_isWordF n, slices_ContainsFunc_impl_Standard_impl_Standard_at_impl_ValidChain_1F n, impl_withinF n, impl_ValidSpanF n, impl_ValidFracF n, impl_Standard_goodF n]) (N := 77) (kp := impl_ValidChainkp) (c := impl_ValidChainc) (n := n) (G := fun x y => impl_ValidChain n x.1) follows (AllOk.mem (⟨impl_isWord_ok n, ⟨slices_ContainsFunc_impl_Standard_impl_Standard_at_impl_ValidChain_1_ok n, ⟨impl_within_ok n, ⟨impl_ValidSpan_ok n, ⟨impl_ValidFrac_ok n, ⟨impl_Standard_good_ok n, trivial⟩⟩⟩⟩⟩⟩ : AllOk P ([impl_isWordF n, slices_ContainsFunc_impl_Standard_impl_Standard_at_impl_ValidChain_1F n, impl_withinF n, impl_ValidSpanF n, impl_ValidFracF n, impl_Standard_goodF n]))) (by kernel_rfl : P.funcs[89]? = some Go.Proofs.Try.f89) (by kernel_rfl) (by kernel_rfl) (by kernel_rfl)
    (fun x y => impl_ValidChain_eq n x.1) (fun _ _ => map_same (fun _ => rfl) _) (fun _ _ _ _ => rfl)

abbrev impl_chainCode_1sp : List Sp := [.v false (.int .i64), .ref 0]
abbrev impl_chainCode_1bs : List (Bs × Bool) := [(.var 27 (.list (.pair .str (.pair (.int .i64) (.pair (.pair (.pair (.int .i64) (.int .i64)) (.pair (.int .i64) (.int .i64))) (.pair (.pair (.int .i64) (.int .i64)) (.pair (.int .i64) (.int .i64))))))), true)]
abbrev impl_chainCode_1rs : List (Bool × List Rp) := [(false, [.v false .bool])]
noncomputable def impl_chainCode_1kp : Keep := { loop := fun id => match id with | _ => ([], []), join := fun id => match id with | _ => none }
noncomputable def impl_chainCode_1c : Code := bodyOf Go.Proofs.Try.f135
noncomputable def impl_chainCode_1F (n : Nat) : Fun := { id := 135, sp := impl_chainCode_1sp, bs := impl_chainCode_1bs, rs := impl_chainCode_1rs, f := fun x y => impl_chainCode_1 n x.1 y.1 }

theorem impl_chainCode_1_eq (n : Nat) (a0 : Int) (b0 : List ((ByteArray) × ((Int) × ((((Int) × (Int)) × ((Int) × (Int))) × (((Int) × (Int)) × ((Int) × (Int))))))) : runBody ([impl_withinF n]) ty 10 n impl_chainCode_1kp impl_chainCode_1c Go.Proofs.Try.f135.results.toList impl_chainCode_1rs impl_chainCode_1sp impl_chainCode_1bs (a0, ((), ())) (b0, ()) = impl_chainCode_1 n a0 b0 := by
  have h : runBody ([impl_withinF n]) ty 10 n impl_chainCode_1kp impl_chainCode_1c Go.Proofs.Try.f135.results.toList impl_chainCode_1rs impl_chainCode_1sp impl_chainCode_1bs (a0, ((), ())) (b0, ()) = impl_chainCode_1_t n a0 b0 := by kernel_rfl
  rw [h]
  rfl

theorem impl_chainCode_1_ok (n : Nat) : FunOk P (impl_chainCode_1F n) :=
  funOk_mk (C := [impl_withinF n]) (N := 10) (kp := impl_chainCode_1kp) (c := impl_chainCode_1c) (n := n) (G := fun x y => impl_chainCode_1 n x.1 y.1) follows (AllOk.mem (⟨impl_within_ok n, trivial⟩ : AllOk P ([impl_withinF n]))) (by kernel_rfl : P.funcs[135]? = some Go.Proofs.Try.f135) (by kernel_rfl) (by kernel_rfl) (by kernel_rfl)
    (fun x y => impl_chainCode_1_eq n x.1 y.1) (fun _ _ => map_same (fun _ => rfl) _) (fun _ _ _ _ => rfl)

abbrev slices_IndexFunc_int64_int64_at_impl_chainCode_1sp : List Sp := [.v false (.list (.int .i64)), .cl 135 [0]]
abbrev slices_IndexFunc_int64_int64_at_impl_chainCode_1bs : List (Bs × Bool) := [(.var 27 (.list (.pair .str (.pair (.int .i64) (.pair (.pair (.pair (.int .i64) (.int .i64)) (.pair (.int .i64) (.int .i64))) (.pair (.pair (.int .i64) (.int .i64)) (.pair (.int .i64) (.int .i64))))))), true)]
abbrev slices_IndexFunc_int64_int64_at_impl_chainCode_1rs : List (Bool × List Rp) := [(false, [.v false (.int .i64)])]
noncomputable def slices_IndexFunc_int64_int64_at_impl_chainCode_1kp : Keep := { loop := fun id => match id with | 2 => ([8, 0, 1, 7], []) | _ => ([], []), join := fun id => match id with | _ => none }
noncomputable def slices_IndexFunc_int64_int64_at_impl_chainCode_1c : Code := bodyOf Go.Proofs.Try.f172
noncomputable def slices_IndexFunc_int64_int64_at_impl_chainCode_1F (n : Nat) : Fun := { id := 172, sp := slices_IndexFunc_int64_int64_at_impl_chainCode_1sp, bs := slices_IndexFunc_int64_int64_at_impl_chainCode_1bs, rs := slices_IndexFunc_int64_int64_at_impl_chainCode_1rs, f := fun x y => slices_IndexFunc_int64_int64_at_impl_chainCode_1 n x.1 y.1 }

theorem slices_IndexFunc_int64_int64_at_impl_chainCode_1_l2_eq (n : Nat) : ∀ (k : Nat) (v8 : Int) (v0 : List (Int)) (v7 : Int) (b0 : List ((ByteArray) × ((Int) × ((((Int) × (Int)) × ((Int) × (Int))) × (((Int) × (Int)) × ((Int) × (Int))))))), iter (interp ([impl_chainCode_1F n]) ty 19 1 n slices_IndexFunc_int64_int64_at_impl_chainCode_1kp (codeAt slices_IndexFunc_int64_int64_at_impl_chainCode_1c [1, 0, 1, 0, 0])) (canon 1 (slices_IndexFunc_int64_int64_at_impl_chainCode_1kp.loop 2)) (kAt ([impl_chainCode_1F n]) ty 19 1 n slices_IndexFunc_int64_int64_at_impl_chainCode_1kp slices_IndexFunc_int64_int64_at_impl_chainCode_1c [1, 0, 1, 0] [] (ending ty 1 Go.Proofs.Try.f172.results.toList slices_IndexFunc_int64_int64_at_impl_chainCode_1rs slices_IndexFunc_int64_int64_at_impl_chainCode_1bs)) k { env := [(8, .one (.sc (.int .i64 v8))), (0, .one (.list true (.int .i64) v0)), (1, .one (.clos 135 (0 :: []))), (7, .one (.sc (.int .i64 v7)))], bx := [(0, .var 27 [.list true (.pair .str (.pair (.int .i64) (.pair (.pair (.pair (.int .i64) (.int .i64)) (.pair (.int .i64) (.int .i64))) (.pair (.pair (.int .i64) (.int .i64)) (.pair (.int .i64) (.int .i64)))))) b0])], nx := 1 } = slices_IndexFunc_int64_int64_at_impl_chainCode_1_l2 n k v8 v0 v7 b0
  | 0, _, _, _, _ => by kernel_rfl
  | k + 1, v8, v0, v7, b0 => by
    have h : iter (interp ([impl_chainCode_1F n]) ty 19 1 n slices_IndexFunc_int64_int64_at_impl_chainCode_1kp (codeAt slices_IndexFunc_int64_int64_at_impl_chainCode_1c [1, 0, 1, 0, 0])) (canon 1 (slices_IndexFunc_int64_int64_at_impl_chainCode_1kp.loop 2)) (kAt ([impl_chainCode_1F n]) ty 19 1 n slices_IndexFunc_int64_int64_at_impl_chainCode_1kp slices_IndexFunc_int64_int64_at_impl_chainCode_1c [1, 0, 1, 0] [] (ending ty 1 Go.Proofs.Try.f172.results.toList slices_IndexFunc_int64_int64_at_impl_chainCode_1rs slices_IndexFunc_int64_int64_at_impl_chainCode_1bs)) (k + 1) { env := [(8, .one (.sc (.int .i64 v8))), (0, .one (.list true (.int .i64) v0)), (1, .one (.clos 135 (0 :: []))), (7, .one (.sc (.int .i64 v7)))], bx := [(0, .var 27 [.list true (.pair .str (.pair (.int .i64) (.pair (.pair (.pair (.int .i64) (.int .i64)) (.pair (.int .i64) (.int .i64))) (.pair (.pair (.int .i64) (.int .i64)) (.pair (.int .i64) (.int .i64)))))) b0])], nx := 1 } = slices_IndexFunc_int64_int64_at_impl_chainCode_1_t2 n (fun v8 v0 v7 b0 => iter (interp ([impl_chainCode_1F n]) ty 19 1 n slices_IndexFunc_int64_int64_at_impl_chainCode_1kp (codeAt slices_IndexFunc_int64_int64_at_impl_chainCode_1c [1, 0, 1, 0, 0])) (canon 1 (slices_IndexFunc_int64_int64_at_impl_chainCode_1kp.loop 2)) (kAt ([impl_chainCode_1F n]) ty 19 1 n slices_IndexFunc_int64_int64_at_impl_chainCode_1kp slices_IndexFunc_int64_int64_at_impl_chainCode_1c [1, 0, 1, 0] [] (ending ty 1 Go.Proofs.Try.f172.results.toList slices_IndexFunc_int64_int64_at_impl_chainCode_1rs slices_IndexFunc_int64_int64_at_impl_chainCode_1bs)) k { env := [(8, .one (.sc (.int .i64 v8))), (0, .one (.list true (.int .i64) v0)), (1, .one (.clos 135 (0 :: []))), (7, .one (.sc (.int .i64 v7)))], bx := [(0, .var 27 [.list true (.pair .str (.pair (.int .i64) (.pair (.pair (.pair (.int .i64) (.int .i64)) (.pair (.int .i64) (.int .i64))) (.pair (.pair (.int .i64) (.int .i64)) (.pair (.int .i64) (.int .i64)))))) b0])], nx := 1 }) v8 v0 v7 b0 := by kernel_rfl
    rw [h]
    have e := congrArg (fun g => slices_IndexFunc_int64_int64_at_impl_chainCode_1_t2 n g v8 v0 v7 b0) (funext fun v8 => funext fun v0 => funext fun v7 => funext fun b0 => slices_IndexFunc_int64_int64_at_impl_chainCode_1_l2_eq n k v8 v0 v7 b0)
    exact e

theorem slices_IndexFunc_int64_int64_at_impl_chainCode_1_eq (n : Nat) (a0 : List (Int)) (b0 : List ((ByteArray) × ((Int) × ((((Int) × (Int)) × ((Int) × (Int))) × (((Int) × (Int)) × ((Int) × (Int))))))) : runBody ([impl_chainCode_1F n]) ty 19 n slices_IndexFunc_int64_int64_at_impl_chainCode_1kp slices_IndexFunc_int64_int64_at_impl_chainCode_1c Go.Proofs.Try.f172.results.toList slices_IndexFunc_int64_int64_at_impl_chainCode_1rs slices_IndexFunc_int64_int64_at_impl_chainCode_1sp slices_IndexFunc_int64_int64_at_impl_chainCode_1bs (a0, ((), ())) (b0, ()) = slices_IndexFunc_int64_int64_at_impl_chainCode_1 n a0 b0 := by
  have h : runBody ([impl_chainCode_1F n]) ty 19 n slices_IndexFunc_int64_int64_at_impl_chainCode_1kp slices_IndexFunc_int64_int64_at_impl_chainCode_1c Go.Proofs.Try.f172.results.toList slices_IndexFunc_int64_int64_at_impl_chainCode_1rs slices_IndexFunc_int64_int64_at_impl_chainCode_1sp slices_IndexFunc_int64_int64_at_impl_chainCode_1bs (a0, ((), ())) (b0, ()) = slices_IndexFunc_int64_int64_at_impl_chainCode_1_t n (fun k v8 v0 v7 b0 => iter (interp ([impl_chainCode_1F n]) ty 19 1 n slices_IndexFunc_int64_int64_at_impl_chainCode_1kp (codeAt slices_IndexFunc_int64_int64_at_impl_chainCode_1c [1, 0, 1, 0, 0])) (canon 1 (slices_IndexFunc_int64_int64_at_impl_chainCode_1kp.loop 2)) (kAt ([impl_chainCode_1F n]) ty 19 1 n slices_IndexFunc_int64_int64_at_impl_chainCode_1kp slices_IndexFunc_int64_int64_at_impl_chainCode_1c [1, 0, 1, 0] [] (ending ty 1 Go.Proofs.Try.f172.results.toList slices_IndexFunc_int64_int64_at_impl_chainCode_1rs slices_IndexFunc_int64_int64_at_impl_chainCode_1bs)) k { env := [(8, .one (.sc (.int .i64 v8))), (0, .one (.list true (.int .i64) v0)), (1, .one (.clos 135 (0 :: []))), (7, .one (.sc (.int .i64 v7)))], bx := [(0, .var 27 [.list true (.pair .str (.pair (.int .i64) (.pair (.pair (.pair (.int .i64) (.int .i64)) (.pair (.int .i64) (.int .i64))) (.pair (.pair (.int .i64) (.int .i64)) (.pair (.int .i64) (.int .i64)))))) b0])], nx := 1 }) a0 b0 := by kernel_rfl
  rw [h]
  have e := congrArg (fun h2 => slices_IndexFunc_int64_int64_at_impl_chainCode_1_t n h2 a0 b0) (funext fun k => funext fun v8 => funext fun v0 => funext fun v7 => funext fun b0 => slices_IndexFunc_int64_int64_at_impl_chainCode_1_l2_eq n k v8 v0 v7 b0)
  exact e

theorem slices_IndexFunc_int64_int64_at_impl_chainCode_1_ok (n : Nat) : FunOk P (slices_IndexFunc_int64_int64_at_impl_chainCode_1F n) :=
  funOk_mk (C := [impl_chainCode_1F n]) (N := 19) (kp := slices_IndexFunc_int64_int64_at_impl_chainCode_1kp) (c := slices_IndexFunc_int64_int64_at_impl_chainCode_1c) (n := n) (G := fun x y => slices_IndexFunc_int64_int64_at_impl_chainCode_1 n x.1 y.1) follows (AllOk.mem (⟨impl_chainCode_1_ok n, trivial⟩ : AllOk P ([impl_chainCode_1F n]))) (by kernel_rfl : P.funcs[172]? = some Go.Proofs.Try.f172) (by kernel_rfl) (by kernel_rfl) (by kernel_rfl)
    (fun x y => slices_IndexFunc_int64_int64_at_impl_chainCode_1_eq n x.1 y.1) (fun _ _ => map_same (fun _ => rfl) _) (fun _ _ _ _ => rfl)

abbrev slices_ContainsFunc_int64_int64_at_impl_chainCode_1sp : List Sp := [.v false (.list (.int .i64)), .cl 135 [0]]
abbrev slices_ContainsFunc_int64_int64_at_impl_chainCode_1bs : List (Bs × Bool) := [(.var 27 (.list (.pair .str (.pair (.int .i64) (.pair (.pair (.pair (.int .i64) (.int .i64)) (.pair (.int .i64) (.int .i64))) (.pair (.pair (.int .i64) (.int .i64)) (.pair (.int .i64) (.int .i64))))))), true)]
abbrev slices_ContainsFunc_int64_int64_at_impl_chainCode_1rs : List (Bool × List Rp) := [(false, [.v false .bool])]
noncomputable def slices_ContainsFunc_int64_int64_at_impl_chainCode_1kp : Keep := { loop := fun id => match id with | _ => ([], []), join := fun id => match id with | _ => none }
noncomputable def slices_ContainsFunc_int64_int64_at_impl_chainCode_1c : Code := bodyOf Go.Proofs.Try.f134
noncomputable def slices_ContainsFunc_int64_int64_at_impl_chainCode_1F (n : Nat) : Fun := { id := 134, sp := slices_ContainsFunc_int64_int64_at_impl_chainCode_1sp, bs := slices_ContainsFunc_int64_int64_at_impl_chainCode_1bs, rs := slices_ContainsFunc_int64_int64_at_impl_chainCode_1rs, f := fun x y => slices_ContainsFunc_int64_int64_at_impl_chainCode_1 n x.1 y.1 }

theorem slices_ContainsFunc_int64_int64_at_impl_chainCode_1_eq (n : Nat) (a0 : List (Int)) (b0 : List ((ByteArray) × ((Int) × ((((Int) × (Int)) × ((Int) × (Int))) × (((Int) × (Int)) × ((Int) × (Int))))))) : runBody ([slices_IndexFunc_int64_int64_at_impl_chainCode_1F n]) ty 9 n slices_ContainsFunc_int64_int64_at_impl_chainCode_1kp slices_ContainsFunc_int64_int64_at_impl_chainCode_1c Go.Proofs.Try.f134.results.toList slices_ContainsFunc_int64_int64_at_impl_chainCode_1rs slices_ContainsFunc_int64_int64_at_impl_chainCode_1sp slices_ContainsFunc_int64_int64_at_impl_chainCode_1bs (a0, ((), ())) (b0, ()) = slices_ContainsFunc_int64_int64_at_impl_chainCode_1 n a0 b0 := by
  have h : runBody ([slices_IndexFunc_int64_int64_at_impl_chainCode_1F n]) ty 9 n slices_ContainsFunc_int64_int64_at_impl_chainCode_1kp slices_ContainsFunc_int64_int64_at_impl_chainCode_1c Go.Proofs.Try.f134.results.toList slices_ContainsFunc_int64_int64_at_impl_chainCode_1rs slices_ContainsFunc_int64_int64_at_impl_chainCode_1sp slices_ContainsFunc_int64_int64_at_impl_chainCode_1bs (a0, ((), ())) (b0, ()) = slices_ContainsFunc_int64_int64_at_impl_chainCode_1_t n a0 b0 := by kernel_rfl
  rw [h]
  rfl

theorem slices_ContainsFunc_int64_int64_at_impl_chainCode_1_ok (n : Nat) : FunOk P (slices_ContainsFunc_int64_int64_at_impl_chainCode_1F n) :=
  funOk_mk (C := [slices_IndexFunc_int64_int64_at_impl_chainCode_1F n]) (N := 9) (kp := slices_ContainsFunc_int64_int64_at_impl_chainCode_1kp) (c := slices_ContainsFunc_int64_int64_at_impl_chainCode_1c) (n := n) (G := fun x y => slices_ContainsFunc_int64_int64_at_impl_chainCode_1 n x.1 y.1) follows (AllOk.mem (⟨slices_IndexFunc_int64_int64_at_impl_chainCode_1_ok n, trivial⟩ : AllOk P ([slices_IndexFunc_int64_int64_at_impl_chainCode_1F n]))) (by kernel_rfl : P.funcs[134]? = some Go.Proofs.Try.f134) (by kernel_rfl) (by kernel_rfl) (by kernel_rfl)
    (fun x y => slices_ContainsFunc_int64_int64_at_impl_chainCode_1_eq n x.1 y.1) (fun _ _ => map_same (fun _ => rfl) _) (fun _ _ _ _ => rfl)

abbrev impl_chainCode_2sp : List Sp := [.v false (.int .i64)]
abbrev impl_chainCode_2bs : List (Bs × Bool) := []
abbrev impl_chainCode_2rs : List (Bool × List Rp) := [(false, [.v false .bool])]
noncomputable def impl_chainCode_2kp : Keep := { loop := fun id => match id with | _ => ([], []), join := fun id => match id with | _ => none }
noncomputable def impl_chainCode_2c : Code := bodyOf Go.Proofs.Try.f136
noncomputable def impl_chainCode_2F (n : Nat) : Fun := { id := 136, sp := impl_chainCode_2sp, bs := impl_chainCode_2bs, rs := impl_chainCode_2rs, f := fun x y => impl_chainCode_2 n x.1 }

theorem impl_chainCode_2_eq (n : Nat) (a0 : Int) : runBody ([impl_withinF n]) ty 6 n impl_chainCode_2kp impl_chainCode_2c Go.Proofs.Try.f136.results.toList impl_chainCode_2rs impl_chainCode_2sp impl_chainCode_2bs (a0, ()) () = impl_chainCode_2 n a0 := by
  have h : runBody ([impl_withinF n]) ty 6 n impl_chainCode_2kp impl_chainCode_2c Go.Proofs.Try.f136.results.toList impl_chainCode_2rs impl_chainCode_2sp impl_chainCode_2bs (a0, ()) () = impl_chainCode_2_t n a0 := by kernel_rfl
  rw [h]
  rfl

theorem impl_chainCode_2_ok (n : Nat) : FunOk P (impl_chainCode_2F n) :=
  funOk_mk (C := [impl_withinF n]) (N := 6) (kp := impl_chainCode_2kp) (c := impl_chainCode_2c) (n := n) (G := fun x y => impl_chainCode_2 n x.1) follows (AllOk.mem (⟨impl_within_ok n, trivial⟩ : AllOk P ([impl_withinF n]))) (by kernel_rfl : P.funcs[136]? = some Go.Proofs.Try.f136) (by kernel_rfl) (by kernel_rfl) (by kernel_rfl)
    (fun x y => impl_chainCode_2_eq n x.1) (fun _ _ => map_same (fun _ => rfl) _) (fun _ _ _ _ => rfl)

abbrev slices_IndexFunc_int64_int64_at_impl_chainCode_2sp : List Sp := [.v false (.list (.int .i64)), .cl 136 []]
abbrev slices_IndexFunc_int64_int64_at_impl_chainCode_2bs : List (Bs × Bool) := []
abbrev slices_IndexFunc_int64_int64_at_impl_chainCode_2rs : List (Bool × List Rp) := [(false, [.v false (.int .i64)])]
noncomputable def slices_IndexFunc_int64_int64_at_impl_chainCode_2kp : Keep := { loop := fun id => match id with | 2 => ([8, 0, 1, 7], []) | _ => ([], []), join := fun id => match id with | _ => none }
noncomputable def slices_IndexFunc_int64_int64_at_impl_chainCode_2c : Code := bodyOf Go.Proofs.Try.f172
noncomputable def slices_IndexFunc_int64_int64_at_impl_chainCode_2F (n : Nat) : Fun := { id := 172, sp := slices_IndexFunc_int64_int64_at_impl_chainCode_2sp, bs := slices_IndexFunc_int64_int64_at_impl_chainCode_2bs, rs := slices_IndexFunc_int64_int64_at_impl_chainCode_2rs, f := fun x y => slices_IndexFunc_int64_int64_at_impl_chainCode_2 n x.1 }

theorem slices_IndexFunc_int64_int64_at_impl_chainCode_2_l2_eq (n : Nat) : ∀ (k : Nat) (v8 : Int) (v0 : List (Int)) (v7 : Int), iter (interp ([impl_chainCode_2F n]) ty 19 0 n slices_IndexFunc_int64_int64_at_impl_chainCode_2kp (codeAt slices_IndexFunc_int64_int64_at_impl_chainCode_2c [1, 0, 1, 0, 0])) (canon 0 (slices_IndexFunc_int64_int64_at_impl_chainCode_2kp.loop 2)) (kAt ([impl_chainCode_2F n]) ty 19 0 n slices_IndexFunc_int64_int64_at_impl_chainCode_2kp slices_IndexFunc_int64_int64_at_impl_chainCode_2c [1, 0, 1, 0] [] (ending ty 0 Go.Proofs.Try.f172.results.toList slices_IndexFunc_int64_int64_at_impl_chainCode_2rs slices_IndexFunc_int64_int64_at_impl_chainCode_2bs)) k { env := [(8, .one (.sc (.int .i64 v8))), (0, .one (.list true (.int .i64) v0)), (1, .one (.clos 136 [])), (7, .one (.sc (.int .i64 v7)))], bx := [], nx := 0 } = slices_IndexFunc_int64_int64_at_impl_chainCode_2_l2 n k v8 v0 v7
  | 0, _, _, _ => by kernel_rfl
  | k + 1, v8, v0, v7 => by
    have h : iter (interp ([impl_chainCode_2F n]) ty 19 0 n slices_IndexFunc_int64_int64_at_impl_chainCode_2kp (codeAt slices_IndexFunc_int64_int64_at_impl_chainCode_2c [1, 0, 1, 0, 0])) (canon 0 (slices_IndexFunc_int64_int64_at_impl_chainCode_2kp.loop 2)) (kAt ([impl_chainCode_2F n]) ty 19 0 n slices_IndexFunc_int64_int64_at_impl_chainCode_2kp slices_IndexFunc_int64_int64_at_impl_chainCode_2c [1, 0, 1, 0] [] (ending ty 0 Go.Proofs.Try.f172.results.toList slices_IndexFunc_int64_int64_at_impl_chainCode_2rs slices_IndexFunc_int64_int64_at_impl_chainCode_2bs)) (k + 1) { env := [(8, .one (.sc (.int .i64 v8))), (0, .one (.list true (.int .i64) v0)), (1, .one (.clos 136 [])), (7, .one (.sc (.int .i64 v7)))], bx := [], nx := 0 } = slices_IndexFunc_int64_int64_at_impl_chainCode_2_t2 n (fun v8 v0 v7 => iter (interp ([impl_chainCode_2F n]) ty 19 0 n slices_IndexFunc_int64_int64_at_impl_chainCode_2kp (codeAt slices_IndexFunc_int64_int64_at_impl_chainCode_2c [1, 0, 1, 0, 0])) (canon 0 (slices_IndexFunc_int64_int64_at_impl_chainCode_2kp.loop 2)) (kAt ([impl_chainCode_2F n]) ty 19 0 n slices_IndexFunc_int64_int64_at_impl_chainCode_2kp slices_IndexFunc_int64_int64_at_impl_chainCode_2c [1, 0, 1, 0] [] (ending ty 0 Go.Proofs.Try.f172.results.toList slices_IndexFunc_int64_int64_at_impl_chainCode_2rs slices_IndexFunc_int64_int64_at_impl_chainCode_2bs)) k { env := [(8, .one (.sc (.int .i64 v8))), (0, .one (.list true (.int .i64) v0)), (1, .one (.clos 136 [])), (7, .one (.sc (.int .i64 v7)))], bx := [], nx := 0 }) v8 v0 v7 := by kernel_rfl
    rw [h]
    have e := congrArg (fun g => slices_IndexFunc_int64_int64_at_impl_chainCode_2_t2 n g v8 v0 v7) (funext fun v8 => funext fun v0 => funext fun v7 => slices_IndexFunc_int64_int64_at_impl_chainCode_2_l2_eq n k v8 v0 v7)
    exact e

theorem slices_IndexFunc_int64_int64_at_impl_chainCode_2_eq (n : Nat) (a0 : List (Int)) : runBody ([impl_chainCode_2F n]) ty 19 n slices_IndexFunc_int64_int64_at_impl_chainCode_2kp slices_IndexFunc_int64_int64_at_impl_chainCode_2c Go.Proofs.Try.f172.results.toList slices_IndexFunc_int64_int64_at_impl_chainCode_2rs slices_IndexFunc_int64_int64_at_impl_chainCode_2sp slices_IndexFunc_int64_int64_at_impl_chainCode_2bs (a0, ((), ())) () = slices_IndexFunc_int64_int64_at_impl_chainCode_2 n a0 := by
  have h : runBody ([impl_chainCode_2F n]) ty 19 n slices_IndexFunc_int64_int64_at_impl_chainCode_2kp slices_IndexFunc_int64_int64_at_impl_chainCode_2c Go.Proofs.Try.f172.results.toList slices_IndexFunc_int64_int64_at_impl_chainCode_2rs slices_IndexFunc_int64_int64_at_impl_chainCode_2sp slices_IndexFunc_int64_int64_at_impl_chainCode_2bs (a0, ((), ())) () = slices_IndexFunc_int64_int64_at_impl_chainCode_2_t n (fun k v8 v0 v7 => iter (interp ([impl_chainCode_2F n]) ty 19 0 n slices_IndexFunc_int64_int64_at_impl_chainCode_2kp (codeAt slices_IndexFunc_int64_int64_at_impl_chainCode_2c [1, 0, 1, 0, 0])) (canon 0 (slices_IndexFunc_int64_int64_at_impl_chainCode_2kp.loop 2)) (kAt ([impl_chainCode_2F n]) ty 19 0 n slices_IndexFunc_int64_int64_at_impl_chainCode_2kp slices_IndexFunc_int64_int64_at_impl_chainCode_2c [1, 0, 1, 0] [] (ending ty 0 Go.Proofs.Try.f172.results.toList slices_IndexFunc_int64_int64_at_impl_chainCode_2rs slices_IndexFunc_int64_int64_at_impl_chainCode_2bs)) k { env := [(8, .one (.sc (.int .i64 v8))), (0, .one (.list true (.int .i64) v0)), (1, .one (.clos 136 [])), (7, .one (.sc (.int .i64 v7)))], bx := [], nx := 0 }) a0 := by kernel_rfl
  rw [h]
  have e := congrArg (fun h2 => slices_IndexFunc_int64_int64_at_impl_chainCode_2_t n h2 a0) (funext fun k => funext fun v8 => funext fun v0 => funext fun v7 => slices_IndexFunc_int64_int64_at_impl_chainCode_2_l2_eq n k v8 v0 v7)
  exact e

theorem slices_IndexFunc_int64_int64_at_impl_chainCode_2_ok (n : Nat) : FunOk P (slices_IndexFunc_int64_int64_at_impl_chainCode_2F n) :=
  funOk_mk (C := [impl_chainCode_2F n]) (N := 19) (kp := slices_IndexFunc_int64_int64_at_impl_chainCode_2kp) (c := slices_IndexFunc_int64_int64_at_impl_chainCode_2c) (n := n) (G := fun x y => slices_IndexFunc_int64_int64_at_impl_chainCode_2 n x.1) follows (AllOk.mem (⟨impl_chainCode_2_ok n, trivial⟩ : AllOk P ([impl_chainCode_2F n]))) (by kernel_rfl : P.funcs[172]? = some Go.Proofs.Try.f172) (by kernel_rfl) (by kernel_rfl) (by kernel_rfl)
    (fun x y => slices_IndexFunc_int64_int64_at_impl_chainCode_2_eq n x.1) (fun _ _ => map_same (fun _ => rfl) _) (fun _ _ _ _ => rfl)

abbrev slices_ContainsFunc_int64_int64_at_impl_chainCode_2sp : List Sp := [.v false (.list (.int .i64)), .cl 136 []]
abbrev slices_ContainsFunc_int64_int64_at_impl_chainCode_2bs : List (Bs × Bool) := []
abbrev slices_ContainsFunc_int64_int64_at_impl_chainCode_2rs : List (Bool × List Rp) := [(false, [.v false .bool])]
noncomputable def slices_ContainsFunc_int64_int64_at_impl_chainCode_2kp : Keep := { loop := fun id => match id with | _ => ([], []), join := fun id => match id with | _ => none }
noncomputable def slices_ContainsFunc_int64_int64_at_impl_chainCode_2c : Code := bodyOf Go.Proofs.Try.f134
noncomputable def slices_ContainsFunc_int64_int64_at_impl_chainCode_2F (n : Nat) : Fun := { id := 134, sp := slices_ContainsFunc_int64_int64_at_impl_chainCode_2sp, bs := slices_ContainsFunc_int64_int64_at_impl_chainCode_2bs, rs := slices_ContainsFunc_int64_int64_at_impl_chainCode_2rs, f := fun x y => slices_ContainsFunc_int64_int64_at_impl_chainCode_2 n x.1 }

theorem slices_ContainsFunc_int64_int64_at_impl_chainCode_2_eq (n : Nat) (a0 : List (Int)) : runBody ([slices_IndexFunc_int64_int64_at_impl_chainCode_2F n]) ty 9 n slices_ContainsFunc_int64_int64_at_impl_chainCode_2kp slices_ContainsFunc_int64_int64_at_impl_chainCode_2c Go.Proofs.Try.f134.results.toList slices_ContainsFunc_int64_int64_at_impl_chainCode_2rs slices_ContainsFunc_int64_int64_at_impl_chainCode_2sp slices_ContainsFunc_int64_int64_at_impl_chainCode_2bs (a0, ((), ())) () = slices_ContainsFunc_int64_int64_at_impl_chainCode_2 n a0 := by
  have h : runBody ([slices_IndexFunc_int64_int64_at_impl_chainCode_2F n]) ty 9 n slices_ContainsFunc_int64_int64_at_impl_chainCode_2kp slices_ContainsFunc_int64_int64_at_impl_chainCode_2c Go.Proofs.Try.f134.results.toList slices_ContainsFunc_int64_int64_at_impl_chainCode_2rs slices_ContainsFunc_int64_int64_at_impl_chainCode_2sp slices_ContainsFunc_int64_int64_at_impl_chainCode_2bs (a0, ((), ())) () = slices_ContainsFunc_int64_int64_at_impl_chainCode_2_t n a0 := by kernel_rfl
  rw [h]
  rfl

theorem slices_ContainsFunc_int64_int64_at_impl_chainCode_2_ok (n : Nat) : FunOk P (slices_ContainsFunc_int64_int64_at_impl_chainCode_2F n) :=
  funOk_mk (C := [slices_IndexFunc_int64_int64_at_impl_chainCode_2F n]) (N := 9) (kp := slices_ContainsFunc_int64_int64_at_impl_chainCode_2kp) (c := slices_ContainsFunc_int64_int64_at_impl_chainCode_2c) (n := n) (G := fun x y => slices_ContainsFunc_int64_int64_at_impl_chainCode_2 n x.1) follows (AllOk.mem (⟨slices_IndexFunc_int64_int64_at_impl_chainCode_2_ok n, trivial⟩ : AllOk P ([slices_IndexFunc_int64_int64_at_impl_chainCode_2F n]))) (by kernel_rfl : P.funcs[134]? = some Go.Proofs.Try.f134) (by kernel_rfl) (by kernel_rfl) (by kernel_rfl)
    (fun x y => slices_ContainsFunc_int64_int64_at_impl_chainCode_2_eq n x.1) (fun _ _ => map_same (fun _ => rfl) _) (fun _ _ _ _ => rfl)

abbrev impl_chainCodesp : List Sp := [.v false (.list (.pair .str (.pair (.int .i64) (.pair (.pair (.pair (.int .i64) (.int .i64)) (.pair (.int .i64) (.int .i64))) (.pair (.pair (.int .i64) (.int .i64)) (.pair (.int .i64) (.int .i64))))))), .v false (.list (.int .i64)), .v false (.list (.int .i64))]
abbrev impl_chainCodebs : List (Bs × Bool) := []
abbrev impl_chainCoders : List (Bool × List Rp) := [(false, [.v false (.int .i64)])]
noncomputable def impl_chainCodekp : Keep := { loop := fun id => match id with | _ => ([], []), join := fun id => match id with | _ => none }
noncomputable def impl_chainCodec : Code := bodyOf Go.Proofs.Try.f73
noncomputable def impl_chainCodeF (n : Nat) : Fun := { id := 73, sp := impl_chainCodesp, bs := impl_chainCodebs, rs := impl_chainCoders, f := fun x y => impl_chainCode n x.1 x.2.1 x.2.2.1 }

theorem impl_chainCode_eq (n : Nat) (a0 : List ((ByteArray) × ((Int) × ((((Int) × (Int)) × ((Int) × (Int))) × (((Int) × (Int)) × ((Int) × (Int))))))) (a1 : List (Int)) (a2 : List (Int)) : runBody ([impl_ValidChainF n, slices_ContainsFunc_int64_int64_at_impl_chainCode_1F n, slices_ContainsFunc_int64_int64_at_impl_chainCode_2F n]) ty 18 n impl_chainCodekp impl_chainCodec Go.Proofs.Try.f73.results.toList impl_chainCoders impl_chainCodesp impl_chainCodebs (a0, (a1, (a2, ()))) () = impl_chainCode n a0 a1 a2 := by
  have h : runBody ([impl_ValidChainF n, slices_ContainsFunc_int64_int64_at_impl_chainCode_1F n, slices_ContainsFunc_int64_int64_at_impl_chainCode_2F n]) ty 18 n impl_chainCodekp impl_chainCodec Go.Proofs.Try.f73.results.toList impl_chainCoders impl_chainCodesp impl_chainCodebs (a0, (a1, (a2, ()))) () = impl_chainCode_t n a0 a1 a2 := by kernel_rfl
  rw [h]
  rfl

theorem impl_chainCode_ok (n : Nat) : FunOk P (impl_chainCodeF n) :=
  funOk_mk (C := [impl_ValidChainF n, slices_ContainsFunc_int64_int64_at_impl_chainCode_1F n, slices_ContainsFunc_int64_int64_at_impl_chainCode_2F n]) (N := 18) (kp := impl_chainCodekp) (c := impl_chainCodec) (n := n) (G := fun x y => impl_chainCode n x.1 x.2.1 x.2.2.1) follows (AllOk.mem (⟨impl_ValidChain_ok n, ⟨slices_ContainsFunc_int64_int64_at_impl_chainCode_1_ok n, ⟨slices_ContainsFunc_int64_int64_at_impl_chainCode_2_ok n, trivial⟩⟩⟩ : AllOk P ([impl_ValidChainF n, slices_ContainsFunc_int64_int64_at_impl_chainCode_1F n, slices_ContainsFunc_int64_int64_at_impl_chainCode_2F n]))) (by kernel_rfl : P.funcs[73]? = some Go.Proofs.Try.f73) (by kernel_rfl) (by kernel_rfl) (by kernel_rfl)
    (fun x y => impl_chainCode_eq n x.1 x.2.1 x.2.2.1) (fun _ _ => map_same (fun _ => rfl) _) (fun _ _ _ _ => rfl)

abbrev slices_Clone_impl_Standard_impl_Standardsp : List Sp := [.v false (.list (.pair .str (.pair (.int .i64) (.pair (.pair (.pair (.int .i64) (.int .i64)) (.pair (.int .i64) (.int .i64))) (.pair (.pair (.int .i64) (.int .i64)) (.pair (.int .i64) (.int .i64)))))))]
abbrev slices_Clone_impl_Standard_impl_Standardbs : List (Bs × Bool) := []
abbrev slices_Clone_impl_Standard_impl_Standardrs : List (Bool × List Rp) := [(false, [.new  (.pair .str (.pair (.int .i64) (.pair (.pair (.pair (.int .i64) (.int .i64)) (.pair (.int .i64) (.int .i64))) (.pair (.pair (.int .i64) (.int .i64)) (.pair (.int .i64) (.int .i64))))))])]
noncomputable def slices_Clone_impl_Standard_impl_Standardkp : Keep := { loop := fun id => match id with | _ => ([], []), join := fun id => match id with | _ => none }
noncomputable def slices_Clone_impl_Standard_impl_Standardc : Code := bodyOf Go.Proofs.Try.f88
noncomputable def slices_Clone_impl_Standard_impl_StandardF (n : Nat) : Fun := { id := 88, sp := slices_Clone_impl_Standard_impl_Standardsp, bs := slices_Clone_impl_Standard_impl_Standardbs, rs := slices_Clone_impl_Standard_impl_Standardrs, f := fun x y => slices_Clone_impl_Standard_impl_Standard n x.1 }

theorem slices_Clone_impl_Standard_impl_Standard_eq (n : Nat) (a0 : List ((ByteArray) × ((Int) × ((((Int) × (Int)) × ((Int) × (Int))) × (((Int) × (Int)) × ((Int) × (Int))))))) : runBody ([]) ty 8 n slices_Clone_impl_Standard_impl_Standardkp slices_Clone_impl_Standard_impl_Standardc Go.Proofs.Try.f88.results.toList slices_Clone_impl_Standard_impl_Standardrs slices_Clone_impl_Standard_impl_Standardsp slices_Clone_impl_Standard_impl_Standardbs (a0, ()) () = slices_Clone_impl_Standard_impl_Standard n a0 := by
  have h : runBody ([]) ty 8 n slices_Clone_impl_Standard_impl_Standardkp slices_Clone_impl_Standard_impl_Standardc Go.Proofs.Try.f88.results.toList slices_Clone_impl_Standard_impl_Standardrs slices_Clone_impl_Standard_impl_Standardsp slices_Clone_impl_Standard_impl_Standardbs (a0, ()) () = slices_Clone_impl_Standard_impl_Standard_t n a0 := by kernel_rfl
  rw [h]
  rfl

theorem slices_Clone_impl_Standard_impl_Standard_ok (n : Nat) : FunOk P (slices_Clone_impl_Standard_impl_StandardF n) :=
  funOk_mk (C := []) (N := 8) (kp := slices_Clone_impl_Standard_impl_Standardkp) (c := slices_Clone_impl_Standard_impl_Standardc) (n := n) (G := fun x y => slices_Clone_impl_Standard_impl_Standard n x.1) follows (AllOk.mem (trivial : AllOk P ([]))) (by kernel_rfl : P.funcs[88]? = some Go.Proofs.Try.f88) (by kernel_rfl) (by kernel_rfl) (by kernel_rfl)
    (fun x y => slices_Clone_impl_Standard_impl_Standard_eq n x.1) (fun _ _ => map_same (fun _ => rfl) _) (fun _ _ _ _ => rfl)

abbrev impl_RenewStandardsp : List Sp := [.v false (.list (.pair .str (.pair (.int .i64) (.pair (.pair (.pair (.int .i64) (.int .i64)) (.pair (.int .i64) (.int .i64))) (.pair (.pair (.int .i64) (.int .i64)) (.pair (.int .i64) (.int .i64))))))), .v false (.int .i64), .v false (.int .i64), .v true (.pair (.pair (.int .i64) (.int .i64)) (.pair (.int .i64) (.int .i64))), .v false (.int .i64)]
abbrev impl_RenewStandardbs : List (Bs × Bool) := []
abbrev impl_RenewStandardrs : List (Bool × List Rp) := [(false, [.new  (.pair .str (.pair (.int .i64) (.pair (.pair (.pair (.int .i64) (.int .i64)) (.pair (.int .i64) (.int .i64))) (.pair (.pair (.int .i64) (.int .i64)) (.pair (.int .i64) (.int .i64))))))]), (false, [.v false (.int .i64)])]
noncomputable def impl_RenewStandardkp : Keep := { loop := fun id => match id with | _ => ([], []), join := fun id => match id with | _ => none }
noncomputable def impl_RenewStandardc : Code := bodyOf Go.Proofs.Try.f37
noncomputable def impl_RenewStandardF (n : Nat) : Fun := { id := 37, sp := impl_RenewStandardsp, bs := impl_RenewStandardbs, rs := impl_RenewStandardrs, f := fun x y => impl_RenewStandard n x.1 x.2.1 x.2.2.1 x.2.2.2.1 x.2.2.2.2.1 }

theorem impl_RenewStandard_eq (n : Nat) (a0 : List ((ByteArray) × ((Int) × ((((Int) × (Int)) × ((Int) × (Int))) × (((Int) × (Int)) × ((Int) × (Int))))))) (a1 : Int) (a2 : Int) (a3 : ((Int) × (Int)) × ((Int) × (Int))) (a4 : Int) : runBody ([impl_ValidSpanF n, impl_chainCodeF n, slices_Clone_impl_Standard_impl_StandardF n, impl_ValidChainF n]) ty 47 n impl_RenewStandardkp impl_RenewStandardc Go.Proofs.Try.f37.results.toList impl_RenewStandardrs impl_RenewStandardsp impl_RenewStandardbs (a0, (a1, (a2, (a3, (a4, ()))))) () = impl_RenewStandard n a0 a1 a2 a3 a4 := by
  have h : runBody ([impl_ValidSpanF n, impl_chainCodeF n, slices_Clone_impl_Standard_impl_StandardF n, impl_ValidChainF n]) ty 47 n impl_RenewStandardkp impl_RenewStandardc Go.Proofs.Try.f37.results.toList impl_RenewStandardrs impl_RenewStandardsp impl_RenewStandardbs (a0, (a1, (a2, (a3, (a4, ()))))) () = impl_RenewStandard_t n a0 a1 a2 a3 a4 := by kernel_rfl
  rw [h]
  rfl

theorem impl_RenewStandard_ok (n : Nat) : FunOk P (impl_RenewStandardF n) :=
  funOk_mk (C := [impl_ValidSpanF n, impl_chainCodeF n, slices_Clone_impl_Standard_impl_StandardF n, impl_ValidChainF n]) (N := 47) (kp := impl_RenewStandardkp) (c := impl_RenewStandardc) (n := n) (G := fun x y => impl_RenewStandard n x.1 x.2.1 x.2.2.1 x.2.2.2.1 x.2.2.2.2.1) follows (AllOk.mem (⟨impl_ValidSpan_ok n, ⟨impl_chainCode_ok n, ⟨slices_Clone_impl_Standard_impl_Standard_ok n, ⟨impl_ValidChain_ok n, trivial⟩⟩⟩⟩ : AllOk P ([impl_ValidSpanF n, impl_chainCodeF n, slices_Clone_impl_Standard_impl_StandardF n, impl_ValidChainF n]))) (by kernel_rfl : P.funcs[37]? = some Go.Proofs.Try.f37) (by kernel_rfl) (by kernel_rfl) (by kernel_rfl)
    (fun x y => impl_RenewStandard_eq n x.1 x.2.1 x.2.2.1 x.2.2.2.1 x.2.2.2.2.1) (fun _ _ => map_same (fun _ => rfl) _) (fun _ _ _ _ => rfl)

abbrev laws_eqFracsp : List Sp := [.v true (.pair (.int .i64) (.int .i64)), .v true (.pair (.int .i64) (.int .i64))]
abbrev laws_eqFracbs : List (Bs × Bool) := []
abbrev laws_eqFracrs : List (Bool × List Rp) := [(false, [.v false .bool])]
noncomputable def laws_eqFrackp : Keep := { loop := fun id => match id with | _ => ([], []), join := fun id => match id with | _ => none }
noncomputable def laws_eqFracc : Code := bodyOf Go.Proofs.Try.f100
noncomputable def laws_eqFracF (n : Nat) : Fun := { id := 100, sp := laws_eqFracsp, bs := laws_eqFracbs, rs := laws_eqFracrs, f := fun x y => laws_eqFrac n x.1 x.2.1 }

theorem laws_eqFrac_eq (n : Nat) (a0 : (Int) × (Int)) (a1 : (Int) × (Int)) : runBody ([]) ty 15 n laws_eqFrackp laws_eqFracc Go.Proofs.Try.f100.results.toList laws_eqFracrs laws_eqFracsp laws_eqFracbs (a0, (a1, ())) () = laws_eqFrac n a0 a1 := by
  have h : runBody ([]) ty 15 n laws_eqFrackp laws_eqFracc Go.Proofs.Try.f100.results.toList laws_eqFracrs laws_eqFracsp laws_eqFracbs (a0, (a1, ())) () = laws_eqFrac_t n a0 a1 := by kernel_rfl
  rw [h]
  rfl

theorem laws_eqFrac_ok (n : Nat) : FunOk P (laws_eqFracF n) :=
  funOk_mk (C := []) (N := 15) (kp := laws_eqFrackp) (c := laws_eqFracc) (n := n) (G := fun x y => laws_eqFrac n x.1 x.2.1) follows (AllOk.mem (trivial : AllOk P ([]))) (by kernel_rfl : P.funcs[100]? = some Go.Proofs.Try.f100) (by kernel_rfl) (by kernel_rfl) (by kernel_rfl)
    (fun x y => laws_eqFrac_eq n x.1 x.2.1) (fun _ _ => map_same (fun _ => rfl) _) (fun _ _ _ _ => rfl)

abbrev laws_eqSpansp : List Sp := [.v true (.pair (.pair (.int .i64) (.int .i64)) (.pair (.int .i64) (.int .i64))), .v true (.pair (.pair (.int .i64) (.int .i64)) (.pair (.int .i64) (.int .i64)))]
abbrev laws_eqSpanbs : List (Bs × Bool) := []
abbrev laws_eqSpanrs : List (Bool × List Rp) := [(false, [.v false .bool])]
noncomputable def laws_eqSpankp : Keep := { loop := fun id => match id with | _ => ([], []), join := fun id => match id with | _ => none }
noncomputable def laws_eqSpanc : Code := bodyOf Go.Proofs.Try.f137
noncomputable def laws_eqSpanF (n : Nat) : Fun := { id := 137, sp := laws_eqSpansp, bs := laws_eqSpanbs, rs := laws_eqSpanrs, f := fun x y => laws_eqSpan n x.1 x.2.1 }

theorem laws_eqSpan_eq (n : Nat) (a0 : ((Int) × (Int)) × ((Int) × (Int))) (a1 : ((Int) × (Int)) × ((Int) × (Int))) : runBody ([laws_eqFracF n]) ty 17 n laws_eqSpankp laws_eqSpanc Go.Proofs.Try.f137.results.toList laws_eqSpanrs laws_eqSpansp laws_eqSpanbs (a0, (a1, ())) () = laws_eqSpan n a0 a1 := by
  have h : runBody ([laws_eqFracF n]) ty 17 n laws_eqSpankp laws_eqSpanc Go.Proofs.Try.f137.results.toList laws_eqSpanrs laws_eqSpansp laws_eqSpanbs (a0, (a1, ())) () = laws_eqSpan_t n a0 a1 := by kernel_rfl
  rw [h]
  rfl

theorem laws_eqSpan_ok (n : Nat) : FunOk P (laws_eqSpanF n) :=
  funOk_mk (C := [laws_eqFracF n]) (N := 17) (kp := laws_eqSpankp) (c := laws_eqSpanc) (n := n) (G := fun x y => laws_eqSpan n x.1 x.2.1) follows (AllOk.mem (⟨laws_eqFrac_ok n, trivial⟩ : AllOk P ([laws_eqFracF n]))) (by kernel_rfl : P.funcs[137]? = some Go.Proofs.Try.f137) (by kernel_rfl) (by kernel_rfl) (by kernel_rfl)
    (fun x y => laws_eqSpan_eq n x.1 x.2.1) (fun _ _ => map_same (fun _ => rfl) _) (fun _ _ _ _ => rfl)

abbrev laws_eqStandardsp : List Sp := [.v true (.pair .str (.pair (.int .i64) (.pair (.pair (.pair (.int .i64) (.int .i64)) (.pair (.int .i64) (.int .i64))) (.pair (.pair (.int .i64) (.int .i64)) (.pair (.int .i64) (.int .i64)))))), .v true (.pair .str (.pair (.int .i64) (.pair (.pair (.pair (.int .i64) (.int .i64)) (.pair (.int .i64) (.int .i64))) (.pair (.pair (.int .i64) (.int .i64)) (.pair (.int .i64) (.int .i64))))))]
abbrev laws_eqStandardbs : List (Bs × Bool) := []
abbrev laws_eqStandardrs : List (Bool × List Rp) := [(false, [.v false .bool])]
noncomputable def laws_eqStandardkp : Keep := { loop := fun id => match id with | _ => ([], []), join := fun id => match id with | _ => none }
noncomputable def laws_eqStandardc : Code := bodyOf Go.Proofs.Try.f77
noncomputable def laws_eqStandardF (n : Nat) : Fun := { id := 77, sp := laws_eqStandardsp, bs := laws_eqStandardbs, rs := laws_eqStandardrs, f := fun x y => laws_eqStandard n x.1 x.2.1 }

theorem laws_eqStandard_eq (n : Nat) (a0 : (ByteArray) × ((Int) × ((((Int) × (Int)) × ((Int) × (Int))) × (((Int) × (Int)) × ((Int) × (Int)))))) (a1 : (ByteArray) × ((Int) × ((((Int) × (Int)) × ((Int) × (Int))) × (((Int) × (Int)) × ((Int) × (Int)))))) : runBody ([laws_eqSpanF n, laws_eqFracF n]) ty 37 n laws_eqStandardkp laws_eqStandardc Go.Proofs.Try.f77.results.toList laws_eqStandardrs laws_eqStandardsp laws_eqStandardbs (a0, (a1, ())) () = laws_eqStandard n a0 a1 := by
  have h : runBody ([laws_eqSpanF n, laws_eqFracF n]) ty 37 n laws_eqStandardkp laws_eqStandardc Go.Proofs.Try.f77.results.toList laws_eqStandardrs laws_eqStandardsp laws_eqStandardbs (a0, (a1, ())) () = laws_eqStandard_t n a0 a1 := by kernel_rfl
  rw [h]
  rfl

theorem laws_eqStandard_ok (n : Nat) : FunOk P (laws_eqStandardF n) :=
  funOk_mk (C := [laws_eqSpanF n, laws_eqFracF n]) (N := 37) (kp := laws_eqStandardkp) (c := laws_eqStandardc) (n := n) (G := fun x y => laws_eqStandard n x.1 x.2.1) follows (AllOk.mem (⟨laws_eqSpan_ok n, ⟨laws_eqFrac_ok n, trivial⟩⟩ : AllOk P ([laws_eqSpanF n, laws_eqFracF n]))) (by kernel_rfl : P.funcs[77]? = some Go.Proofs.Try.f77) (by kernel_rfl) (by kernel_rfl) (by kernel_rfl)
    (fun x y => laws_eqStandard_eq n x.1 x.2.1) (fun _ _ => map_same (fun _ => rfl) _) (fun _ _ _ _ => rfl)

abbrev laws_eqStandardSsp : List Sp := [.v false (.list (.pair .str (.pair (.int .i64) (.pair (.pair (.pair (.int .i64) (.int .i64)) (.pair (.int .i64) (.int .i64))) (.pair (.pair (.int .i64) (.int .i64)) (.pair (.int .i64) (.int .i64))))))), .v false (.list (.pair .str (.pair (.int .i64) (.pair (.pair (.pair (.int .i64) (.int .i64)) (.pair (.int .i64) (.int .i64))) (.pair (.pair (.int .i64) (.int .i64)) (.pair (.int .i64) (.int .i64)))))))]
abbrev laws_eqStandardSbs : List (Bs × Bool) := []
abbrev laws_eqStandardSrs : List (Bool × List Rp) := [(false, [.v false .bool])]
noncomputable def laws_eqStandardSkp : Keep := { loop := fun id => match id with | 4 => ([5, 1, 0], []) | _ => ([], []), join := fun id => match id with | _ => none }
noncomputable def laws_eqStandardSc : Code := bodyOf Go.Proofs.Try.f20
noncomputable def laws_eqStandardSF (n : Nat) : Fun := { id := 20, sp := laws_eqStandardSsp, bs := laws_eqStandardSbs, rs := laws_eqStandardSrs, f := fun x y => laws_eqStandardS n x.1 x.2.1 }

theorem laws_eqStandardS_l4_eq (n : Nat) : ∀ (k : Nat) (v5 : Int) (v1 : List ((ByteArray) × ((Int) × ((((Int) × (Int)) × ((Int) × (Int))) × (((Int) × (Int)) × ((Int) × (Int))))))) (v0 : List ((ByteArray) × ((Int) × ((((Int) × (Int)) × ((Int) × (Int))) × (((Int) × (Int)) × ((Int) × (Int))))))), iter (interp ([laws_eqStandardF n]) ty 27 0 n laws_eqStandardSkp (codeAt laws_eqStandardSc [1, 1, 0, 1, 0, 0])) (canon 0 (laws_eqStandardSkp.loop 4)) (kAt ([laws_eqStandardF n]) ty 27 0 n laws_eqStandardSkp laws_eqStandardSc [1, 1, 0, 1, 0] [] (ending ty 0 Go.Proofs.Try.f20.results.toList laws_eqStandardSrs laws_eqStandardSbs)) k { env := [(5, .one (.sc (.int .i64 v5))), (1, .one (.list true (.pair .str (.pair (.int .i64) (.pair (.pair (.pair (.int .i64) (.int .i64)) (.pair (.int .i64) (.int .i64))) (.pair (.pair (.int .i64) (.int .i64)) (.pair (.int .i64) (.int .i64)))))) v1)), (0, .one (.list true (.pair .str (.pair (.int .i64) (.pair (.pair (.pair (.int .i64) (.int .i64)) (.pair (.int .i64) (.int .i64))) (.pair (.pair (.int .i64) (.int .i64)) (.pair (.int .i64) (.int .i64)))))) v0))], bx := [], nx := 0 } = laws_eqStandardS_l4 n k v5 v1 v0
  | 0, _, _, _ => by kernel_rfl
  | k + 1, v5, v1, v0 => by
    have h : iter (interp ([laws_eqStandardF n]) ty 27 0 n laws_eqStandardSkp (codeAt laws_eqStandardSc [1, 1, 0, 1, 0, 0])) (canon 0 (laws_eqStandardSkp.loop 4)) (kAt ([laws_eqStandardF n]) ty 27 0 n laws_eqStandardSkp laws_eqStandardSc [1, 1, 0, 1, 0] [] (ending ty 0 Go.Proofs.Try.f20.results.toList laws_eqStandardSrs laws_eqStandardSbs)) (k + 1) { env := [(5, .one (.sc (.int .i64 v5))), (1, .one (.list true (.pair .str (.pair (.int .i64) (.pair (.pair (.pair (.int .i64) (.int .i64)) (.pair (.int .i64) (.int .i64))) (.pair (.pair (.int .i64) (.int .i64)) (.pair (.int .i64) (.int .i64)))))) v1)), (0, .one (.list true (.pair .str (.pair (.int .i64) (.pair (.pair (.pair (.int .i64) (.int .i64)) (.pair (.int .i64) (.int .i64))) (.pair (.pair (.int .i64) (.int .i64)) (.pair (.int .i64) (.int .i64)))))) v0))], bx := [], nx := 0 } = laws_eqStandardS_t4 n (fun v5 v1 v0 => iter (interp ([laws_eqStandardF n]) ty 27 0 n laws_eqStandardSkp (codeAt laws_eqStandardSc [1, 1, 0, 1, 0, 0])) (canon 0 (laws_eqStandardSkp.loop 4)) (kAt ([laws_eqStandardF n]) ty 27 0 n laws_eqStandardSkp laws_eqStandardSc [1, 1, 0, 1, 0] [] (ending ty 0 Go.Proofs.Try.f20.results.toList laws_eqStandardSrs laws_eqStandardSbs)) k { env := [(5, .one (.sc (.int .i64 v5))), (1, .one (.list true (.pair .str (.pair (.int .i64) (.pair (.pair (.pair (.int .i64) (.int .i64)) (.pair (.int .i64) (.int .i64))) (.pair (.pair (.int .i64) (.int .i64)) (.pair (.int .i64) (.int .i64)))))) v1)), (0, .one (.list true (.pair .str (.pair (.int .i64) (.pair (.pair (.pair (.int .i64) (.int .i64)) (.pair (.int .i64) (.int .i64))) (.pair (.pair (.int .i64) (.int .i64)) (.pair (.int .i64) (.int .i64)))))) v0))], bx := [], nx := 0 }) v5 v1 v0 := by kernel_rfl
    rw [h]
    have e := congrArg (fun g => laws_eqStandardS_t4 n g v5 v1 v0) (funext fun v5 => funext fun v1 => funext fun v0 => laws_eqStandardS_l4_eq n k v5 v1 v0)
    exact e

theorem laws_eqStandardS_eq (n : Nat) (a0 : List ((ByteArray) × ((Int) × ((((Int) × (Int)) × ((Int) × (Int))) × (((Int) × (Int)) × ((Int) × (Int))))))) (a1 : List ((ByteArray) × ((Int) × ((((Int) × (Int)) × ((Int) × (Int))) × (((Int) × (Int)) × ((Int) × (Int))))))) : runBody ([laws_eqStandardF n]) ty 27 n laws_eqStandardSkp laws_eqStandardSc Go.Proofs.Try.f20.results.toList laws_eqStandardSrs laws_eqStandardSsp laws_eqStandardSbs (a0, (a1, ())) () = laws_eqStandardS n a0 a1 := by
  have h : runBody ([laws_eqStandardF n]) ty 27 n laws_eqStandardSkp laws_eqStandardSc Go.Proofs.Try.f20.results.toList laws_eqStandardSrs laws_eqStandardSsp laws_eqStandardSbs (a0, (a1, ())) () = laws_eqStandardS_t n (fun k v5 v1 v0 => iter (interp ([laws_eqStandardF n]) ty 27 0 n laws_eqStandardSkp (codeAt laws_eqStandardSc [1, 1, 0, 1, 0, 0])) (canon 0 (laws_eqStandardSkp.loop 4)) (kAt ([laws_eqStandardF n]) ty 27 0 n laws_eqStandardSkp laws_eqStandardSc [1, 1, 0, 1, 0] [] (ending ty 0 Go.Proofs.Try.f20.results.toList laws_eqStandardSrs laws_eqStandardSbs)) k { env := [(5, .one (.sc (.int .i64 v5))), (1, .one (.list true (.pair .str (.pair (.int .i64) (.pair (.pair (.pair (.int .i64) (.int .i64)) (.pair (.int .i64) (.int .i64))) (.pair (.pair (.int .i64) (.int .i64)) (.pair (.int .i64) (.int .i64)))))) v1)), (0, .one (.list true (.pair .str (.pair (.int .i64) (.pair (.pair (.pair (.int .i64) (.int .i64)) (.pair (.int .i64) (.int .i64))) (.pair (.pair (.int .i64) (.int .i64)) (.pair (.int .i64) (.int .i64)))))) v0))], bx := [], nx := 0 }) a0 a1 := by kernel_rfl
  rw [h]
  have e := congrArg (fun h4 => laws_eqStandardS_t n h4 a0 a1) (funext fun k => funext fun v5 => funext fun v1 => funext fun v0 => laws_eqStandardS_l4_eq n k v5 v1 v0)
  exact e

theorem laws_eqStandardS_ok (n : Nat) : FunOk P (laws_eqStandardSF n) :=
  funOk_mk (C := [laws_eqStandardF n]) (N := 27) (kp := laws_eqStandardSkp) (c := laws_eqStandardSc) (n := n) (G := fun x y => laws_eqStandardS n x.1 x.2.1) follows (AllOk.mem (⟨laws_eqStandard_ok n, trivial⟩ : AllOk P ([laws_eqStandardF n]))) (by kernel_rfl : P.funcs[20]? = some Go.Proofs.Try.f20) (by kernel_rfl) (by kernel_rfl) (by kernel_rfl)
    (fun x y => laws_eqStandardS_eq n x.1 x.2.1) (fun _ _ => map_same (fun _ => rfl) _) (fun _ _ _ _ => rfl)

abbrev laws_markTextsp : List Sp := [.v false (.int .i64)]
abbrev laws_markTextbs : List (Bs × Bool) := []
abbrev laws_markTextrs : List (Bool × List Rp) := [(false, [.v false .str])]
noncomputable def laws_markTextkp : Keep := { loop := fun id => match id with | 4 => ([0, 3], []) | _ => ([], []), join := fun id => match id with | _ => none }
noncomputable def laws_markTextc : Code := bodyOf Go.Proofs.Try.f78
noncomputable def laws_markTextF (n : Nat) : Fun := { id := 78, sp := laws_markTextsp, bs := laws_markTextbs, rs := laws_markTextrs, f := fun x y => laws_markText n x.1 }

theorem laws_markText_l4_eq (n : Nat) : ∀ (k : Nat) (v0 : Int) (v3 : ByteArray), iter (interp ([]) ty 20 0 n laws_markTextkp (codeAt laws_markTextc [1, 1, 1, 0, 0, 0])) (canon 0 (laws_markTextkp.loop 4)) (kAt ([]) ty 20 0 n laws_markTextkp laws_markTextc [1, 1, 1, 0, 0] [] (ending ty 0 Go.Proofs.Try.f78.results.toList laws_markTextrs laws_markTextbs)) k { env := [(0, .one (.sc (.int .i64 v0))), (3, .one (.sc (.string v3)))], bx := [], nx := 0 } = laws_markText_l4 n k v0 v3
  | 0, _, _ => by kernel_rfl
  | k + 1, v0, v3 => by
    have h : iter (interp ([]) ty 20 0 n laws_markTextkp (codeAt laws_markTextc [1, 1, 1, 0, 0, 0])) (canon 0 (laws_markTextkp.loop 4)) (kAt ([]) ty 20 0 n laws_markTextkp laws_markTextc [1, 1, 1, 0, 0] [] (ending ty 0 Go.Proofs.Try.f78.results.toList laws_markTextrs laws_markTextbs)) (k + 1) { env := [(0, .one (.sc (.int .i64 v0))), (3, .one (.sc (.string v3)))], bx := [], nx := 0 } = laws_markText_t4 n (fun v0 v3 => iter (interp ([]) ty 20 0 n laws_markTextkp (codeAt laws_markTextc [1, 1, 1, 0, 0, 0])) (canon 0 (laws_markTextkp.loop 4)) (kAt ([]) ty 20 0 n laws_markTextkp laws_markTextc [1, 1, 1, 0, 0] [] (ending ty 0 Go.Proofs.Try.f78.results.toList laws_markTextrs laws_markTextbs)) k { env := [(0, .one (.sc (.int .i64 v0))), (3, .one (.sc (.string v3)))], bx := [], nx := 0 }) v0 v3 := by kernel_rfl
    rw [h]
    have e := congrArg (fun g => laws_markText_t4 n g v0 v3) (funext fun v0 => funext fun v3 => laws_markText_l4_eq n k v0 v3)
    exact e

theorem laws_markText_eq (n : Nat) (a0 : Int) : runBody ([]) ty 20 n laws_markTextkp laws_markTextc Go.Proofs.Try.f78.results.toList laws_markTextrs laws_markTextsp laws_markTextbs (a0, ()) () = laws_markText n a0 := by
  have h : runBody ([]) ty 20 n laws_markTextkp laws_markTextc Go.Proofs.Try.f78.results.toList laws_markTextrs laws_markTextsp laws_markTextbs (a0, ()) () = laws_markText_t n (fun k v0 v3 => iter (interp ([]) ty 20 0 n laws_markTextkp (codeAt laws_markTextc [1, 1, 1, 0, 0, 0])) (canon 0 (laws_markTextkp.loop 4)) (kAt ([]) ty 20 0 n laws_markTextkp laws_markTextc [1, 1, 1, 0, 0] [] (ending ty 0 Go.Proofs.Try.f78.results.toList laws_markTextrs laws_markTextbs)) k { env := [(0, .one (.sc (.int .i64 v0))), (3, .one (.sc (.string v3)))], bx := [], nx := 0 }) a0 := by kernel_rfl
  rw [h]
  have e := congrArg (fun h4 => laws_markText_t n h4 a0) (funext fun k => funext fun v0 => funext fun v3 => laws_markText_l4_eq n k v0 v3)
  exact e

theorem laws_markText_ok (n : Nat) : FunOk P (laws_markTextF n) :=
  funOk_mk (C := []) (N := 20) (kp := laws_markTextkp) (c := laws_markTextc) (n := n) (G := fun x y => laws_markText n x.1) follows (AllOk.mem (trivial : AllOk P ([]))) (by kernel_rfl : P.funcs[78]? = some Go.Proofs.Try.f78) (by kernel_rfl) (by kernel_rfl) (by kernel_rfl)
    (fun x y => laws_markText_eq n x.1) (fun _ _ => map_same (fun _ => rfl) _) (fun _ _ _ _ => rfl)

abbrev laws_markStandardSsp : List Sp := [.sl 0, .v false (.int .i64)]
abbrev laws_markStandardSbs : List (Bs × Bool) := [(.row  (.pair .str (.pair (.int .i64) (.pair (.pair (.pair (.int .i64) (.int .i64)) (.pair (.int .i64) (.int .i64))) (.pair (.pair (.int .i64) (.int .i64)) (.pair (.int .i64) (.int .i64)))))), true)]
abbrev laws_markStandardSrs : List (Bool × List Rp) := [(false, [.v false (.int .i64)])]
noncomputable def laws_markStandardSkp : Keep := { loop := fun id => match id with | 2 => ([5, 0, 1], []) | _ => ([], []), join := fun id => match id with | _ => none }
noncomputable def laws_markStandardSc : Code := bodyOf Go.Proofs.Try.f21
noncomputable def laws_markStandardSF (n : Nat) : Fun := { id := 21, sp := laws_markStandardSsp, bs := laws_markStandardSbs, rs := laws_markStandardSrs, f := fun x y => laws_markStandardS n x.2.1 y.1 }

theorem laws_markStandardS_l2_eq (n : Nat) : ∀ (k : Nat) (v5 : Int) (v1 : Int) (b0 : List ((ByteArray) × ((Int) × ((((Int) × (Int)) × ((Int) × (Int))) × (((Int) × (Int)) × ((Int) × (Int))))))), iter (interp ([laws_markTextF n]) ty 94 1 n laws_markStandardSkp (codeAt laws_markStandardSc [1, 0, 1, 0, 0])) (canon 1 (laws_markStandardSkp.loop 2)) (kAt ([laws_markTextF n]) ty 94 1 n laws_markStandardSkp laws_markStandardSc [1, 0, 1, 0] [] (ending ty 1 Go.Proofs.Try.f21.results.toList laws_markStandardSrs laws_markStandardSbs)) k { env := [(5, .one (.sc (.int .i64 v5))), (0, .one (.slice 0 0 none)), (1, .one (.sc (.int .i64 v1)))], bx := [(0, .row 0 (.pair .str (.pair (.int .i64) (.pair (.pair (.pair (.int .i64) (.int .i64)) (.pair (.int .i64) (.int .i64))) (.pair (.pair (.int .i64) (.int .i64)) (.pair (.int .i64) (.int .i64)))))) b0)], nx := 1 } = laws_markStandardS_l2 n k v5 v1 b0
  | 0, _, _, _ => by kernel_rfl
  | k + 1, v5, v1, b0 => by
    have h : iter (interp ([laws_markTextF n]) ty 94 1 n laws_markStandardSkp (codeAt laws_markStandardSc [1, 0, 1, 0, 0])) (canon 1 (laws_markStandardSkp.loop 2)) (kAt ([laws_markTextF n]) ty 94 1 n laws_markStandardSkp laws_markStandardSc [1, 0, 1, 0] [] (ending ty 1 Go.Proofs.Try.f21.results.toList laws_markStandardSrs laws_markStandardSbs)) (k + 1) { env := [(5, .one (.sc (.int .i64 v5))), (0, .one (.slice 0 0 none)), (1, .one (.sc (.int .i64 v1)))], bx := [(0, .row 0 (.pair .str (.pair (.int .i64) (.pair (.pair (.pair (.int .i64) (.int .i64)) (.pair (.int .i64) (.int .i64))) (.pair (.pair (.int .i64) (.int .i64)) (.pair (.int .i64) (.int .i64)))))) b0)], nx := 1 } = laws_markStandardS_t2 n (fun v5 v1 b0 => iter (interp ([laws_markTextF n]) ty 94 1 n laws_markStandardSkp (codeAt laws_markStandardSc [1, 0, 1, 0, 0])) (canon 1 (laws_markStandardSkp.loop 2)) (kAt ([laws_markTextF n]) ty 94 1 n laws_markStandardSkp laws_markStandardSc [1, 0, 1, 0] [] (ending ty 1 Go.Proofs.Try.f21.results.toList laws_markStandardSrs laws_markStandardSbs)) k { env := [(5, .one (.sc (.int .i64 v5))), (0, .one (.slice 0 0 none)), (1, .one (.sc (.int .i64 v1)))], bx := [(0, .row 0 (.pair .str (.pair (.int .i64) (.pair (.pair (.pair (.int .i64) (.int .i64)) (.pair (.int .i64) (.int .i64))) (.pair (.pair (.int .i64) (.int .i64)) (.pair (.int .i64) (.int .i64)))))) b0)], nx := 1 }) v5 v1 b0 := by kernel_rfl
    rw [h]
    have e := congrArg (fun g => laws_markStandardS_t2 n g v5 v1 b0) (funext fun v5 => funext fun v1 => funext fun b0 => laws_markStandardS_l2_eq n k v5 v1 b0)
    exact e

theorem laws_markStandardS_eq (n : Nat) (a1 : Int) (b0 : List ((ByteArray) × ((Int) × ((((Int) × (Int)) × ((Int) × (Int))) × (((Int) × (Int)) × ((Int) × (Int))))))) : runBody ([laws_markTextF n]) ty 94 n laws_markStandardSkp laws_markStandardSc Go.Proofs.Try.f21.results.toList laws_markStandardSrs laws_markStandardSsp laws_markStandardSbs ((), (a1, ())) (b0, ()) = laws_markStandardS n a1 b0 := by
  have h : runBody ([laws_markTextF n]) ty 94 n laws_markStandardSkp laws_markStandardSc Go.Proofs.Try.f21.results.toList laws_markStandardSrs laws_markStandardSsp laws_markStandardSbs ((), (a1, ())) (b0, ()) = laws_markStandardS_t n (fun k v5 v1 b0 => iter (interp ([laws_markTextF n]) ty 94 1 n laws_markStandardSkp (codeAt laws_markStandardSc [1, 0, 1, 0, 0])) (canon 1 (laws_markStandardSkp.loop 2)) (kAt ([laws_markTextF n]) ty 94 1 n laws_markStandardSkp laws_markStandardSc [1, 0, 1, 0] [] (ending ty 1 Go.Proofs.Try.f21.results.toList laws_markStandardSrs laws_markStandardSbs)) k { env := [(5, .one (.sc (.int .i64 v5))), (0, .one (.slice 0 0 none)), (1, .one (.sc (.int .i64 v1)))], bx := [(0, .row 0 (.pair .str (.pair (.int .i64) (.pair (.pair (.pair (.int .i64) (.int .i64)) (.pair (.int .i64) (.int .i64))) (.pair (.pair (.int .i64) (.int .i64)) (.pair (.int .i64) (.int .i64)))))) b0)], nx := 1 }) a1 b0 := by kernel_rfl
  rw [h]
  have e := congrArg (fun h2 => laws_markStandardS_t n h2 a1 b0) (funext fun k => funext fun v5 => funext fun v1 => funext fun b0 => laws_markStandardS_l2_eq n k v5 v1 b0)
  exact e

theorem laws_markStandardS_ok (n : Nat) : FunOk P (laws_markStandardSF n) :=
  funOk_mk (C := [laws_markTextF n]) (N := 94) (kp := laws_markStandardSkp) (c := laws_markStandardSc) (n := n) (G := fun x y => laws_markStandardS n x.2.1 y.1) follows (AllOk.mem (⟨laws_markText_ok n, trivial⟩ : AllOk P ([laws_markTextF n]))) (by kernel_rfl : P.funcs[21]? = some Go.Proofs.Try.f21) (by kernel_rfl) (by kernel_rfl) (by kernel_rfl)
    (fun x y => laws_markStandardS_eq n x.2.1 y.1) (fun _ _ => map_same (fun _ => rfl) _) (fun _ _ _ _ => rfl)

abbrev laws_heldStandardSsp : List Sp := [.v false (.list (.pair .str (.pair (.int .i64) (.pair (.pair (.pair (.int .i64) (.int .i64)) (.pair (.int .i64) (.int .i64))) (.pair (.pair (.int .i64) (.int .i64)) (.pair (.int .i64) (.int .i64))))))), .v false (.int .i64)]
abbrev laws_heldStandardSbs : List (Bs × Bool) := []
abbrev laws_heldStandardSrs : List (Bool × List Rp) := [(false, [.v false (.int .i64)])]
noncomputable def laws_heldStandardSkp : Keep := { loop := fun id => match id with | 2 => ([5, 0, 1], []) | _ => ([], []), join := fun id => match id with | _ => none }
noncomputable def laws_heldStandardSc : Code := bodyOf Go.Proofs.Try.f34
noncomputable def laws_heldStandardSF (n : Nat) : Fun := { id := 34, sp := laws_heldStandardSsp, bs := laws_heldStandardSbs, rs := laws_heldStandardSrs, f := fun x y => laws_heldStandardS n x.1 x.2.1 }

theorem laws_heldStandardS_l2_eq (n : Nat) : ∀ (k : Nat) (v5 : Int) (v0 : List ((ByteArray) × ((Int) × ((((Int) × (Int)) × ((Int) × (Int))) × (((Int) × (Int)) × ((Int) × (Int))))))) (v1 : Int), iter (interp ([laws_markTextF n]) ty 114 0 n laws_heldStandardSkp (codeAt laws_heldStandardSc [1, 0, 1, 0, 0])) (canon 0 (laws_heldStandardSkp.loop 2)) (kAt ([laws_markTextF n]) ty 114 0 n laws_heldStandardSkp laws_heldStandardSc [1, 0, 1, 0] [] (ending ty 0 Go.Proofs.Try.f34.results.toList laws_heldStandardSrs laws_heldStandardSbs)) k { env := [(5, .one (.sc (.int .i64 v5))), (0, .one (.list true (.pair .str (.pair (.int .i64) (.pair (.pair (.pair (.int .i64) (.int .i64)) (.pair (.int .i64) (.int .i64))) (.pair (.pair (.int .i64) (.int .i64)) (.pair (.int .i64) (.int .i64)))))) v0)), (1, .one (.sc (.int .i64 v1)))], bx := [], nx := 0 } = laws_heldStandardS_l2 n k v5 v0 v1
  | 0, _, _, _ => by kernel_rfl
  | k + 1, v5, v0, v1 => by
    have h : iter (interp ([laws_markTextF n]) ty 114 0 n laws_heldStandardSkp (codeAt laws_heldStandardSc [1, 0, 1, 0, 0])) (canon 0 (laws_heldStandardSkp.loop 2)) (kAt ([laws_markTextF n]) ty 114 0 n laws_heldStandardSkp laws_heldStandardSc [1, 0, 1, 0] [] (ending ty 0 Go.Proofs.Try.f34.results.toList laws_heldStandardSrs laws_heldStandardSbs)) (k + 1) { env := [(5, .one (.sc (.int .i64 v5))), (0, .one (.list true (.pair .str (.pair (.int .i64) (.pair (.pair (.pair (.int .i64) (.int .i64)) (.pair (.int .i64) (.int .i64))) (.pair (.pair (.int .i64) (.int .i64)) (.pair (.int .i64) (.int .i64)))))) v0)), (1, .one (.sc (.int .i64 v1)))], bx := [], nx := 0 } = laws_heldStandardS_t2 n (fun v5 v0 v1 => iter (interp ([laws_markTextF n]) ty 114 0 n laws_heldStandardSkp (codeAt laws_heldStandardSc [1, 0, 1, 0, 0])) (canon 0 (laws_heldStandardSkp.loop 2)) (kAt ([laws_markTextF n]) ty 114 0 n laws_heldStandardSkp laws_heldStandardSc [1, 0, 1, 0] [] (ending ty 0 Go.Proofs.Try.f34.results.toList laws_heldStandardSrs laws_heldStandardSbs)) k { env := [(5, .one (.sc (.int .i64 v5))), (0, .one (.list true (.pair .str (.pair (.int .i64) (.pair (.pair (.pair (.int .i64) (.int .i64)) (.pair (.int .i64) (.int .i64))) (.pair (.pair (.int .i64) (.int .i64)) (.pair (.int .i64) (.int .i64)))))) v0)), (1, .one (.sc (.int .i64 v1)))], bx := [], nx := 0 }) v5 v0 v1 := by kernel_rfl
    rw [h]
    have e := congrArg (fun g => laws_heldStandardS_t2 n g v5 v0 v1) (funext fun v5 => funext fun v0 => funext fun v1 => laws_heldStandardS_l2_eq n k v5 v0 v1)
    exact e

theorem laws_heldStandardS_eq (n : Nat) (a0 : List ((ByteArray) × ((Int) × ((((Int) × (Int)) × ((Int) × (Int))) × (((Int) × (Int)) × ((Int) × (Int))))))) (a1 : Int) : runBody ([laws_markTextF n]) ty 114 n laws_heldStandardSkp laws_heldStandardSc Go.Proofs.Try.f34.results.toList laws_heldStandardSrs laws_heldStandardSsp laws_heldStandardSbs (a0, (a1, ())) () = laws_heldStandardS n a0 a1 := by
  have h : runBody ([laws_markTextF n]) ty 114 n laws_heldStandardSkp laws_heldStandardSc Go.Proofs.Try.f34.results.toList laws_heldStandardSrs laws_heldStandardSsp laws_heldStandardSbs (a0, (a1, ())) () = laws_heldStandardS_t n (fun k v5 v0 v1 => iter (interp ([laws_markTextF n]) ty 114 0 n laws_heldStandardSkp (codeAt laws_heldStandardSc [1, 0, 1, 0, 0])) (canon 0 (laws_heldStandardSkp.loop 2)) (kAt ([laws_markTextF n]) ty 114 0 n laws_heldStandardSkp laws_heldStandardSc [1, 0, 1, 0] [] (ending ty 0 Go.Proofs.Try.f34.results.toList laws_heldStandardSrs laws_heldStandardSbs)) k { env := [(5, .one (.sc (.int .i64 v5))), (0, .one (.list true (.pair .str (.pair (.int .i64) (.pair (.pair (.pair (.int .i64) (.int .i64)) (.pair (.int .i64) (.int .i64))) (.pair (.pair (.int .i64) (.int .i64)) (.pair (.int .i64) (.int .i64)))))) v0)), (1, .one (.sc (.int .i64 v1)))], bx := [], nx := 0 }) a0 a1 := by kernel_rfl
  rw [h]
  have e := congrArg (fun h2 => laws_heldStandardS_t n h2 a0 a1) (funext fun k => funext fun v5 => funext fun v0 => funext fun v1 => laws_heldStandardS_l2_eq n k v5 v0 v1)
  exact e

theorem laws_heldStandardS_ok (n : Nat) : FunOk P (laws_heldStandardSF n) :=
  funOk_mk (C := [laws_markTextF n]) (N := 114) (kp := laws_heldStandardSkp) (c := laws_heldStandardSc) (n := n) (G := fun x y => laws_heldStandardS n x.1 x.2.1) follows (AllOk.mem (⟨laws_markText_ok n, trivial⟩ : AllOk P ([laws_markTextF n]))) (by kernel_rfl : P.funcs[34]? = some Go.Proofs.Try.f34) (by kernel_rfl) (by kernel_rfl) (by kernel_rfl)
    (fun x y => laws_heldStandardS_eq n x.1 x.2.1) (fun _ _ => map_same (fun _ => rfl) _) (fun _ _ _ _ => rfl)

abbrev laws_FnExactRenewStandardsp : List Sp := [.v false (.list (.pair .str (.pair (.int .i64) (.pair (.pair (.pair (.int .i64) (.int .i64)) (.pair (.int .i64) (.int .i64))) (.pair (.pair (.int .i64) (.int .i64)) (.pair (.int .i64) (.int .i64))))))), .v false (.int .i64), .v false (.int .i64), .v true (.pair (.pair (.int .i64) (.int .i64)) (.pair (.int .i64) (.int .i64))), .v false (.int .i64)]
abbrev laws_FnExactRenewStandardbs : List (Bs × Bool) := []
abbrev laws_FnExactRenewStandardrs : List (Bool × List Rp) := [(false, [.v false .bool])]
noncomputable def laws_FnExactRenewStandardkp : Keep := { loop := fun id => match id with | _ => ([], []), join := fun id => match id with | _ => none }
noncomputable def laws_FnExactRenewStandardc : Code := bodyOf Go.Proofs.Try.f8
noncomputable def laws_FnExactRenewStandardF (n : Nat) : Fun := { id := 8, sp := laws_FnExactRenewStandardsp, bs := laws_FnExactRenewStandardbs, rs := laws_FnExactRenewStandardrs, f := fun x y => laws_FnExactRenewStandard n x.1 x.2.1 x.2.2.1 x.2.2.2.1 x.2.2.2.2.1 }

theorem laws_FnExactRenewStandard_eq (n : Nat) (a0 : List ((ByteArray) × ((Int) × ((((Int) × (Int)) × ((Int) × (Int))) × (((Int) × (Int)) × ((Int) × (Int))))))) (a1 : Int) (a2 : Int) (a3 : ((Int) × (Int)) × ((Int) × (Int))) (a4 : Int) : runBody ([laws_szStandardSF n, laws_toStandardSF n, laws_toSpanF n, spec_RenewStandardF n, impl_RenewStandardF n, laws_eqStandardSF n, laws_markStandardSF n, laws_heldStandardSF n]) ty 119 n laws_FnExactRenewStandardkp laws_FnExactRenewStandardc Go.Proofs.Try.f8.results.toList laws_FnExactRenewStandardrs laws_FnExactRenewStandardsp laws_FnExactRenewStandardbs (a0, (a1, (a2, (a3, (a4, ()))))) () = laws_FnExactRenewStandard n a0 a1 a2 a3 a4 := by
  have h : runBody ([laws_szStandardSF n, laws_toStandardSF n, laws_toSpanF n, spec_RenewStandardF n, impl_RenewStandardF n, laws_eqStandardSF n, laws_markStandardSF n, laws_heldStandardSF n]) ty 119 n laws_FnExactRenewStandardkp laws_FnExactRenewStandardc Go.Proofs.Try.f8.results.toList laws_FnExactRenewStandardrs laws_FnExactRenewStandardsp laws_FnExactRenewStandardbs (a0, (a1, (a2, (a3, (a4, ()))))) () = laws_FnExactRenewStandard_t n a0 a1 a2 a3 a4 := by kernel_rfl
  rw [h]
  rfl

theorem laws_FnExactRenewStandard_ok (n : Nat) : FunOk P (laws_FnExactRenewStandardF n) :=
  funOk_mk (C := [laws_szStandardSF n, laws_toStandardSF n, laws_toSpanF n, spec_RenewStandardF n, impl_RenewStandardF n, laws_eqStandardSF n, laws_markStandardSF n, laws_heldStandardSF n]) (N := 119) (kp := laws_FnExactRenewStandardkp) (c := laws_FnExactRenewStandardc) (n := n) (G := fun x y => laws_FnExactRenewStandard n x.1 x.2.1 x.2.2.1 x.2.2.2.1 x.2.2.2.2.1) follows (AllOk.mem (⟨laws_szStandardS_ok n, ⟨laws_toStandardS_ok n, ⟨laws_toSpan_ok n, ⟨spec_RenewStandard_ok n, ⟨impl_RenewStandard_ok n, ⟨laws_eqStandardS_ok n, ⟨laws_markStandardS_ok n, ⟨laws_heldStandardS_ok n, trivial⟩⟩⟩⟩⟩⟩⟩⟩ : AllOk P ([laws_szStandardSF n, laws_toStandardSF n, laws_toSpanF n, spec_RenewStandardF n, impl_RenewStandardF n, laws_eqStandardSF n, laws_markStandardSF n, laws_heldStandardSF n]))) (by kernel_rfl : P.funcs[8]? = some Go.Proofs.Try.f8) (by kernel_rfl) (by kernel_rfl) (by kernel_rfl)
    (fun x y => laws_FnExactRenewStandard_eq n x.1 x.2.1 x.2.2.1 x.2.2.2.1 x.2.2.2.2.1) (fun _ _ => map_same (fun _ => rfl) _) (fun _ _ _ _ => rfl)

end Go.Abs
