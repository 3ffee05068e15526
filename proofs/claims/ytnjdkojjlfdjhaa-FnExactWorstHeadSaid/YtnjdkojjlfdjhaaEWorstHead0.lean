import Derived.Test.YtnjdkojjlfdjhaaDWorstHead0
import Derived.Test.YtnjdkojjlfdjhaaProg
import Derived.Test.YtnjdkojjlfdjhaaRow
import Derived.KernelRfl
namespace Go.Abs
open Go.Proofs
set_option maxRecDepth 100000
set_option linter.unusedVariables false

noncomputable abbrev P : Program := Try.prog
noncomputable abbrev ty : Nat → Option TyI := tyOf P
def bodyOf (f : Func) : Code := match f.body with | some c => c | none => .skip
theorem follows : P.follows .mixedOrders = true := by kernel_rfl

abbrev laws_szInt16Ssp : List Sp := [.v false (.list (.int .i16)), .v false (.int .i64)]
abbrev laws_szInt16Sbs : List (Bs × Bool) := []
abbrev laws_szInt16Srs : List (Bool × List Rp) := [(false, [.v false (.int .i64)])]
noncomputable def laws_szInt16Skp : Keep := { loop := fun id => match id with | _ => [], join := fun id => match id with | _ => none }
noncomputable def laws_szInt16Sc : Code := bodyOf Go.Proofs.Try.f103
noncomputable def laws_szInt16SF (n : Nat) : Fun := { id := 103, sp := laws_szInt16Ssp, bs := laws_szInt16Sbs, rs := laws_szInt16Srs, f := fun x y => laws_szInt16S n x.1 x.2.1 }

theorem laws_szInt16S_eq (n : Nat) (a0 : List (Int)) (a1 : Int) : runBody ([]) ty 12 n laws_szInt16Skp laws_szInt16Sc Go.Proofs.Try.f103.results.toList laws_szInt16Srs laws_szInt16Ssp laws_szInt16Sbs (a0, (a1, ())) () = laws_szInt16S n a0 a1 := by
  have h : runBody ([]) ty 12 n laws_szInt16Skp laws_szInt16Sc Go.Proofs.Try.f103.results.toList laws_szInt16Srs laws_szInt16Ssp laws_szInt16Sbs (a0, (a1, ())) () = laws_szInt16S_t n a0 a1 := by kernel_rfl
  rw [h]
  rfl

theorem laws_szInt16S_ok (n : Nat) : FunOk P (laws_szInt16SF n) :=
  funOk_mk (C := []) (N := 12) (kp := laws_szInt16Skp) (c := laws_szInt16Sc) (n := n) (G := fun x y => laws_szInt16S n x.1 x.2.1) follows (AllOk.mem (trivial : AllOk P ([]))) (by kernel_rfl : P.funcs[103]? = some Go.Proofs.Try.f103) (by kernel_rfl) (by kernel_rfl) (by kernel_rfl)
    (fun x y => laws_szInt16S_eq n x.1 x.2.1) (fun _ _ => map_same (fun _ => rfl) _) (fun _ _ _ _ => rfl)

abbrev laws_szDisksp : List Sp := [.v true (.pair (.list (.int .i16)) (.pair (.int .i64) (.int .i64))), .v false (.int .i64)]
abbrev laws_szDiskbs : List (Bs × Bool) := []
abbrev laws_szDiskrs : List (Bool × List Rp) := [(false, [.v false (.int .i64)])]
noncomputable def laws_szDiskkp : Keep := { loop := fun id => match id with | _ => [], join := fun id => match id with | _ => none }
noncomputable def laws_szDiskc : Code := bodyOf Go.Proofs.Try.f42
noncomputable def laws_szDiskF (n : Nat) : Fun := { id := 42, sp := laws_szDisksp, bs := laws_szDiskbs, rs := laws_szDiskrs, f := fun x y => laws_szDisk n x.1 x.2.1 }

theorem laws_szDisk_eq (n : Nat) (a0 : (List (Int)) × ((Int) × (Int))) (a1 : Int) : runBody ([laws_szInt16SF n]) ty 12 n laws_szDiskkp laws_szDiskc Go.Proofs.Try.f42.results.toList laws_szDiskrs laws_szDisksp laws_szDiskbs (a0, (a1, ())) () = laws_szDisk n a0 a1 := by
  have h : runBody ([laws_szInt16SF n]) ty 12 n laws_szDiskkp laws_szDiskc Go.Proofs.Try.f42.results.toList laws_szDiskrs laws_szDisksp laws_szDiskbs (a0, (a1, ())) () = laws_szDisk_t n a0 a1 := by kernel_rfl
  rw [h]
  rfl

theorem laws_szDisk_ok (n : Nat) : FunOk P (laws_szDiskF n) :=
  funOk_mk (C := [laws_szInt16SF n]) (N := 12) (kp := laws_szDiskkp) (c := laws_szDiskc) (n := n) (G := fun x y => laws_szDisk n x.1 x.2.1) follows (AllOk.mem (⟨laws_szInt16S_ok n, trivial⟩ : AllOk P ([laws_szInt16SF n]))) (by kernel_rfl : P.funcs[42]? = some Go.Proofs.Try.f42) (by kernel_rfl) (by kernel_rfl) (by kernel_rfl)
    (fun x y => laws_szDisk_eq n x.1 x.2.1) (fun _ _ => map_same (fun _ => rfl) _) (fun _ _ _ _ => rfl)

abbrev laws_toInt16Ssp : List Sp := [.v false (.list (.int .i16))]
abbrev laws_toInt16Sbs : List (Bs × Bool) := []
abbrev laws_toInt16Srs : List (Bool × List Rp) := [(false, [.new  (.int .i16)])]
noncomputable def laws_toInt16Skp : Keep := { loop := fun id => match id with | 3 => [4, 0, 3] | _ => [], join := fun id => match id with | _ => none }
noncomputable def laws_toInt16Sc : Code := bodyOf Go.Proofs.Try.f109
noncomputable def laws_toInt16SF (n : Nat) : Fun := { id := 109, sp := laws_toInt16Ssp, bs := laws_toInt16Sbs, rs := laws_toInt16Srs, f := fun x y => laws_toInt16S n x.1 }

theorem laws_toInt16S_l3_eq (n : Nat) : ∀ (k : Nat) (v4 : Int) (v0 : List (Int)) (b0 : List (Int)), iter (interp ([]) ty 22 0 n laws_toInt16Skp (codeAt laws_toInt16Sc [1, 1, 0, 1, 0, 0])) (canon 0 (laws_toInt16Skp.loop 3)) (kAt ([]) ty 22 0 n laws_toInt16Skp laws_toInt16Sc [1, 1, 0, 1, 0] [] (ending ty 0 Go.Proofs.Try.f109.results.toList laws_toInt16Srs laws_toInt16Sbs)) k { env := [(4, .one (.sc (.int .i64 v4))), (0, .one (.list true (.int .i16) v0)), (3, .one (.slice 0 0 none))], bx := [(0, .row 0 (.int .i16) b0)], nx := 1 } = laws_toInt16S_l3 n k v4 v0 b0
  | 0, _, _, _ => by kernel_rfl
  | k + 1, v4, v0, b0 => by
    have h : iter (interp ([]) ty 22 0 n laws_toInt16Skp (codeAt laws_toInt16Sc [1, 1, 0, 1, 0, 0])) (canon 0 (laws_toInt16Skp.loop 3)) (kAt ([]) ty 22 0 n laws_toInt16Skp laws_toInt16Sc [1, 1, 0, 1, 0] [] (ending ty 0 Go.Proofs.Try.f109.results.toList laws_toInt16Srs laws_toInt16Sbs)) (k + 1) { env := [(4, .one (.sc (.int .i64 v4))), (0, .one (.list true (.int .i16) v0)), (3, .one (.slice 0 0 none))], bx := [(0, .row 0 (.int .i16) b0)], nx := 1 } = laws_toInt16S_t3 n (fun v4 v0 b0 => iter (interp ([]) ty 22 0 n laws_toInt16Skp (codeAt laws_toInt16Sc [1, 1, 0, 1, 0, 0])) (canon 0 (laws_toInt16Skp.loop 3)) (kAt ([]) ty 22 0 n laws_toInt16Skp laws_toInt16Sc [1, 1, 0, 1, 0] [] (ending ty 0 Go.Proofs.Try.f109.results.toList laws_toInt16Srs laws_toInt16Sbs)) k { env := [(4, .one (.sc (.int .i64 v4))), (0, .one (.list true (.int .i16) v0)), (3, .one (.slice 0 0 none))], bx := [(0, .row 0 (.int .i16) b0)], nx := 1 }) v4 v0 b0 := by kernel_rfl
    rw [h]
    have e := congrArg (fun g => laws_toInt16S_t3 n g v4 v0 b0) (funext fun v4 => funext fun v0 => funext fun b0 => laws_toInt16S_l3_eq n k v4 v0 b0)
    exact e

theorem laws_toInt16S_eq (n : Nat) (a0 : List (Int)) : runBody ([]) ty 22 n laws_toInt16Skp laws_toInt16Sc Go.Proofs.Try.f109.results.toList laws_toInt16Srs laws_toInt16Ssp laws_toInt16Sbs (a0, ()) () = laws_toInt16S n a0 := by
  have h : runBody ([]) ty 22 n laws_toInt16Skp laws_toInt16Sc Go.Proofs.Try.f109.results.toList laws_toInt16Srs laws_toInt16Ssp laws_toInt16Sbs (a0, ()) () = laws_toInt16S_t n (fun k v4 v0 b0 => iter (interp ([]) ty 22 0 n laws_toInt16Skp (codeAt laws_toInt16Sc [1, 1, 0, 1, 0, 0])) (canon 0 (laws_toInt16Skp.loop 3)) (kAt ([]) ty 22 0 n laws_toInt16Skp laws_toInt16Sc [1, 1, 0, 1, 0] [] (ending ty 0 Go.Proofs.Try.f109.results.toList laws_toInt16Srs laws_toInt16Sbs)) k { env := [(4, .one (.sc (.int .i64 v4))), (0, .one (.list true (.int .i16) v0)), (3, .one (.slice 0 0 none))], bx := [(0, .row 0 (.int .i16) b0)], nx := 1 }) a0 := by kernel_rfl
  rw [h]
  have e := congrArg (fun h3 => laws_toInt16S_t n h3 a0) (funext fun k => funext fun v4 => funext fun v0 => funext fun b0 => laws_toInt16S_l3_eq n k v4 v0 b0)
  exact e

theorem laws_toInt16S_ok (n : Nat) : FunOk P (laws_toInt16SF n) :=
  funOk_mk (C := []) (N := 22) (kp := laws_toInt16Skp) (c := laws_toInt16Sc) (n := n) (G := fun x y => laws_toInt16S n x.1) follows (AllOk.mem (trivial : AllOk P ([]))) (by kernel_rfl : P.funcs[109]? = some Go.Proofs.Try.f109) (by kernel_rfl) (by kernel_rfl) (by kernel_rfl)
    (fun x y => laws_toInt16S_eq n x.1) (fun _ _ => map_same (fun _ => rfl) _) (fun _ _ _ _ => rfl)

abbrev laws_toDisksp : List Sp := [.v true (.pair (.list (.int .i16)) (.pair (.int .i64) (.int .i64)))]
abbrev laws_toDiskbs : List (Bs × Bool) := []
abbrev laws_toDiskrs : List (Bool × List Rp) := [(true, [.v false (.pair (.list (.int .i16)) (.pair (.int .i64) (.int .i64)))])]
noncomputable def laws_toDiskkp : Keep := { loop := fun id => match id with | _ => [], join := fun id => match id with | _ => none }
noncomputable def laws_toDiskc : Code := bodyOf Go.Proofs.Try.f44
noncomputable def laws_toDiskF (n : Nat) : Fun := { id := 44, sp := laws_toDisksp, bs := laws_toDiskbs, rs := laws_toDiskrs, f := fun x y => laws_toDisk n x.1 }

theorem laws_toDisk_eq (n : Nat) (a0 : (List (Int)) × ((Int) × (Int))) : runBody ([laws_toInt16SF n]) ty 15 n laws_toDiskkp laws_toDiskc Go.Proofs.Try.f44.results.toList laws_toDiskrs laws_toDisksp laws_toDiskbs (a0, ()) () = laws_toDisk n a0 := by
  have h : runBody ([laws_toInt16SF n]) ty 15 n laws_toDiskkp laws_toDiskc Go.Proofs.Try.f44.results.toList laws_toDiskrs laws_toDisksp laws_toDiskbs (a0, ()) () = laws_toDisk_t n a0 := by kernel_rfl
  rw [h]
  rfl

theorem laws_toDisk_ok (n : Nat) : FunOk P (laws_toDiskF n) :=
  funOk_mk (C := [laws_toInt16SF n]) (N := 15) (kp := laws_toDiskkp) (c := laws_toDiskc) (n := n) (G := fun x y => laws_toDisk n x.1) follows (AllOk.mem (⟨laws_toInt16S_ok n, trivial⟩ : AllOk P ([laws_toInt16SF n]))) (by kernel_rfl : P.funcs[44]? = some Go.Proofs.Try.f44) (by kernel_rfl) (by kernel_rfl) (by kernel_rfl)
    (fun x y => laws_toDisk_eq n x.1) (fun _ _ => map_same (fun _ => rfl) _) (fun _ _ _ _ => rfl)

abbrev laws_toInt64Ssp : List Sp := [.v false (.list (.int .i64))]
abbrev laws_toInt64Sbs : List (Bs × Bool) := []
abbrev laws_toInt64Srs : List (Bool × List Rp) := [(false, [.new  (.int .i64)])]
noncomputable def laws_toInt64Skp : Keep := { loop := fun id => match id with | 3 => [4, 0, 3] | _ => [], join := fun id => match id with | _ => none }
noncomputable def laws_toInt64Sc : Code := bodyOf Go.Proofs.Try.f45
noncomputable def laws_toInt64SF (n : Nat) : Fun := { id := 45, sp := laws_toInt64Ssp, bs := laws_toInt64Sbs, rs := laws_toInt64Srs, f := fun x y => laws_toInt64S n x.1 }

theorem laws_toInt64S_l3_eq (n : Nat) : ∀ (k : Nat) (v4 : Int) (v0 : List (Int)) (b0 : List (Int)), iter (interp ([]) ty 22 0 n laws_toInt64Skp (codeAt laws_toInt64Sc [1, 1, 0, 1, 0, 0])) (canon 0 (laws_toInt64Skp.loop 3)) (kAt ([]) ty 22 0 n laws_toInt64Skp laws_toInt64Sc [1, 1, 0, 1, 0] [] (ending ty 0 Go.Proofs.Try.f45.results.toList laws_toInt64Srs laws_toInt64Sbs)) k { env := [(4, .one (.sc (.int .i64 v4))), (0, .one (.list true (.int .i64) v0)), (3, .one (.slice 0 0 none))], bx := [(0, .row 0 (.int .i64) b0)], nx := 1 } = laws_toInt64S_l3 n k v4 v0 b0
  | 0, _, _, _ => by kernel_rfl
  | k + 1, v4, v0, b0 => by
    have h : iter (interp ([]) ty 22 0 n laws_toInt64Skp (codeAt laws_toInt64Sc [1, 1, 0, 1, 0, 0])) (canon 0 (laws_toInt64Skp.loop 3)) (kAt ([]) ty 22 0 n laws_toInt64Skp laws_toInt64Sc [1, 1, 0, 1, 0] [] (ending ty 0 Go.Proofs.Try.f45.results.toList laws_toInt64Srs laws_toInt64Sbs)) (k + 1) { env := [(4, .one (.sc (.int .i64 v4))), (0, .one (.list true (.int .i64) v0)), (3, .one (.slice 0 0 none))], bx := [(0, .row 0 (.int .i64) b0)], nx := 1 } = laws_toInt64S_t3 n (fun v4 v0 b0 => iter (interp ([]) ty 22 0 n laws_toInt64Skp (codeAt laws_toInt64Sc [1, 1, 0, 1, 0, 0])) (canon 0 (laws_toInt64Skp.loop 3)) (kAt ([]) ty 22 0 n laws_toInt64Skp laws_toInt64Sc [1, 1, 0, 1, 0] [] (ending ty 0 Go.Proofs.Try.f45.results.toList laws_toInt64Srs laws_toInt64Sbs)) k { env := [(4, .one (.sc (.int .i64 v4))), (0, .one (.list true (.int .i64) v0)), (3, .one (.slice 0 0 none))], bx := [(0, .row 0 (.int .i64) b0)], nx := 1 }) v4 v0 b0 := by kernel_rfl
    rw [h]
    have e := congrArg (fun g => laws_toInt64S_t3 n g v4 v0 b0) (funext fun v4 => funext fun v0 => funext fun b0 => laws_toInt64S_l3_eq n k v4 v0 b0)
    exact e

theorem laws_toInt64S_eq (n : Nat) (a0 : List (Int)) : runBody ([]) ty 22 n laws_toInt64Skp laws_toInt64Sc Go.Proofs.Try.f45.results.toList laws_toInt64Srs laws_toInt64Ssp laws_toInt64Sbs (a0, ()) () = laws_toInt64S n a0 := by
  have h : runBody ([]) ty 22 n laws_toInt64Skp laws_toInt64Sc Go.Proofs.Try.f45.results.toList laws_toInt64Srs laws_toInt64Ssp laws_toInt64Sbs (a0, ()) () = laws_toInt64S_t n (fun k v4 v0 b0 => iter (interp ([]) ty 22 0 n laws_toInt64Skp (codeAt laws_toInt64Sc [1, 1, 0, 1, 0, 0])) (canon 0 (laws_toInt64Skp.loop 3)) (kAt ([]) ty 22 0 n laws_toInt64Skp laws_toInt64Sc [1, 1, 0, 1, 0] [] (ending ty 0 Go.Proofs.Try.f45.results.toList laws_toInt64Srs laws_toInt64Sbs)) k { env := [(4, .one (.sc (.int .i64 v4))), (0, .one (.list true (.int .i64) v0)), (3, .one (.slice 0 0 none))], bx := [(0, .row 0 (.int .i64) b0)], nx := 1 }) a0 := by kernel_rfl
  rw [h]
  have e := congrArg (fun h3 => laws_toInt64S_t n h3 a0) (funext fun k => funext fun v4 => funext fun v0 => funext fun b0 => laws_toInt64S_l3_eq n k v4 v0 b0)
  exact e

theorem laws_toInt64S_ok (n : Nat) : FunOk P (laws_toInt64SF n) :=
  funOk_mk (C := []) (N := 22) (kp := laws_toInt64Skp) (c := laws_toInt64Sc) (n := n) (G := fun x y => laws_toInt64S n x.1) follows (AllOk.mem (trivial : AllOk P ([]))) (by kernel_rfl : P.funcs[45]? = some Go.Proofs.Try.f45) (by kernel_rfl) (by kernel_rfl) (by kernel_rfl)
    (fun x y => laws_toInt64S_eq n x.1) (fun _ _ => map_same (fun _ => rfl) _) (fun _ _ _ _ => rfl)

abbrev spec_l00Insp : List Sp := [.v false (.int .i64), .v false (.int .i64), .v false (.int .i64)]
abbrev spec_l00Inbs : List (Bs × Bool) := []
abbrev spec_l00Inrs : List (Bool × List Rp) := [(false, [.v false .bool])]
noncomputable def spec_l00Inkp : Keep := { loop := fun id => match id with | _ => [], join := fun id => match id with | _ => none }
noncomputable def spec_l00Inc : Code := bodyOf Go.Proofs.Try.f70
noncomputable def spec_l00InF (n : Nat) : Fun := { id := 70, sp := spec_l00Insp, bs := spec_l00Inbs, rs := spec_l00Inrs, f := fun x y => spec_l00In n x.1 x.2.1 x.2.2.1 }

theorem spec_l00In_eq (n : Nat) (a0 : Int) (a1 : Int) (a2 : Int) : runBody ([]) ty 15 n spec_l00Inkp spec_l00Inc Go.Proofs.Try.f70.results.toList spec_l00Inrs spec_l00Insp spec_l00Inbs (a0, (a1, (a2, ()))) () = spec_l00In n a0 a1 a2 := by
  have h : runBody ([]) ty 15 n spec_l00Inkp spec_l00Inc Go.Proofs.Try.f70.results.toList spec_l00Inrs spec_l00Insp spec_l00Inbs (a0, (a1, (a2, ()))) () = spec_l00In_t n a0 a1 a2 := by kernel_rfl
  rw [h]
  rfl

theorem spec_l00In_ok (n : Nat) : FunOk P (spec_l00InF n) :=
  funOk_mk (C := []) (N := 15) (kp := spec_l00Inkp) (c := spec_l00Inc) (n := n) (G := fun x y => spec_l00In n x.1 x.2.1 x.2.2.1) follows (AllOk.mem (trivial : AllOk P ([]))) (by kernel_rfl : P.funcs[70]? = some Go.Proofs.Try.f70) (by kernel_rfl) (by kernel_rfl) (by kernel_rfl)
    (fun x y => spec_l00In_eq n x.1 x.2.1 x.2.2.1) (fun _ _ => map_same (fun _ => rfl) _) (fun _ _ _ _ => rfl)

abbrev spec_l03Oksp : List Sp := [.ref 0]
abbrev spec_l03Okbs : List (Bs × Bool) := [(.var 62 (.pair (.list (.int .i16)) (.pair (.int .i64) (.int .i64))), true)]
abbrev spec_l03Okrs : List (Bool × List Rp) := [(false, [.v false .bool])]
noncomputable def spec_l03Okkp : Keep := { loop := fun id => match id with | 5 => [4, 0] | _ => [], join := fun id => match id with | _ => none }
noncomputable def spec_l03Okc : Code := bodyOf Go.Proofs.Try.f104
noncomputable def spec_l03OkF (n : Nat) : Fun := { id := 104, sp := spec_l03Oksp, bs := spec_l03Okbs, rs := spec_l03Okrs, f := fun x y => spec_l03Ok n y.1 }

theorem spec_l03Ok_l5_eq (n : Nat) : ∀ (k : Nat) (v4 : Int) (b0_0 : List (Int)) (b0_1 : Int) (b0_2 : Int), iter (interp ([spec_l00InF n]) ty 49 1 n spec_l03Okkp (codeAt spec_l03Okc [1, 1, 1, 0, 1, 0, 0])) (canon 1 (spec_l03Okkp.loop 5)) (kAt ([spec_l00InF n]) ty 49 1 n spec_l03Okkp spec_l03Okc [1, 1, 1, 0, 1, 0] [] (ending ty 1 Go.Proofs.Try.f104.results.toList spec_l03Okrs spec_l03Okbs)) k { env := [(4, .one (.sc (.int .i64 v4))), (0, .one (.ref 0 0 0 0 0 0))], bx := [(0, .var 62 [.list true (.int .i16) b0_0, .sc (.int .i64 b0_1), .sc (.int .i64 b0_2)])], nx := 1 } = spec_l03Ok_l5 n k v4 b0_0 b0_1 b0_2
  | 0, _, _, _, _ => by kernel_rfl
  | k + 1, v4, b0_0, b0_1, b0_2 => by
    have h : iter (interp ([spec_l00InF n]) ty 49 1 n spec_l03Okkp (codeAt spec_l03Okc [1, 1, 1, 0, 1, 0, 0])) (canon 1 (spec_l03Okkp.loop 5)) (kAt ([spec_l00InF n]) ty 49 1 n spec_l03Okkp spec_l03Okc [1, 1, 1, 0, 1, 0] [] (ending ty 1 Go.Proofs.Try.f104.results.toList spec_l03Okrs spec_l03Okbs)) (k + 1) { env := [(4, .one (.sc (.int .i64 v4))), (0, .one (.ref 0 0 0 0 0 0))], bx := [(0, .var 62 [.list true (.int .i16) b0_0, .sc (.int .i64 b0_1), .sc (.int .i64 b0_2)])], nx := 1 } = spec_l03Ok_t5 n (fun v4 b0_0 b0_1 b0_2 => iter (interp ([spec_l00InF n]) ty 49 1 n spec_l03Okkp (codeAt spec_l03Okc [1, 1, 1, 0, 1, 0, 0])) (canon 1 (spec_l03Okkp.loop 5)) (kAt ([spec_l00InF n]) ty 49 1 n spec_l03Okkp spec_l03Okc [1, 1, 1, 0, 1, 0] [] (ending ty 1 Go.Proofs.Try.f104.results.toList spec_l03Okrs spec_l03Okbs)) k { env := [(4, .one (.sc (.int .i64 v4))), (0, .one (.ref 0 0 0 0 0 0))], bx := [(0, .var 62 [.list true (.int .i16) b0_0, .sc (.int .i64 b0_1), .sc (.int .i64 b0_2)])], nx := 1 }) v4 b0_0 b0_1 b0_2 := by kernel_rfl
    rw [h]
    have e := congrArg (fun g => spec_l03Ok_t5 n g v4 b0_0 b0_1 b0_2) (funext fun v4 => funext fun b0_0 => funext fun b0_1 => funext fun b0_2 => spec_l03Ok_l5_eq n k v4 b0_0 b0_1 b0_2)
    exact e

theorem spec_l03Ok_eq (n : Nat) (b0 : (List (Int)) × ((Int) × (Int))) : runBody ([spec_l00InF n]) ty 49 n spec_l03Okkp spec_l03Okc Go.Proofs.Try.f104.results.toList spec_l03Okrs spec_l03Oksp spec_l03Okbs ((), ()) (b0, ()) = spec_l03Ok n b0 := by
  have h : runBody ([spec_l00InF n]) ty 49 n spec_l03Okkp spec_l03Okc Go.Proofs.Try.f104.results.toList spec_l03Okrs spec_l03Oksp spec_l03Okbs ((), ()) (b0, ()) = spec_l03Ok_t n (fun k v4 b0_0 b0_1 b0_2 => iter (interp ([spec_l00InF n]) ty 49 1 n spec_l03Okkp (codeAt spec_l03Okc [1, 1, 1, 0, 1, 0, 0])) (canon 1 (spec_l03Okkp.loop 5)) (kAt ([spec_l00InF n]) ty 49 1 n spec_l03Okkp spec_l03Okc [1, 1, 1, 0, 1, 0] [] (ending ty 1 Go.Proofs.Try.f104.results.toList spec_l03Okrs spec_l03Okbs)) k { env := [(4, .one (.sc (.int .i64 v4))), (0, .one (.ref 0 0 0 0 0 0))], bx := [(0, .var 62 [.list true (.int .i16) b0_0, .sc (.int .i64 b0_1), .sc (.int .i64 b0_2)])], nx := 1 }) b0 := by kernel_rfl
  rw [h]
  have e := congrArg (fun h5 => spec_l03Ok_t n h5 b0) (funext fun k => funext fun v4 => funext fun b0_0 => funext fun b0_1 => funext fun b0_2 => spec_l03Ok_l5_eq n k v4 b0_0 b0_1 b0_2)
  exact e

theorem spec_l03Ok_ok (n : Nat) : FunOk P (spec_l03OkF n) :=
  funOk_mk (C := [spec_l00InF n]) (N := 49) (kp := spec_l03Okkp) (c := spec_l03Okc) (n := n) (G := fun x y => spec_l03Ok n y.1) follows (AllOk.mem (⟨spec_l00In_ok n, trivial⟩ : AllOk P ([spec_l00InF n]))) (by kernel_rfl : P.funcs[104]? = some Go.Proofs.Try.f104) (by kernel_rfl) (by kernel_rfl) (by kernel_rfl)
    (fun x y => spec_l03Ok_eq n y.1) (fun _ _ => map_same (fun _ => rfl) _) (fun _ _ _ _ => rfl)

abbrev spec_l03Anglesp : List Sp := [.v false (.int .i64)]
abbrev spec_l03Anglebs : List (Bs × Bool) := []
abbrev spec_l03Anglers : List (Bool × List Rp) := [(false, [.v false .bool])]
noncomputable def spec_l03Anglekp : Keep := { loop := fun id => match id with | _ => [], join := fun id => match id with | _ => none }
noncomputable def spec_l03Anglec : Code := bodyOf Go.Proofs.Try.f105
noncomputable def spec_l03AngleF (n : Nat) : Fun := { id := 105, sp := spec_l03Anglesp, bs := spec_l03Anglebs, rs := spec_l03Anglers, f := fun x y => spec_l03Angle n x.1 }

theorem spec_l03Angle_eq (n : Nat) (a0 : Int) : runBody ([spec_l00InF n]) ty 5 n spec_l03Anglekp spec_l03Anglec Go.Proofs.Try.f105.results.toList spec_l03Anglers spec_l03Anglesp spec_l03Anglebs (a0, ()) () = spec_l03Angle n a0 := by
  have h : runBody ([spec_l00InF n]) ty 5 n spec_l03Anglekp spec_l03Anglec Go.Proofs.Try.f105.results.toList spec_l03Anglers spec_l03Anglesp spec_l03Anglebs (a0, ()) () = spec_l03Angle_t n a0 := by kernel_rfl
  rw [h]
  rfl

theorem spec_l03Angle_ok (n : Nat) : FunOk P (spec_l03AngleF n) :=
  funOk_mk (C := [spec_l00InF n]) (N := 5) (kp := spec_l03Anglekp) (c := spec_l03Anglec) (n := n) (G := fun x y => spec_l03Angle n x.1) follows (AllOk.mem (⟨spec_l00In_ok n, trivial⟩ : AllOk P ([spec_l00InF n]))) (by kernel_rfl : P.funcs[105]? = some Go.Proofs.Try.f105) (by kernel_rfl) (by kernel_rfl) (by kernel_rfl)
    (fun x y => spec_l03Angle_eq n x.1) (fun _ _ => map_same (fun _ => rfl) _) (fun _ _ _ _ => rfl)

abbrev spec_l03Faultsp : List Sp := [.ref 0, .v false (.int .i64)]
abbrev spec_l03Faultbs : List (Bs × Bool) := [(.var 62 (.pair (.list (.int .i16)) (.pair (.int .i64) (.int .i64))), true)]
abbrev spec_l03Faultrs : List (Bool × List Rp) := [(false, [.v false (.int .i64)]), (false, [.v false (.int .i64)])]
noncomputable def spec_l03Faultkp : Keep := { loop := fun id => match id with | _ => [], join := fun id => match id with | _ => none }
noncomputable def spec_l03Faultc : Code := bodyOf Go.Proofs.Try.f142
noncomputable def spec_l03FaultF (n : Nat) : Fun := { id := 142, sp := spec_l03Faultsp, bs := spec_l03Faultbs, rs := spec_l03Faultrs, f := fun x y => spec_l03Fault n x.2.1 y.1 }

theorem spec_l03Fault_eq (n : Nat) (a1 : Int) (b0 : (List (Int)) × ((Int) × (Int))) : runBody ([]) ty 54 n spec_l03Faultkp spec_l03Faultc Go.Proofs.Try.f142.results.toList spec_l03Faultrs spec_l03Faultsp spec_l03Faultbs ((), (a1, ())) (b0, ()) = spec_l03Fault n a1 b0 := by
  have h : runBody ([]) ty 54 n spec_l03Faultkp spec_l03Faultc Go.Proofs.Try.f142.results.toList spec_l03Faultrs spec_l03Faultsp spec_l03Faultbs ((), (a1, ())) (b0, ()) = spec_l03Fault_t n a1 b0 := by kernel_rfl
  rw [h]
  rfl

theorem spec_l03Fault_ok (n : Nat) : FunOk P (spec_l03FaultF n) :=
  funOk_mk (C := []) (N := 54) (kp := spec_l03Faultkp) (c := spec_l03Faultc) (n := n) (G := fun x y => spec_l03Fault n x.2.1 y.1) follows (AllOk.mem (trivial : AllOk P ([]))) (by kernel_rfl : P.funcs[142]? = some Go.Proofs.Try.f142) (by kernel_rfl) (by kernel_rfl) (by kernel_rfl)
    (fun x y => spec_l03Fault_eq n x.2.1 y.1) (fun _ _ => map_same (fun _ => rfl) _) (fun _ _ _ _ => rfl)

abbrev spec_l03Swingsp : List Sp := [.v false (.int .i64)]
abbrev spec_l03Swingbs : List (Bs × Bool) := []
abbrev spec_l03Swingrs : List (Bool × List Rp) := [(false, [.v false (.int .i64)])]
noncomputable def spec_l03Swingkp : Keep := { loop := fun id => match id with | _ => [], join := fun id => match id with | _ => none }
noncomputable def spec_l03Swingc : Code := bodyOf Go.Proofs.Try.f155
noncomputable def spec_l03SwingF (n : Nat) : Fun := { id := 155, sp := spec_l03Swingsp, bs := spec_l03Swingbs, rs := spec_l03Swingrs, f := fun x y => spec_l03Swing n x.1 }

theorem spec_l03Swing_eq (n : Nat) (a0 : Int) : runBody ([]) ty 12 n spec_l03Swingkp spec_l03Swingc Go.Proofs.Try.f155.results.toList spec_l03Swingrs spec_l03Swingsp spec_l03Swingbs (a0, ()) () = spec_l03Swing n a0 := by
  have h : runBody ([]) ty 12 n spec_l03Swingkp spec_l03Swingc Go.Proofs.Try.f155.results.toList spec_l03Swingrs spec_l03Swingsp spec_l03Swingbs (a0, ()) () = spec_l03Swing_t n a0 := by kernel_rfl
  rw [h]
  rfl

theorem spec_l03Swing_ok (n : Nat) : FunOk P (spec_l03SwingF n) :=
  funOk_mk (C := []) (N := 12) (kp := spec_l03Swingkp) (c := spec_l03Swingc) (n := n) (G := fun x y => spec_l03Swing n x.1) follows (AllOk.mem (trivial : AllOk P ([]))) (by kernel_rfl : P.funcs[155]? = some Go.Proofs.Try.f155) (by kernel_rfl) (by kernel_rfl) (by kernel_rfl)
    (fun x y => spec_l03Swing_eq n x.1) (fun _ _ => map_same (fun _ => rfl) _) (fun _ _ _ _ => rfl)

abbrev spec_l03Wrapsp : List Sp := [.v false (.int .i64)]
abbrev spec_l03Wrapbs : List (Bs × Bool) := []
abbrev spec_l03Wraprs : List (Bool × List Rp) := [(false, [.v false (.int .i64)])]
noncomputable def spec_l03Wrapkp : Keep := { loop := fun id => match id with | _ => [], join := fun id => match id with | _ => none }
noncomputable def spec_l03Wrapc : Code := bodyOf Go.Proofs.Try.f114
noncomputable def spec_l03WrapF (n : Nat) : Fun := { id := 114, sp := spec_l03Wrapsp, bs := spec_l03Wrapbs, rs := spec_l03Wraprs, f := fun x y => spec_l03Wrap n x.1 }

theorem spec_l03Wrap_eq (n : Nat) (a0 : Int) : runBody ([]) ty 10 n spec_l03Wrapkp spec_l03Wrapc Go.Proofs.Try.f114.results.toList spec_l03Wraprs spec_l03Wrapsp spec_l03Wrapbs (a0, ()) () = spec_l03Wrap n a0 := by
  have h : runBody ([]) ty 10 n spec_l03Wrapkp spec_l03Wrapc Go.Proofs.Try.f114.results.toList spec_l03Wraprs spec_l03Wrapsp spec_l03Wrapbs (a0, ()) () = spec_l03Wrap_t n a0 := by kernel_rfl
  rw [h]
  rfl

theorem spec_l03Wrap_ok (n : Nat) : FunOk P (spec_l03WrapF n) :=
  funOk_mk (C := []) (N := 10) (kp := spec_l03Wrapkp) (c := spec_l03Wrapc) (n := n) (G := fun x y => spec_l03Wrap n x.1) follows (AllOk.mem (trivial : AllOk P ([]))) (by kernel_rfl : P.funcs[114]? = some Go.Proofs.Try.f114) (by kernel_rfl) (by kernel_rfl) (by kernel_rfl)
    (fun x y => spec_l03Wrap_eq n x.1) (fun _ _ => map_same (fun _ => rfl) _) (fun _ _ _ _ => rfl)

abbrev spec_l03Offsp : List Sp := [.ref 0, .v false (.int .i64)]
abbrev spec_l03Offbs : List (Bs × Bool) := [(.var 62 (.pair (.list (.int .i16)) (.pair (.int .i64) (.int .i64))), true)]
abbrev spec_l03Offrs : List (Bool × List Rp) := [(false, [.v false (.int .i64)])]
noncomputable def spec_l03Offkp : Keep := { loop := fun id => match id with | _ => [], join := fun id => match id with | _ => none }
noncomputable def spec_l03Offc : Code := bodyOf Go.Proofs.Try.f143
noncomputable def spec_l03OffF (n : Nat) : Fun := { id := 143, sp := spec_l03Offsp, bs := spec_l03Offbs, rs := spec_l03Offrs, f := fun x y => spec_l03Off n x.2.1 y.1 }

theorem spec_l03Off_eq (n : Nat) (a1 : Int) (b0 : (List (Int)) × ((Int) × (Int))) : runBody ([spec_l03SwingF n, spec_l03WrapF n]) ty 22 n spec_l03Offkp spec_l03Offc Go.Proofs.Try.f143.results.toList spec_l03Offrs spec_l03Offsp spec_l03Offbs ((), (a1, ())) (b0, ()) = spec_l03Off n a1 b0 := by
  have h : runBody ([spec_l03SwingF n, spec_l03WrapF n]) ty 22 n spec_l03Offkp spec_l03Offc Go.Proofs.Try.f143.results.toList spec_l03Offrs spec_l03Offsp spec_l03Offbs ((), (a1, ())) (b0, ()) = spec_l03Off_t n a1 b0 := by kernel_rfl
  rw [h]
  rfl

theorem spec_l03Off_ok (n : Nat) : FunOk P (spec_l03OffF n) :=
  funOk_mk (C := [spec_l03SwingF n, spec_l03WrapF n]) (N := 22) (kp := spec_l03Offkp) (c := spec_l03Offc) (n := n) (G := fun x y => spec_l03Off n x.2.1 y.1) follows (AllOk.mem (⟨spec_l03Swing_ok n, ⟨spec_l03Wrap_ok n, trivial⟩⟩ : AllOk P ([spec_l03SwingF n, spec_l03WrapF n]))) (by kernel_rfl : P.funcs[143]? = some Go.Proofs.Try.f143) (by kernel_rfl) (by kernel_rfl) (by kernel_rfl)
    (fun x y => spec_l03Off_eq n x.2.1 y.1) (fun _ _ => map_same (fun _ => rfl) _) (fun _ _ _ _ => rfl)

abbrev spec_l01Downsp : List Sp := [.v false (.int .i64), .v false (.int .i64)]
abbrev spec_l01Downbs : List (Bs × Bool) := []
abbrev spec_l01Downrs : List (Bool × List Rp) := [(false, [.v false (.int .i64)])]
noncomputable def spec_l01Downkp : Keep := { loop := fun id => match id with | _ => [], join := fun id => match id with | _ => none }
noncomputable def spec_l01Downc : Code := bodyOf Go.Proofs.Try.f135
noncomputable def spec_l01DownF (n : Nat) : Fun := { id := 135, sp := spec_l01Downsp, bs := spec_l01Downbs, rs := spec_l01Downrs, f := fun x y => spec_l01Down n x.1 x.2.1 }

theorem spec_l01Down_eq (n : Nat) (a0 : Int) (a1 : Int) : runBody ([]) ty 16 n spec_l01Downkp spec_l01Downc Go.Proofs.Try.f135.results.toList spec_l01Downrs spec_l01Downsp spec_l01Downbs (a0, (a1, ())) () = spec_l01Down n a0 a1 := by
  have h : runBody ([]) ty 16 n spec_l01Downkp spec_l01Downc Go.Proofs.Try.f135.results.toList spec_l01Downrs spec_l01Downsp spec_l01Downbs (a0, (a1, ())) () = spec_l01Down_t n a0 a1 := by kernel_rfl
  rw [h]
  rfl

theorem spec_l01Down_ok (n : Nat) : FunOk P (spec_l01DownF n) :=
  funOk_mk (C := []) (N := 16) (kp := spec_l01Downkp) (c := spec_l01Downc) (n := n) (G := fun x y => spec_l01Down n x.1 x.2.1) follows (AllOk.mem (trivial : AllOk P ([]))) (by kernel_rfl : P.funcs[135]? = some Go.Proofs.Try.f135) (by kernel_rfl) (by kernel_rfl) (by kernel_rfl)
    (fun x y => spec_l01Down_eq n x.1 x.2.1) (fun _ _ => map_same (fun _ => rfl) _) (fun _ _ _ _ => rfl)

abbrev spec_l03Headsp : List Sp := [.ref 0, .v false (.int .i64), .v false (.int .i64)]
abbrev spec_l03Headbs : List (Bs × Bool) := [(.var 62 (.pair (.list (.int .i16)) (.pair (.int .i64) (.int .i64))), true)]
abbrev spec_l03Headrs : List (Bool × List Rp) := [(false, [.v false (.int .i64)])]
noncomputable def spec_l03Headkp : Keep := { loop := fun id => match id with | _ => [], join := fun id => match id with | _ => none }
noncomputable def spec_l03Headc : Code := bodyOf Go.Proofs.Try.f108
noncomputable def spec_l03HeadF (n : Nat) : Fun := { id := 108, sp := spec_l03Headsp, bs := spec_l03Headbs, rs := spec_l03Headrs, f := fun x y => spec_l03Head n x.2.1 x.2.2.1 y.1 }

theorem spec_l03Head_eq (n : Nat) (a1 : Int) (a2 : Int) (b0 : (List (Int)) × ((Int) × (Int))) : runBody ([spec_l03FaultF n, spec_l03OffF n, spec_l01DownF n, spec_l03WrapF n]) ty 44 n spec_l03Headkp spec_l03Headc Go.Proofs.Try.f108.results.toList spec_l03Headrs spec_l03Headsp spec_l03Headbs ((), (a1, (a2, ()))) (b0, ()) = spec_l03Head n a1 a2 b0 := by
  have h : runBody ([spec_l03FaultF n, spec_l03OffF n, spec_l01DownF n, spec_l03WrapF n]) ty 44 n spec_l03Headkp spec_l03Headc Go.Proofs.Try.f108.results.toList spec_l03Headrs spec_l03Headsp spec_l03Headbs ((), (a1, (a2, ()))) (b0, ()) = spec_l03Head_t n a1 a2 b0 := by kernel_rfl
  rw [h]
  rfl

theorem spec_l03Head_ok (n : Nat) : FunOk P (spec_l03HeadF n) :=
  funOk_mk (C := [spec_l03FaultF n, spec_l03OffF n, spec_l01DownF n, spec_l03WrapF n]) (N := 44) (kp := spec_l03Headkp) (c := spec_l03Headc) (n := n) (G := fun x y => spec_l03Head n x.2.1 x.2.2.1 y.1) follows (AllOk.mem (⟨spec_l03Fault_ok n, ⟨spec_l03Off_ok n, ⟨spec_l01Down_ok n, ⟨spec_l03Wrap_ok n, trivial⟩⟩⟩⟩ : AllOk P ([spec_l03FaultF n, spec_l03OffF n, spec_l01DownF n, spec_l03WrapF n]))) (by kernel_rfl : P.funcs[108]? = some Go.Proofs.Try.f108) (by kernel_rfl) (by kernel_rfl) (by kernel_rfl)
    (fun x y => spec_l03Head_eq n x.2.1 x.2.2.1 y.1) (fun _ _ => map_same (fun _ => rfl) _) (fun _ _ _ _ => rfl)

abbrev spec_l03Turnsp : List Sp := [.v false (.int .i64), .v false (.int .i64)]
abbrev spec_l03Turnbs : List (Bs × Bool) := []
abbrev spec_l03Turnrs : List (Bool × List Rp) := [(false, [.v false (.int .i64)])]
noncomputable def spec_l03Turnkp : Keep := { loop := fun id => match id with | _ => [], join := fun id => match id with | _ => none }
noncomputable def spec_l03Turnc : Code := bodyOf Go.Proofs.Try.f107
noncomputable def spec_l03TurnF (n : Nat) : Fun := { id := 107, sp := spec_l03Turnsp, bs := spec_l03Turnbs, rs := spec_l03Turnrs, f := fun x y => spec_l03Turn n x.1 x.2.1 }

theorem spec_l03Turn_eq (n : Nat) (a0 : Int) (a1 : Int) : runBody ([spec_l03WrapF n]) ty 15 n spec_l03Turnkp spec_l03Turnc Go.Proofs.Try.f107.results.toList spec_l03Turnrs spec_l03Turnsp spec_l03Turnbs (a0, (a1, ())) () = spec_l03Turn n a0 a1 := by
  have h : runBody ([spec_l03WrapF n]) ty 15 n spec_l03Turnkp spec_l03Turnc Go.Proofs.Try.f107.results.toList spec_l03Turnrs spec_l03Turnsp spec_l03Turnbs (a0, (a1, ())) () = spec_l03Turn_t n a0 a1 := by kernel_rfl
  rw [h]
  rfl

theorem spec_l03Turn_ok (n : Nat) : FunOk P (spec_l03TurnF n) :=
  funOk_mk (C := [spec_l03WrapF n]) (N := 15) (kp := spec_l03Turnkp) (c := spec_l03Turnc) (n := n) (G := fun x y => spec_l03Turn n x.1 x.2.1) follows (AllOk.mem (⟨spec_l03Wrap_ok n, trivial⟩ : AllOk P ([spec_l03WrapF n]))) (by kernel_rfl : P.funcs[107]? = some Go.Proofs.Try.f107) (by kernel_rfl) (by kernel_rfl) (by kernel_rfl)
    (fun x y => spec_l03Turn_eq n x.1 x.2.1) (fun _ _ => map_same (fun _ => rfl) _) (fun _ _ _ _ => rfl)

abbrev spec_l01Abssp : List Sp := [.v false (.int .i64)]
abbrev spec_l01Absbs : List (Bs × Bool) := []
abbrev spec_l01Absrs : List (Bool × List Rp) := [(false, [.v false (.int .i64)])]
noncomputable def spec_l01Abskp : Keep := { loop := fun id => match id with | _ => [], join := fun id => match id with | _ => none }
noncomputable def spec_l01Absc : Code := bodyOf Go.Proofs.Try.f106
noncomputable def spec_l01AbsF (n : Nat) : Fun := { id := 106, sp := spec_l01Abssp, bs := spec_l01Absbs, rs := spec_l01Absrs, f := fun x y => spec_l01Abs n x.1 }

theorem spec_l01Abs_eq (n : Nat) (a0 : Int) : runBody ([]) ty 8 n spec_l01Abskp spec_l01Absc Go.Proofs.Try.f106.results.toList spec_l01Absrs spec_l01Abssp spec_l01Absbs (a0, ()) () = spec_l01Abs n a0 := by
  have h : runBody ([]) ty 8 n spec_l01Abskp spec_l01Absc Go.Proofs.Try.f106.results.toList spec_l01Absrs spec_l01Abssp spec_l01Absbs (a0, ()) () = spec_l01Abs_t n a0 := by kernel_rfl
  rw [h]
  rfl

theorem spec_l01Abs_ok (n : Nat) : FunOk P (spec_l01AbsF n) :=
  funOk_mk (C := []) (N := 8) (kp := spec_l01Abskp) (c := spec_l01Absc) (n := n) (G := fun x y => spec_l01Abs n x.1) follows (AllOk.mem (trivial : AllOk P ([]))) (by kernel_rfl : P.funcs[106]? = some Go.Proofs.Try.f106) (by kernel_rfl) (by kernel_rfl) (by kernel_rfl)
    (fun x y => spec_l01Abs_eq n x.1) (fun _ _ => map_same (fun _ => rfl) _) (fun _ _ _ _ => rfl)

abbrev spec_WorstHeadsp : List Sp := [.v true (.pair (.list (.int .i16)) (.pair (.int .i64) (.int .i64))), .v false (.list (.int .i64)), .v false (.int .i64)]
abbrev spec_WorstHeadbs : List (Bs × Bool) := []
abbrev spec_WorstHeadrs : List (Bool × List Rp) := [(false, [.v false (.int .i64)]), (false, [.v false (.int .i64)]), (false, [.v false (.int .i64)])]
noncomputable def spec_WorstHeadkp : Keep := { loop := fun id => match id with | 3 => [10, 1, 3, 2, 9] | 13 => [13, 1, 11, 3, 2, 12] | _ => [], join := fun id => match id with | _ => none }
noncomputable def spec_WorstHeadc : Code := bodyOf Go.Proofs.Try.f43
noncomputable def spec_WorstHeadF (n : Nat) : Fun := { id := 43, sp := spec_WorstHeadsp, bs := spec_WorstHeadbs, rs := spec_WorstHeadrs, f := fun x y => spec_WorstHead n x.1 x.2.1 x.2.2.1 }

theorem spec_WorstHead_l13_eq (n : Nat) : ∀ (k : Nat) (v13 : Int) (v1 : List (Int)) (v11 : Int) (v2 : Int) (v12 : Int) (b0_0 : List (Int)) (b0_1 : Int) (b0_2 : Int), iter (interp ([spec_l03OkF n, spec_l03AngleF n, spec_l00InF n, spec_l03HeadF n, spec_l03TurnF n, spec_l01AbsF n]) ty 69 0 n spec_WorstHeadkp (codeAt spec_WorstHeadc [1, 1, 1, 1, 1, 1, 1, 0, 1, 0, 0])) (canon 0 (spec_WorstHeadkp.loop 13)) (kAt ([spec_l03OkF n, spec_l03AngleF n, spec_l00InF n, spec_l03HeadF n, spec_l03TurnF n, spec_l01AbsF n]) ty 69 0 n spec_WorstHeadkp spec_WorstHeadc [1, 1, 1, 1, 1, 1, 1, 0, 1, 0] [] (ending ty 0 Go.Proofs.Try.f43.results.toList spec_WorstHeadrs spec_WorstHeadbs)) k { env := [(13, .one (.sc (.int .i64 v13))), (1, .one (.list true (.int .i64) v1)), (11, .one (.sc (.int .i64 v11))), (3, .one (.ref 0 0 0 0 0 0)), (2, .one (.sc (.int .i64 v2))), (12, .one (.sc (.int .i64 v12)))], bx := [(0, .var 62 [.list true (.int .i16) b0_0, .sc (.int .i64 b0_1), .sc (.int .i64 b0_2)])], nx := 1 } = spec_WorstHead_l13 n k v13 v1 v11 v2 v12 b0_0 b0_1 b0_2
  | 0, _, _, _, _, _, _, _, _ => by kernel_rfl
  | k + 1, v13, v1, v11, v2, v12, b0_0, b0_1, b0_2 => by
    have h : iter (interp ([spec_l03OkF n, spec_l03AngleF n, spec_l00InF n, spec_l03HeadF n, spec_l03TurnF n, spec_l01AbsF n]) ty 69 0 n spec_WorstHeadkp (codeAt spec_WorstHeadc [1, 1, 1, 1, 1, 1, 1, 0, 1, 0, 0])) (canon 0 (spec_WorstHeadkp.loop 13)) (kAt ([spec_l03OkF n, spec_l03AngleF n, spec_l00InF n, spec_l03HeadF n, spec_l03TurnF n, spec_l01AbsF n]) ty 69 0 n spec_WorstHeadkp spec_WorstHeadc [1, 1, 1, 1, 1, 1, 1, 0, 1, 0] [] (ending ty 0 Go.Proofs.Try.f43.results.toList spec_WorstHeadrs spec_WorstHeadbs)) (k + 1) { env := [(13, .one (.sc (.int .i64 v13))), (1, .one (.list true (.int .i64) v1)), (11, .one (.sc (.int .i64 v11))), (3, .one (.ref 0 0 0 0 0 0)), (2, .one (.sc (.int .i64 v2))), (12, .one (.sc (.int .i64 v12)))], bx := [(0, .var 62 [.list true (.int .i16) b0_0, .sc (.int .i64 b0_1), .sc (.int .i64 b0_2)])], nx := 1 } = spec_WorstHead_t13 n (fun v13 v1 v11 v2 v12 b0_0 b0_1 b0_2 => iter (interp ([spec_l03OkF n, spec_l03AngleF n, spec_l00InF n, spec_l03HeadF n, spec_l03TurnF n, spec_l01AbsF n]) ty 69 0 n spec_WorstHeadkp (codeAt spec_WorstHeadc [1, 1, 1, 1, 1, 1, 1, 0, 1, 0, 0])) (canon 0 (spec_WorstHeadkp.loop 13)) (kAt ([spec_l03OkF n, spec_l03AngleF n, spec_l00InF n, spec_l03HeadF n, spec_l03TurnF n, spec_l01AbsF n]) ty 69 0 n spec_WorstHeadkp spec_WorstHeadc [1, 1, 1, 1, 1, 1, 1, 0, 1, 0] [] (ending ty 0 Go.Proofs.Try.f43.results.toList spec_WorstHeadrs spec_WorstHeadbs)) k { env := [(13, .one (.sc (.int .i64 v13))), (1, .one (.list true (.int .i64) v1)), (11, .one (.sc (.int .i64 v11))), (3, .one (.ref 0 0 0 0 0 0)), (2, .one (.sc (.int .i64 v2))), (12, .one (.sc (.int .i64 v12)))], bx := [(0, .var 62 [.list true (.int .i16) b0_0, .sc (.int .i64 b0_1), .sc (.int .i64 b0_2)])], nx := 1 }) v13 v1 v11 v2 v12 b0_0 b0_1 b0_2 := by kernel_rfl
    rw [h]
    have e := congrArg (fun g => spec_WorstHead_t13 n g v13 v1 v11 v2 v12 b0_0 b0_1 b0_2) (funext fun v13 => funext fun v1 => funext fun v11 => funext fun v2 => funext fun v12 => funext fun b0_0 => funext fun b0_1 => funext fun b0_2 => spec_WorstHead_l13_eq n k v13 v1 v11 v2 v12 b0_0 b0_1 b0_2)
    exact e

theorem spec_WorstHead_l3_eq (n : Nat) : ∀ (k : Nat) (v10 : Int) (v1 : List (Int)) (v2 : Int) (v9 : Bool) (b0_0 : List (Int)) (b0_1 : Int) (b0_2 : Int), iter (interp ([spec_l03OkF n, spec_l03AngleF n, spec_l00InF n, spec_l03HeadF n, spec_l03TurnF n, spec_l01AbsF n]) ty 69 0 n spec_WorstHeadkp (codeAt spec_WorstHeadc [1, 1, 0, 1, 0, 0])) (canon 0 (spec_WorstHeadkp.loop 3)) (kAt ([spec_l03OkF n, spec_l03AngleF n, spec_l00InF n, spec_l03HeadF n, spec_l03TurnF n, spec_l01AbsF n]) ty 69 0 n spec_WorstHeadkp spec_WorstHeadc [1, 1, 0, 1, 0] [] (ending ty 0 Go.Proofs.Try.f43.results.toList spec_WorstHeadrs spec_WorstHeadbs)) k { env := [(10, .one (.sc (.int .i64 v10))), (1, .one (.list true (.int .i64) v1)), (3, .one (.ref 0 0 0 0 0 0)), (2, .one (.sc (.int .i64 v2))), (9, .one (.sc (.bool v9)))], bx := [(0, .var 62 [.list true (.int .i16) b0_0, .sc (.int .i64 b0_1), .sc (.int .i64 b0_2)])], nx := 1 } = spec_WorstHead_l3 n k v10 v1 v2 v9 b0_0 b0_1 b0_2
  | 0, _, _, _, _, _, _, _ => by kernel_rfl
  | k + 1, v10, v1, v2, v9, b0_0, b0_1, b0_2 => by
    have h : iter (interp ([spec_l03OkF n, spec_l03AngleF n, spec_l00InF n, spec_l03HeadF n, spec_l03TurnF n, spec_l01AbsF n]) ty 69 0 n spec_WorstHeadkp (codeAt spec_WorstHeadc [1, 1, 0, 1, 0, 0])) (canon 0 (spec_WorstHeadkp.loop 3)) (kAt ([spec_l03OkF n, spec_l03AngleF n, spec_l00InF n, spec_l03HeadF n, spec_l03TurnF n, spec_l01AbsF n]) ty 69 0 n spec_WorstHeadkp spec_WorstHeadc [1, 1, 0, 1, 0] [] (ending ty 0 Go.Proofs.Try.f43.results.toList spec_WorstHeadrs spec_WorstHeadbs)) (k + 1) { env := [(10, .one (.sc (.int .i64 v10))), (1, .one (.list true (.int .i64) v1)), (3, .one (.ref 0 0 0 0 0 0)), (2, .one (.sc (.int .i64 v2))), (9, .one (.sc (.bool v9)))], bx := [(0, .var 62 [.list true (.int .i16) b0_0, .sc (.int .i64 b0_1), .sc (.int .i64 b0_2)])], nx := 1 } = spec_WorstHead_t3 n (fun k' v13 v1 v11 v2 v12 b0_0 b0_1 b0_2 => iter (interp ([spec_l03OkF n, spec_l03AngleF n, spec_l00InF n, spec_l03HeadF n, spec_l03TurnF n, spec_l01AbsF n]) ty 69 0 n spec_WorstHeadkp (codeAt spec_WorstHeadc [1, 1, 1, 1, 1, 1, 1, 0, 1, 0, 0])) (canon 0 (spec_WorstHeadkp.loop 13)) (kAt ([spec_l03OkF n, spec_l03AngleF n, spec_l00InF n, spec_l03HeadF n, spec_l03TurnF n, spec_l01AbsF n]) ty 69 0 n spec_WorstHeadkp spec_WorstHeadc [1, 1, 1, 1, 1, 1, 1, 0, 1, 0] [] (ending ty 0 Go.Proofs.Try.f43.results.toList spec_WorstHeadrs spec_WorstHeadbs)) k' { env := [(13, .one (.sc (.int .i64 v13))), (1, .one (.list true (.int .i64) v1)), (11, .one (.sc (.int .i64 v11))), (3, .one (.ref 0 0 0 0 0 0)), (2, .one (.sc (.int .i64 v2))), (12, .one (.sc (.int .i64 v12)))], bx := [(0, .var 62 [.list true (.int .i16) b0_0, .sc (.int .i64 b0_1), .sc (.int .i64 b0_2)])], nx := 1 }) (fun v10 v1 v2 v9 b0_0 b0_1 b0_2 => iter (interp ([spec_l03OkF n, spec_l03AngleF n, spec_l00InF n, spec_l03HeadF n, spec_l03TurnF n, spec_l01AbsF n]) ty 69 0 n spec_WorstHeadkp (codeAt spec_WorstHeadc [1, 1, 0, 1, 0, 0])) (canon 0 (spec_WorstHeadkp.loop 3)) (kAt ([spec_l03OkF n, spec_l03AngleF n, spec_l00InF n, spec_l03HeadF n, spec_l03TurnF n, spec_l01AbsF n]) ty 69 0 n spec_WorstHeadkp spec_WorstHeadc [1, 1, 0, 1, 0] [] (ending ty 0 Go.Proofs.Try.f43.results.toList spec_WorstHeadrs spec_WorstHeadbs)) k { env := [(10, .one (.sc (.int .i64 v10))), (1, .one (.list true (.int .i64) v1)), (3, .one (.ref 0 0 0 0 0 0)), (2, .one (.sc (.int .i64 v2))), (9, .one (.sc (.bool v9)))], bx := [(0, .var 62 [.list true (.int .i16) b0_0, .sc (.int .i64 b0_1), .sc (.int .i64 b0_2)])], nx := 1 }) v10 v1 v2 v9 b0_0 b0_1 b0_2 := by kernel_rfl
    rw [h]
    have e := congr (congrArg (fun h13 g => spec_WorstHead_t3 n h13 g v10 v1 v2 v9 b0_0 b0_1 b0_2) ((funext fun k' => funext fun v13 => funext fun v1 => funext fun v11 => funext fun v2 => funext fun v12 => funext fun b0_0 => funext fun b0_1 => funext fun b0_2 => spec_WorstHead_l13_eq n k' v13 v1 v11 v2 v12 b0_0 b0_1 b0_2).trans (congrArg (fun z => spec_WorstHead_l13 n) (funext fun v10 => funext fun v1 => funext fun v2 => funext fun v9 => funext fun b0_0 => funext fun b0_1 => funext fun b0_2 => spec_WorstHead_l3_eq n k v10 v1 v2 v9 b0_0 b0_1 b0_2)))) (funext fun v10 => funext fun v1 => funext fun v2 => funext fun v9 => funext fun b0_0 => funext fun b0_1 => funext fun b0_2 => spec_WorstHead_l3_eq n k v10 v1 v2 v9 b0_0 b0_1 b0_2)
    exact e

theorem spec_WorstHead_eq (n : Nat) (a0 : (List (Int)) × ((Int) × (Int))) (a1 : List (Int)) (a2 : Int) : runBody ([spec_l03OkF n, spec_l03AngleF n, spec_l00InF n, spec_l03HeadF n, spec_l03TurnF n, spec_l01AbsF n]) ty 69 n spec_WorstHeadkp spec_WorstHeadc Go.Proofs.Try.f43.results.toList spec_WorstHeadrs spec_WorstHeadsp spec_WorstHeadbs (a0, (a1, (a2, ()))) () = spec_WorstHead n a0 a1 a2 := by
  have h : runBody ([spec_l03OkF n, spec_l03AngleF n, spec_l00InF n, spec_l03HeadF n, spec_l03TurnF n, spec_l01AbsF n]) ty 69 n spec_WorstHeadkp spec_WorstHeadc Go.Proofs.Try.f43.results.toList spec_WorstHeadrs spec_WorstHeadsp spec_WorstHeadbs (a0, (a1, (a2, ()))) () = spec_WorstHead_t n (fun k v10 v1 v2 v9 b0_0 b0_1 b0_2 => iter (interp ([spec_l03OkF n, spec_l03AngleF n, spec_l00InF n, spec_l03HeadF n, spec_l03TurnF n, spec_l01AbsF n]) ty 69 0 n spec_WorstHeadkp (codeAt spec_WorstHeadc [1, 1, 0, 1, 0, 0])) (canon 0 (spec_WorstHeadkp.loop 3)) (kAt ([spec_l03OkF n, spec_l03AngleF n, spec_l00InF n, spec_l03HeadF n, spec_l03TurnF n, spec_l01AbsF n]) ty 69 0 n spec_WorstHeadkp spec_WorstHeadc [1, 1, 0, 1, 0] [] (ending ty 0 Go.Proofs.Try.f43.results.toList spec_WorstHeadrs spec_WorstHeadbs)) k { env := [(10, .one (.sc (.int .i64 v10))), (1, .one (.list true (.int .i64) v1)), (3, .one (.ref 0 0 0 0 0 0)), (2, .one (.sc (.int .i64 v2))), (9, .one (.sc (.bool v9)))], bx := [(0, .var 62 [.list true (.int .i16) b0_0, .sc (.int .i64 b0_1), .sc (.int .i64 b0_2)])], nx := 1 }) a0 a1 a2 := by kernel_rfl
  rw [h]
  have e := congrArg (fun h3 => spec_WorstHead_t n h3 a0 a1 a2) (funext fun k => funext fun v10 => funext fun v1 => funext fun v2 => funext fun v9 => funext fun b0_0 => funext fun b0_1 => funext fun b0_2 => spec_WorstHead_l3_eq n k v10 v1 v2 v9 b0_0 b0_1 b0_2)
  exact e

theorem spec_WorstHead_ok (n : Nat) : FunOk P (spec_WorstHeadF n) :=
  funOk_mk (C := [spec_l03OkF n, spec_l03AngleF n, spec_l00InF n, spec_l03HeadF n, spec_l03TurnF n, spec_l01AbsF n]) (N := 69) (kp := spec_WorstHeadkp) (c := spec_WorstHeadc) (n := n) (G := fun x y => spec_WorstHead n x.1 x.2.1 x.2.2.1) follows (AllOk.mem (⟨spec_l03Ok_ok n, ⟨spec_l03Angle_ok n, ⟨spec_l00In_ok n, ⟨spec_l03Head_ok n, ⟨spec_l03Turn_ok n, ⟨spec_l01Abs_ok n, trivial⟩⟩⟩⟩⟩⟩ : AllOk P ([spec_l03OkF n, spec_l03AngleF n, spec_l00InF n, spec_l03HeadF n, spec_l03TurnF n, spec_l01AbsF n]))) (by kernel_rfl : P.funcs[43]? = some Go.Proofs.Try.f43) (by kernel_rfl) (by kernel_rfl) (by kernel_rfl)
    (fun x y => spec_WorstHead_eq n x.1 x.2.1 x.2.2.1) (fun _ _ => map_same (fun _ => rfl) _) (fun _ _ _ _ => rfl)

abbrev impl_withinsp : List Sp := [.v false (.int .i64), .v false (.int .i64), .v false (.int .i64)]
abbrev impl_withinbs : List (Bs × Bool) := []
abbrev impl_withinrs : List (Bool × List Rp) := [(false, [.v false .bool])]
noncomputable def impl_withinkp : Keep := { loop := fun id => match id with | _ => [], join := fun id => match id with | _ => none }
noncomputable def impl_withinc : Code := bodyOf Go.Proofs.Try.f63
noncomputable def impl_withinF (n : Nat) : Fun := { id := 63, sp := impl_withinsp, bs := impl_withinbs, rs := impl_withinrs, f := fun x y => impl_within n x.1 x.2.1 x.2.2.1 }

theorem impl_within_eq (n : Nat) (a0 : Int) (a1 : Int) (a2 : Int) : runBody ([]) ty 15 n impl_withinkp impl_withinc Go.Proofs.Try.f63.results.toList impl_withinrs impl_withinsp impl_withinbs (a0, (a1, (a2, ()))) () = impl_within n a0 a1 a2 := by
  have h : runBody ([]) ty 15 n impl_withinkp impl_withinc Go.Proofs.Try.f63.results.toList impl_withinrs impl_withinsp impl_withinbs (a0, (a1, (a2, ()))) () = impl_within_t n a0 a1 a2 := by kernel_rfl
  rw [h]
  rfl

theorem impl_within_ok (n : Nat) : FunOk P (impl_withinF n) :=
  funOk_mk (C := []) (N := 15) (kp := impl_withinkp) (c := impl_withinc) (n := n) (G := fun x y => impl_within n x.1 x.2.1 x.2.2.1) follows (AllOk.mem (trivial : AllOk P ([]))) (by kernel_rfl : P.funcs[63]? = some Go.Proofs.Try.f63) (by kernel_rfl) (by kernel_rfl) (by kernel_rfl)
    (fun x y => impl_within_eq n x.1 x.2.1 x.2.2.1) (fun _ _ => map_same (fun _ => rfl) _) (fun _ _ _ _ => rfl)

abbrev impl_ValidDisk_1sp : List Sp := [.v false (.int .i16)]
abbrev impl_ValidDisk_1bs : List (Bs × Bool) := []
abbrev impl_ValidDisk_1rs : List (Bool × List Rp) := [(false, [.v false .bool])]
noncomputable def impl_ValidDisk_1kp : Keep := { loop := fun id => match id with | _ => [], join := fun id => match id with | _ => none }
noncomputable def impl_ValidDisk_1c : Code := bodyOf Go.Proofs.Try.f153
noncomputable def impl_ValidDisk_1F (n : Nat) : Fun := { id := 153, sp := impl_ValidDisk_1sp, bs := impl_ValidDisk_1bs, rs := impl_ValidDisk_1rs, f := fun x y => impl_ValidDisk_1 n x.1 }

theorem impl_ValidDisk_1_eq (n : Nat) (a0 : Int) : runBody ([impl_withinF n]) ty 7 n impl_ValidDisk_1kp impl_ValidDisk_1c Go.Proofs.Try.f153.results.toList impl_ValidDisk_1rs impl_ValidDisk_1sp impl_ValidDisk_1bs (a0, ()) () = impl_ValidDisk_1 n a0 := by
  have h : runBody ([impl_withinF n]) ty 7 n impl_ValidDisk_1kp impl_ValidDisk_1c Go.Proofs.Try.f153.results.toList impl_ValidDisk_1rs impl_ValidDisk_1sp impl_ValidDisk_1bs (a0, ()) () = impl_ValidDisk_1_t n a0 := by kernel_rfl
  rw [h]
  rfl

theorem impl_ValidDisk_1_ok (n : Nat) : FunOk P (impl_ValidDisk_1F n) :=
  funOk_mk (C := [impl_withinF n]) (N := 7) (kp := impl_ValidDisk_1kp) (c := impl_ValidDisk_1c) (n := n) (G := fun x y => impl_ValidDisk_1 n x.1) follows (AllOk.mem (⟨impl_within_ok n, trivial⟩ : AllOk P ([impl_withinF n]))) (by kernel_rfl : P.funcs[153]? = some Go.Proofs.Try.f153) (by kernel_rfl) (by kernel_rfl) (by kernel_rfl)
    (fun x y => impl_ValidDisk_1_eq n x.1) (fun _ _ => map_same (fun _ => rfl) _) (fun _ _ _ _ => rfl)

abbrev slices_IndexFunc_int16_int16_at_impl_ValidDisk_1sp : List Sp := [.v false (.list (.int .i16)), .cl 153 []]
abbrev slices_IndexFunc_int16_int16_at_impl_ValidDisk_1bs : List (Bs × Bool) := []
abbrev slices_IndexFunc_int16_int16_at_impl_ValidDisk_1rs : List (Bool × List Rp) := [(false, [.v false (.int .i64)])]
noncomputable def slices_IndexFunc_int16_int16_at_impl_ValidDisk_1kp : Keep := { loop := fun id => match id with | 2 => [8, 0, 1, 7] | _ => [], join := fun id => match id with | _ => none }
noncomputable def slices_IndexFunc_int16_int16_at_impl_ValidDisk_1c : Code := bodyOf Go.Proofs.Try.f157
noncomputable def slices_IndexFunc_int16_int16_at_impl_ValidDisk_1F (n : Nat) : Fun := { id := 157, sp := slices_IndexFunc_int16_int16_at_impl_ValidDisk_1sp, bs := slices_IndexFunc_int16_int16_at_impl_ValidDisk_1bs, rs := slices_IndexFunc_int16_int16_at_impl_ValidDisk_1rs, f := fun x y => slices_IndexFunc_int16_int16_at_impl_ValidDisk_1 n x.1 }

theorem slices_IndexFunc_int16_int16_at_impl_ValidDisk_1_l2_eq (n : Nat) : ∀ (k : Nat) (v8 : Int) (v0 : List (Int)) (v7 : Int), iter (interp ([impl_ValidDisk_1F n]) ty 19 0 n slices_IndexFunc_int16_int16_at_impl_ValidDisk_1kp (codeAt slices_IndexFunc_int16_int16_at_impl_ValidDisk_1c [1, 0, 1, 0, 0])) (canon 0 (slices_IndexFunc_int16_int16_at_impl_ValidDisk_1kp.loop 2)) (kAt ([impl_ValidDisk_1F n]) ty 19 0 n slices_IndexFunc_int16_int16_at_impl_ValidDisk_1kp slices_IndexFunc_int16_int16_at_impl_ValidDisk_1c [1, 0, 1, 0] [] (ending ty 0 Go.Proofs.Try.f157.results.toList slices_IndexFunc_int16_int16_at_impl_ValidDisk_1rs slices_IndexFunc_int16_int16_at_impl_ValidDisk_1bs)) k { env := [(8, .one (.sc (.int .i64 v8))), (0, .one (.list true (.int .i16) v0)), (1, .one (.clos 153 [])), (7, .one (.sc (.int .i64 v7)))], bx := [], nx := 0 } = slices_IndexFunc_int16_int16_at_impl_ValidDisk_1_l2 n k v8 v0 v7
  | 0, _, _, _ => by kernel_rfl
  | k + 1, v8, v0, v7 => by
    have h : iter (interp ([impl_ValidDisk_1F n]) ty 19 0 n slices_IndexFunc_int16_int16_at_impl_ValidDisk_1kp (codeAt slices_IndexFunc_int16_int16_at_impl_ValidDisk_1c [1, 0, 1, 0, 0])) (canon 0 (slices_IndexFunc_int16_int16_at_impl_ValidDisk_1kp.loop 2)) (kAt ([impl_ValidDisk_1F n]) ty 19 0 n slices_IndexFunc_int16_int16_at_impl_ValidDisk_1kp slices_IndexFunc_int16_int16_at_impl_ValidDisk_1c [1, 0, 1, 0] [] (ending ty 0 Go.Proofs.Try.f157.results.toList slices_IndexFunc_int16_int16_at_impl_ValidDisk_1rs slices_IndexFunc_int16_int16_at_impl_ValidDisk_1bs)) (k + 1) { env := [(8, .one (.sc (.int .i64 v8))), (0, .one (.list true (.int .i16) v0)), (1, .one (.clos 153 [])), (7, .one (.sc (.int .i64 v7)))], bx := [], nx := 0 } = slices_IndexFunc_int16_int16_at_impl_ValidDisk_1_t2 n (fun v8 v0 v7 => iter (interp ([impl_ValidDisk_1F n]) ty 19 0 n slices_IndexFunc_int16_int16_at_impl_ValidDisk_1kp (codeAt slices_IndexFunc_int16_int16_at_impl_ValidDisk_1c [1, 0, 1, 0, 0])) (canon 0 (slices_IndexFunc_int16_int16_at_impl_ValidDisk_1kp.loop 2)) (kAt ([impl_ValidDisk_1F n]) ty 19 0 n slices_IndexFunc_int16_int16_at_impl_ValidDisk_1kp slices_IndexFunc_int16_int16_at_impl_ValidDisk_1c [1, 0, 1, 0] [] (ending ty 0 Go.Proofs.Try.f157.results.toList slices_IndexFunc_int16_int16_at_impl_ValidDisk_1rs slices_IndexFunc_int16_int16_at_impl_ValidDisk_1bs)) k { env := [(8, .one (.sc (.int .i64 v8))), (0, .one (.list true (.int .i16) v0)), (1, .one (.clos 153 [])), (7, .one (.sc (.int .i64 v7)))], bx := [], nx := 0 }) v8 v0 v7 := by kernel_rfl
    rw [h]
    have e := congrArg (fun g => slices_IndexFunc_int16_int16_at_impl_ValidDisk_1_t2 n g v8 v0 v7) (funext fun v8 => funext fun v0 => funext fun v7 => slices_IndexFunc_int16_int16_at_impl_ValidDisk_1_l2_eq n k v8 v0 v7)
    exact e

theorem slices_IndexFunc_int16_int16_at_impl_ValidDisk_1_eq (n : Nat) (a0 : List (Int)) : runBody ([impl_ValidDisk_1F n]) ty 19 n slices_IndexFunc_int16_int16_at_impl_ValidDisk_1kp slices_IndexFunc_int16_int16_at_impl_ValidDisk_1c Go.Proofs.Try.f157.results.toList slices_IndexFunc_int16_int16_at_impl_ValidDisk_1rs slices_IndexFunc_int16_int16_at_impl_ValidDisk_1sp slices_IndexFunc_int16_int16_at_impl_ValidDisk_1bs (a0, ((), ())) () = slices_IndexFunc_int16_int16_at_impl_ValidDisk_1 n a0 := by
  have h : runBody ([impl_ValidDisk_1F n]) ty 19 n slices_IndexFunc_int16_int16_at_impl_ValidDisk_1kp slices_IndexFunc_int16_int16_at_impl_ValidDisk_1c Go.Proofs.Try.f157.results.toList slices_IndexFunc_int16_int16_at_impl_ValidDisk_1rs slices_IndexFunc_int16_int16_at_impl_ValidDisk_1sp slices_IndexFunc_int16_int16_at_impl_ValidDisk_1bs (a0, ((), ())) () = slices_IndexFunc_int16_int16_at_impl_ValidDisk_1_t n (fun k v8 v0 v7 => iter (interp ([impl_ValidDisk_1F n]) ty 19 0 n slices_IndexFunc_int16_int16_at_impl_ValidDisk_1kp (codeAt slices_IndexFunc_int16_int16_at_impl_ValidDisk_1c [1, 0, 1, 0, 0])) (canon 0 (slices_IndexFunc_int16_int16_at_impl_ValidDisk_1kp.loop 2)) (kAt ([impl_ValidDisk_1F n]) ty 19 0 n slices_IndexFunc_int16_int16_at_impl_ValidDisk_1kp slices_IndexFunc_int16_int16_at_impl_ValidDisk_1c [1, 0, 1, 0] [] (ending ty 0 Go.Proofs.Try.f157.results.toList slices_IndexFunc_int16_int16_at_impl_ValidDisk_1rs slices_IndexFunc_int16_int16_at_impl_ValidDisk_1bs)) k { env := [(8, .one (.sc (.int .i64 v8))), (0, .one (.list true (.int .i16) v0)), (1, .one (.clos 153 [])), (7, .one (.sc (.int .i64 v7)))], bx := [], nx := 0 }) a0 := by kernel_rfl
  rw [h]
  have e := congrArg (fun h2 => slices_IndexFunc_int16_int16_at_impl_ValidDisk_1_t n h2 a0) (funext fun k => funext fun v8 => funext fun v0 => funext fun v7 => slices_IndexFunc_int16_int16_at_impl_ValidDisk_1_l2_eq n k v8 v0 v7)
  exact e

theorem slices_IndexFunc_int16_int16_at_impl_ValidDisk_1_ok (n : Nat) : FunOk P (slices_IndexFunc_int16_int16_at_impl_ValidDisk_1F n) :=
  funOk_mk (C := [impl_ValidDisk_1F n]) (N := 19) (kp := slices_IndexFunc_int16_int16_at_impl_ValidDisk_1kp) (c := slices_IndexFunc_int16_int16_at_impl_ValidDisk_1c) (n := n) (G := fun x y => slices_IndexFunc_int16_int16_at_impl_ValidDisk_1 n x.1) follows (AllOk.mem (⟨impl_ValidDisk_1_ok n, trivial⟩ : AllOk P ([impl_ValidDisk_1F n]))) (by kernel_rfl : P.funcs[157]? = some Go.Proofs.Try.f157) (by kernel_rfl) (by kernel_rfl) (by kernel_rfl)
    (fun x y => slices_IndexFunc_int16_int16_at_impl_ValidDisk_1_eq n x.1) (fun _ _ => map_same (fun _ => rfl) _) (fun _ _ _ _ => rfl)

abbrev slices_ContainsFunc_int16_int16_at_impl_ValidDisk_1sp : List Sp := [.v false (.list (.int .i16)), .cl 153 []]
abbrev slices_ContainsFunc_int16_int16_at_impl_ValidDisk_1bs : List (Bs × Bool) := []
abbrev slices_ContainsFunc_int16_int16_at_impl_ValidDisk_1rs : List (Bool × List Rp) := [(false, [.v false .bool])]
noncomputable def slices_ContainsFunc_int16_int16_at_impl_ValidDisk_1kp : Keep := { loop := fun id => match id with | _ => [], join := fun id => match id with | _ => none }
noncomputable def slices_ContainsFunc_int16_int16_at_impl_ValidDisk_1c : Code := bodyOf Go.Proofs.Try.f152
noncomputable def slices_ContainsFunc_int16_int16_at_impl_ValidDisk_1F (n : Nat) : Fun := { id := 152, sp := slices_ContainsFunc_int16_int16_at_impl_ValidDisk_1sp, bs := slices_ContainsFunc_int16_int16_at_impl_ValidDisk_1bs, rs := slices_ContainsFunc_int16_int16_at_impl_ValidDisk_1rs, f := fun x y => slices_ContainsFunc_int16_int16_at_impl_ValidDisk_1 n x.1 }

theorem slices_ContainsFunc_int16_int16_at_impl_ValidDisk_1_eq (n : Nat) (a0 : List (Int)) : runBody ([slices_IndexFunc_int16_int16_at_impl_ValidDisk_1F n]) ty 9 n slices_ContainsFunc_int16_int16_at_impl_ValidDisk_1kp slices_ContainsFunc_int16_int16_at_impl_ValidDisk_1c Go.Proofs.Try.f152.results.toList slices_ContainsFunc_int16_int16_at_impl_ValidDisk_1rs slices_ContainsFunc_int16_int16_at_impl_ValidDisk_1sp slices_ContainsFunc_int16_int16_at_impl_ValidDisk_1bs (a0, ((), ())) () = slices_ContainsFunc_int16_int16_at_impl_ValidDisk_1 n a0 := by
  have h : runBody ([slices_IndexFunc_int16_int16_at_impl_ValidDisk_1F n]) ty 9 n slices_ContainsFunc_int16_int16_at_impl_ValidDisk_1kp slices_ContainsFunc_int16_int16_at_impl_ValidDisk_1c Go.Proofs.Try.f152.results.toList slices_ContainsFunc_int16_int16_at_impl_ValidDisk_1rs slices_ContainsFunc_int16_int16_at_impl_ValidDisk_1sp slices_ContainsFunc_int16_int16_at_impl_ValidDisk_1bs (a0, ((), ())) () = slices_ContainsFunc_int16_int16_at_impl_ValidDisk_1_t n a0 := by kernel_rfl
  rw [h]
  rfl

theorem slices_ContainsFunc_int16_int16_at_impl_ValidDisk_1_ok (n : Nat) : FunOk P (slices_ContainsFunc_int16_int16_at_impl_ValidDisk_1F n) :=
  funOk_mk (C := [slices_IndexFunc_int16_int16_at_impl_ValidDisk_1F n]) (N := 9) (kp := slices_ContainsFunc_int16_int16_at_impl_ValidDisk_1kp) (c := slices_ContainsFunc_int16_int16_at_impl_ValidDisk_1c) (n := n) (G := fun x y => slices_ContainsFunc_int16_int16_at_impl_ValidDisk_1 n x.1) follows (AllOk.mem (⟨slices_IndexFunc_int16_int16_at_impl_ValidDisk_1_ok n, trivial⟩ : AllOk P ([slices_IndexFunc_int16_int16_at_impl_ValidDisk_1F n]))) (by kernel_rfl : P.funcs[152]? = some Go.Proofs.Try.f152) (by kernel_rfl) (by kernel_rfl) (by kernel_rfl)
    (fun x y => slices_ContainsFunc_int16_int16_at_impl_ValidDisk_1_eq n x.1) (fun _ _ => map_same (fun _ => rfl) _) (fun _ _ _ _ => rfl)

abbrev impl_ValidDisksp : List Sp := [.v true (.pair (.list (.int .i16)) (.pair (.int .i64) (.int .i64)))]
abbrev impl_ValidDiskbs : List (Bs × Bool) := []
abbrev impl_ValidDiskrs : List (Bool × List Rp) := [(false, [.v false .bool])]
noncomputable def impl_ValidDiskkp : Keep := { loop := fun id => match id with | _ => [], join := fun id => match id with | _ => none }
noncomputable def impl_ValidDiskc : Code := bodyOf Go.Proofs.Try.f136
noncomputable def impl_ValidDiskF (n : Nat) : Fun := { id := 136, sp := impl_ValidDisksp, bs := impl_ValidDiskbs, rs := impl_ValidDiskrs, f := fun x y => impl_ValidDisk n x.1 }

theorem impl_ValidDisk_eq (n : Nat) (a0 : (List (Int)) × ((Int) × (Int))) : runBody ([impl_withinF n, slices_ContainsFunc_int16_int16_at_impl_ValidDisk_1F n]) ty 30 n impl_ValidDiskkp impl_ValidDiskc Go.Proofs.Try.f136.results.toList impl_ValidDiskrs impl_ValidDisksp impl_ValidDiskbs (a0, ()) () = impl_ValidDisk n a0 := by
  have h : runBody ([impl_withinF n, slices_ContainsFunc_int16_int16_at_impl_ValidDisk_1F n]) ty 30 n impl_ValidDiskkp impl_ValidDiskc Go.Proofs.Try.f136.results.toList impl_ValidDiskrs impl_ValidDisksp impl_ValidDiskbs (a0, ()) () = impl_ValidDisk_t n a0 := by kernel_rfl
  rw [h]
  rfl

theorem impl_ValidDisk_ok (n : Nat) : FunOk P (impl_ValidDiskF n) :=
  funOk_mk (C := [impl_withinF n, slices_ContainsFunc_int16_int16_at_impl_ValidDisk_1F n]) (N := 30) (kp := impl_ValidDiskkp) (c := impl_ValidDiskc) (n := n) (G := fun x y => impl_ValidDisk n x.1) follows (AllOk.mem (⟨impl_within_ok n, ⟨slices_ContainsFunc_int16_int16_at_impl_ValidDisk_1_ok n, trivial⟩⟩ : AllOk P ([impl_withinF n, slices_ContainsFunc_int16_int16_at_impl_ValidDisk_1F n]))) (by kernel_rfl : P.funcs[136]? = some Go.Proofs.Try.f136) (by kernel_rfl) (by kernel_rfl) (by kernel_rfl)
    (fun x y => impl_ValidDisk_eq n x.1) (fun _ _ => map_same (fun _ => rfl) _) (fun _ _ _ _ => rfl)

abbrev impl_isAnglesp : List Sp := [.v false (.int .i64)]
abbrev impl_isAnglebs : List (Bs × Bool) := []
abbrev impl_isAnglers : List (Bool × List Rp) := [(false, [.v false .bool])]
noncomputable def impl_isAnglekp : Keep := { loop := fun id => match id with | _ => [], join := fun id => match id with | _ => none }
noncomputable def impl_isAnglec : Code := bodyOf Go.Proofs.Try.f138
noncomputable def impl_isAngleF (n : Nat) : Fun := { id := 138, sp := impl_isAnglesp, bs := impl_isAnglebs, rs := impl_isAnglers, f := fun x y => impl_isAngle n x.1 }

theorem impl_isAngle_eq (n : Nat) (a0 : Int) : runBody ([impl_withinF n]) ty 5 n impl_isAnglekp impl_isAnglec Go.Proofs.Try.f138.results.toList impl_isAnglers impl_isAnglesp impl_isAnglebs (a0, ()) () = impl_isAngle n a0 := by
  have h : runBody ([impl_withinF n]) ty 5 n impl_isAnglekp impl_isAnglec Go.Proofs.Try.f138.results.toList impl_isAnglers impl_isAnglesp impl_isAnglebs (a0, ()) () = impl_isAngle_t n a0 := by kernel_rfl
  rw [h]
  rfl

theorem impl_isAngle_ok (n : Nat) : FunOk P (impl_isAngleF n) :=
  funOk_mk (C := [impl_withinF n]) (N := 5) (kp := impl_isAnglekp) (c := impl_isAnglec) (n := n) (G := fun x y => impl_isAngle n x.1) follows (AllOk.mem (⟨impl_within_ok n, trivial⟩ : AllOk P ([impl_withinF n]))) (by kernel_rfl : P.funcs[138]? = some Go.Proofs.Try.f138) (by kernel_rfl) (by kernel_rfl) (by kernel_rfl)
    (fun x y => impl_isAngle_eq n x.1) (fun _ _ => map_same (fun _ => rfl) _) (fun _ _ _ _ => rfl)

abbrev impl_headCode_1sp : List Sp := [.v false (.int .i64)]
abbrev impl_headCode_1bs : List (Bs × Bool) := []
abbrev impl_headCode_1rs : List (Bool × List Rp) := [(false, [.v false .bool])]
noncomputable def impl_headCode_1kp : Keep := { loop := fun id => match id with | _ => [], join := fun id => match id with | _ => none }
noncomputable def impl_headCode_1c : Code := bodyOf Go.Proofs.Try.f137
noncomputable def impl_headCode_1F (n : Nat) : Fun := { id := 137, sp := impl_headCode_1sp, bs := impl_headCode_1bs, rs := impl_headCode_1rs, f := fun x y => impl_headCode_1 n x.1 }

theorem impl_headCode_1_eq (n : Nat) (a0 : Int) : runBody ([impl_isAngleF n]) ty 6 n impl_headCode_1kp impl_headCode_1c Go.Proofs.Try.f137.results.toList impl_headCode_1rs impl_headCode_1sp impl_headCode_1bs (a0, ()) () = impl_headCode_1 n a0 := by
  have h : runBody ([impl_isAngleF n]) ty 6 n impl_headCode_1kp impl_headCode_1c Go.Proofs.Try.f137.results.toList impl_headCode_1rs impl_headCode_1sp impl_headCode_1bs (a0, ()) () = impl_headCode_1_t n a0 := by kernel_rfl
  rw [h]
  rfl

theorem impl_headCode_1_ok (n : Nat) : FunOk P (impl_headCode_1F n) :=
  funOk_mk (C := [impl_isAngleF n]) (N := 6) (kp := impl_headCode_1kp) (c := impl_headCode_1c) (n := n) (G := fun x y => impl_headCode_1 n x.1) follows (AllOk.mem (⟨impl_isAngle_ok n, trivial⟩ : AllOk P ([impl_isAngleF n]))) (by kernel_rfl : P.funcs[137]? = some Go.Proofs.Try.f137) (by kernel_rfl) (by kernel_rfl) (by kernel_rfl)
    (fun x y => impl_headCode_1_eq n x.1) (fun _ _ => map_same (fun _ => rfl) _) (fun _ _ _ _ => rfl)

abbrev slices_IndexFunc_int64_int64_at_impl_headCode_1sp : List Sp := [.v false (.list (.int .i64)), .cl 137 []]
abbrev slices_IndexFunc_int64_int64_at_impl_headCode_1bs : List (Bs × Bool) := []
abbrev slices_IndexFunc_int64_int64_at_impl_headCode_1rs : List (Bool × List Rp) := [(false, [.v false (.int .i64)])]
noncomputable def slices_IndexFunc_int64_int64_at_impl_headCode_1kp : Keep := { loop := fun id => match id with | 2 => [8, 0, 1, 7] | _ => [], join := fun id => match id with | _ => none }
noncomputable def slices_IndexFunc_int64_int64_at_impl_headCode_1c : Code := bodyOf Go.Proofs.Try.f151
noncomputable def slices_IndexFunc_int64_int64_at_impl_headCode_1F (n : Nat) : Fun := { id := 151, sp := slices_IndexFunc_int64_int64_at_impl_headCode_1sp, bs := slices_IndexFunc_int64_int64_at_impl_headCode_1bs, rs := slices_IndexFunc_int64_int64_at_impl_headCode_1rs, f := fun x y => slices_IndexFunc_int64_int64_at_impl_headCode_1 n x.1 }

theorem slices_IndexFunc_int64_int64_at_impl_headCode_1_l2_eq (n : Nat) : ∀ (k : Nat) (v8 : Int) (v0 : List (Int)) (v7 : Int), iter (interp ([impl_headCode_1F n]) ty 19 0 n slices_IndexFunc_int64_int64_at_impl_headCode_1kp (codeAt slices_IndexFunc_int64_int64_at_impl_headCode_1c [1, 0, 1, 0, 0])) (canon 0 (slices_IndexFunc_int64_int64_at_impl_headCode_1kp.loop 2)) (kAt ([impl_headCode_1F n]) ty 19 0 n slices_IndexFunc_int64_int64_at_impl_headCode_1kp slices_IndexFunc_int64_int64_at_impl_headCode_1c [1, 0, 1, 0] [] (ending ty 0 Go.Proofs.Try.f151.results.toList slices_IndexFunc_int64_int64_at_impl_headCode_1rs slices_IndexFunc_int64_int64_at_impl_headCode_1bs)) k { env := [(8, .one (.sc (.int .i64 v8))), (0, .one (.list true (.int .i64) v0)), (1, .one (.clos 137 [])), (7, .one (.sc (.int .i64 v7)))], bx := [], nx := 0 } = slices_IndexFunc_int64_int64_at_impl_headCode_1_l2 n k v8 v0 v7
  | 0, _, _, _ => by kernel_rfl
  | k + 1, v8, v0, v7 => by
    have h : iter (interp ([impl_headCode_1F n]) ty 19 0 n slices_IndexFunc_int64_int64_at_impl_headCode_1kp (codeAt slices_IndexFunc_int64_int64_at_impl_headCode_1c [1, 0, 1, 0, 0])) (canon 0 (slices_IndexFunc_int64_int64_at_impl_headCode_1kp.loop 2)) (kAt ([impl_headCode_1F n]) ty 19 0 n slices_IndexFunc_int64_int64_at_impl_headCode_1kp slices_IndexFunc_int64_int64_at_impl_headCode_1c [1, 0, 1, 0] [] (ending ty 0 Go.Proofs.Try.f151.results.toList slices_IndexFunc_int64_int64_at_impl_headCode_1rs slices_IndexFunc_int64_int64_at_impl_headCode_1bs)) (k + 1) { env := [(8, .one (.sc (.int .i64 v8))), (0, .one (.list true (.int .i64) v0)), (1, .one (.clos 137 [])), (7, .one (.sc (.int .i64 v7)))], bx := [], nx := 0 } = slices_IndexFunc_int64_int64_at_impl_headCode_1_t2 n (fun v8 v0 v7 => iter (interp ([impl_headCode_1F n]) ty 19 0 n slices_IndexFunc_int64_int64_at_impl_headCode_1kp (codeAt slices_IndexFunc_int64_int64_at_impl_headCode_1c [1, 0, 1, 0, 0])) (canon 0 (slices_IndexFunc_int64_int64_at_impl_headCode_1kp.loop 2)) (kAt ([impl_headCode_1F n]) ty 19 0 n slices_IndexFunc_int64_int64_at_impl_headCode_1kp slices_IndexFunc_int64_int64_at_impl_headCode_1c [1, 0, 1, 0] [] (ending ty 0 Go.Proofs.Try.f151.results.toList slices_IndexFunc_int64_int64_at_impl_headCode_1rs slices_IndexFunc_int64_int64_at_impl_headCode_1bs)) k { env := [(8, .one (.sc (.int .i64 v8))), (0, .one (.list true (.int .i64) v0)), (1, .one (.clos 137 [])), (7, .one (.sc (.int .i64 v7)))], bx := [], nx := 0 }) v8 v0 v7 := by kernel_rfl
    rw [h]
    have e := congrArg (fun g => slices_IndexFunc_int64_int64_at_impl_headCode_1_t2 n g v8 v0 v7) (funext fun v8 => funext fun v0 => funext fun v7 => slices_IndexFunc_int64_int64_at_impl_headCode_1_l2_eq n k v8 v0 v7)
    exact e

theorem slices_IndexFunc_int64_int64_at_impl_headCode_1_eq (n : Nat) (a0 : List (Int)) : runBody ([impl_headCode_1F n]) ty 19 n slices_IndexFunc_int64_int64_at_impl_headCode_1kp slices_IndexFunc_int64_int64_at_impl_headCode_1c Go.Proofs.Try.f151.results.toList slices_IndexFunc_int64_int64_at_impl_headCode_1rs slices_IndexFunc_int64_int64_at_impl_headCode_1sp slices_IndexFunc_int64_int64_at_impl_headCode_1bs (a0, ((), ())) () = slices_IndexFunc_int64_int64_at_impl_headCode_1 n a0 := by
  have h : runBody ([impl_headCode_1F n]) ty 19 n slices_IndexFunc_int64_int64_at_impl_headCode_1kp slices_IndexFunc_int64_int64_at_impl_headCode_1c Go.Proofs.Try.f151.results.toList slices_IndexFunc_int64_int64_at_impl_headCode_1rs slices_IndexFunc_int64_int64_at_impl_headCode_1sp slices_IndexFunc_int64_int64_at_impl_headCode_1bs (a0, ((), ())) () = slices_IndexFunc_int64_int64_at_impl_headCode_1_t n (fun k v8 v0 v7 => iter (interp ([impl_headCode_1F n]) ty 19 0 n slices_IndexFunc_int64_int64_at_impl_headCode_1kp (codeAt slices_IndexFunc_int64_int64_at_impl_headCode_1c [1, 0, 1, 0, 0])) (canon 0 (slices_IndexFunc_int64_int64_at_impl_headCode_1kp.loop 2)) (kAt ([impl_headCode_1F n]) ty 19 0 n slices_IndexFunc_int64_int64_at_impl_headCode_1kp slices_IndexFunc_int64_int64_at_impl_headCode_1c [1, 0, 1, 0] [] (ending ty 0 Go.Proofs.Try.f151.results.toList slices_IndexFunc_int64_int64_at_impl_headCode_1rs slices_IndexFunc_int64_int64_at_impl_headCode_1bs)) k { env := [(8, .one (.sc (.int .i64 v8))), (0, .one (.list true (.int .i64) v0)), (1, .one (.clos 137 [])), (7, .one (.sc (.int .i64 v7)))], bx := [], nx := 0 }) a0 := by kernel_rfl
  rw [h]
  have e := congrArg (fun h2 => slices_IndexFunc_int64_int64_at_impl_headCode_1_t n h2 a0) (funext fun k => funext fun v8 => funext fun v0 => funext fun v7 => slices_IndexFunc_int64_int64_at_impl_headCode_1_l2_eq n k v8 v0 v7)
  exact e

theorem slices_IndexFunc_int64_int64_at_impl_headCode_1_ok (n : Nat) : FunOk P (slices_IndexFunc_int64_int64_at_impl_headCode_1F n) :=
  funOk_mk (C := [impl_headCode_1F n]) (N := 19) (kp := slices_IndexFunc_int64_int64_at_impl_headCode_1kp) (c := slices_IndexFunc_int64_int64_at_impl_headCode_1c) (n := n) (G := fun x y => slices_IndexFunc_int64_int64_at_impl_headCode_1 n x.1) follows (AllOk.mem (⟨impl_headCode_1_ok n, trivial⟩ : AllOk P ([impl_headCode_1F n]))) (by kernel_rfl : P.funcs[151]? = some Go.Proofs.Try.f151) (by kernel_rfl) (by kernel_rfl) (by kernel_rfl)
    (fun x y => slices_IndexFunc_int64_int64_at_impl_headCode_1_eq n x.1) (fun _ _ => map_same (fun _ => rfl) _) (fun _ _ _ _ => rfl)

abbrev slices_ContainsFunc_int64_int64_at_impl_headCode_1sp : List Sp := [.v false (.list (.int .i64)), .cl 137 []]
abbrev slices_ContainsFunc_int64_int64_at_impl_headCode_1bs : List (Bs × Bool) := []
abbrev slices_ContainsFunc_int64_int64_at_impl_headCode_1rs : List (Bool × List Rp) := [(false, [.v false .bool])]
noncomputable def slices_ContainsFunc_int64_int64_at_impl_headCode_1kp : Keep := { loop := fun id => match id with | _ => [], join := fun id => match id with | _ => none }
noncomputable def slices_ContainsFunc_int64_int64_at_impl_headCode_1c : Code := bodyOf Go.Proofs.Try.f133
noncomputable def slices_ContainsFunc_int64_int64_at_impl_headCode_1F (n : Nat) : Fun := { id := 133, sp := slices_ContainsFunc_int64_int64_at_impl_headCode_1sp, bs := slices_ContainsFunc_int64_int64_at_impl_headCode_1bs, rs := slices_ContainsFunc_int64_int64_at_impl_headCode_1rs, f := fun x y => slices_ContainsFunc_int64_int64_at_impl_headCode_1 n x.1 }

theorem slices_ContainsFunc_int64_int64_at_impl_headCode_1_eq (n : Nat) (a0 : List (Int)) : runBody ([slices_IndexFunc_int64_int64_at_impl_headCode_1F n]) ty 9 n slices_ContainsFunc_int64_int64_at_impl_headCode_1kp slices_ContainsFunc_int64_int64_at_impl_headCode_1c Go.Proofs.Try.f133.results.toList slices_ContainsFunc_int64_int64_at_impl_headCode_1rs slices_ContainsFunc_int64_int64_at_impl_headCode_1sp slices_ContainsFunc_int64_int64_at_impl_headCode_1bs (a0, ((), ())) () = slices_ContainsFunc_int64_int64_at_impl_headCode_1 n a0 := by
  have h : runBody ([slices_IndexFunc_int64_int64_at_impl_headCode_1F n]) ty 9 n slices_ContainsFunc_int64_int64_at_impl_headCode_1kp slices_ContainsFunc_int64_int64_at_impl_headCode_1c Go.Proofs.Try.f133.results.toList slices_ContainsFunc_int64_int64_at_impl_headCode_1rs slices_ContainsFunc_int64_int64_at_impl_headCode_1sp slices_ContainsFunc_int64_int64_at_impl_headCode_1bs (a0, ((), ())) () = slices_ContainsFunc_int64_int64_at_impl_headCode_1_t n a0 := by kernel_rfl
  rw [h]
  rfl

theorem slices_ContainsFunc_int64_int64_at_impl_headCode_1_ok (n : Nat) : FunOk P (slices_ContainsFunc_int64_int64_at_impl_headCode_1F n) :=
  funOk_mk (C := [slices_IndexFunc_int64_int64_at_impl_headCode_1F n]) (N := 9) (kp := slices_ContainsFunc_int64_int64_at_impl_headCode_1kp) (c := slices_ContainsFunc_int64_int64_at_impl_headCode_1c) (n := n) (G := fun x y => slices_ContainsFunc_int64_int64_at_impl_headCode_1 n x.1) follows (AllOk.mem (⟨slices_IndexFunc_int64_int64_at_impl_headCode_1_ok n, trivial⟩ : AllOk P ([slices_IndexFunc_int64_int64_at_impl_headCode_1F n]))) (by kernel_rfl : P.funcs[133]? = some Go.Proofs.Try.f133) (by kernel_rfl) (by kernel_rfl) (by kernel_rfl)
    (fun x y => slices_ContainsFunc_int64_int64_at_impl_headCode_1_eq n x.1) (fun _ _ => map_same (fun _ => rfl) _) (fun _ _ _ _ => rfl)

abbrev impl_headCodesp : List Sp := [.v true (.pair (.list (.int .i16)) (.pair (.int .i64) (.int .i64))), .v false (.int .i64), .v false (.list (.int .i64))]
abbrev impl_headCodebs : List (Bs × Bool) := []
abbrev impl_headCoders : List (Bool × List Rp) := [(false, [.v false (.int .i64)])]
noncomputable def impl_headCodekp : Keep := { loop := fun id => match id with | _ => [], join := fun id => match id with | _ => none }
noncomputable def impl_headCodec : Code := bodyOf Go.Proofs.Try.f97
noncomputable def impl_headCodeF (n : Nat) : Fun := { id := 97, sp := impl_headCodesp, bs := impl_headCodebs, rs := impl_headCoders, f := fun x y => impl_headCode n x.1 x.2.1 x.2.2.1 }

theorem impl_headCode_eq (n : Nat) (a0 : (List (Int)) × ((Int) × (Int))) (a1 : Int) (a2 : List (Int)) : runBody ([impl_ValidDiskF n, slices_ContainsFunc_int64_int64_at_impl_headCode_1F n, impl_withinF n]) ty 19 n impl_headCodekp impl_headCodec Go.Proofs.Try.f97.results.toList impl_headCoders impl_headCodesp impl_headCodebs (a0, (a1, (a2, ()))) () = impl_headCode n a0 a1 a2 := by
  have h : runBody ([impl_ValidDiskF n, slices_ContainsFunc_int64_int64_at_impl_headCode_1F n, impl_withinF n]) ty 19 n impl_headCodekp impl_headCodec Go.Proofs.Try.f97.results.toList impl_headCoders impl_headCodesp impl_headCodebs (a0, (a1, (a2, ()))) () = impl_headCode_t n a0 a1 a2 := by kernel_rfl
  rw [h]
  rfl

theorem impl_headCode_ok (n : Nat) : FunOk P (impl_headCodeF n) :=
  funOk_mk (C := [impl_ValidDiskF n, slices_ContainsFunc_int64_int64_at_impl_headCode_1F n, impl_withinF n]) (N := 19) (kp := impl_headCodekp) (c := impl_headCodec) (n := n) (G := fun x y => impl_headCode n x.1 x.2.1 x.2.2.1) follows (AllOk.mem (⟨impl_ValidDisk_ok n, ⟨slices_ContainsFunc_int64_int64_at_impl_headCode_1_ok n, ⟨impl_within_ok n, trivial⟩⟩⟩ : AllOk P ([impl_ValidDiskF n, slices_ContainsFunc_int64_int64_at_impl_headCode_1F n, impl_withinF n]))) (by kernel_rfl : P.funcs[97]? = some Go.Proofs.Try.f97) (by kernel_rfl) (by kernel_rfl) (by kernel_rfl)
    (fun x y => impl_headCode_eq n x.1 x.2.1 x.2.2.1) (fun _ _ => map_same (fun _ => rfl) _) (fun _ _ _ _ => rfl)

abbrev impl_faultAtsp : List Sp := [.v true (.pair (.list (.int .i16)) (.pair (.int .i64) (.int .i64))), .v false (.int .i64)]
abbrev impl_faultAtbs : List (Bs × Bool) := []
abbrev impl_faultAtrs : List (Bool × List Rp) := [(false, [.v false (.int .i64)]), (false, [.v false (.int .i64)])]
noncomputable def impl_faultAtkp : Keep := { loop := fun id => match id with | _ => [], join := fun id => match id with | _ => none }
noncomputable def impl_faultAtc : Code := bodyOf Go.Proofs.Try.f139
noncomputable def impl_faultAtF (n : Nat) : Fun := { id := 139, sp := impl_faultAtsp, bs := impl_faultAtbs, rs := impl_faultAtrs, f := fun x y => impl_faultAt n x.1 x.2.1 }

theorem impl_faultAt_eq (n : Nat) (a0 : (List (Int)) × ((Int) × (Int))) (a1 : Int) : runBody ([]) ty 46 n impl_faultAtkp impl_faultAtc Go.Proofs.Try.f139.results.toList impl_faultAtrs impl_faultAtsp impl_faultAtbs (a0, (a1, ())) () = impl_faultAt n a0 a1 := by
  have h : runBody ([]) ty 46 n impl_faultAtkp impl_faultAtc Go.Proofs.Try.f139.results.toList impl_faultAtrs impl_faultAtsp impl_faultAtbs (a0, (a1, ())) () = impl_faultAt_t n a0 a1 := by kernel_rfl
  rw [h]
  rfl

theorem impl_faultAt_ok (n : Nat) : FunOk P (impl_faultAtF n) :=
  funOk_mk (C := []) (N := 46) (kp := impl_faultAtkp) (c := impl_faultAtc) (n := n) (G := fun x y => impl_faultAt n x.1 x.2.1) follows (AllOk.mem (trivial : AllOk P ([]))) (by kernel_rfl : P.funcs[139]? = some Go.Proofs.Try.f139) (by kernel_rfl) (by kernel_rfl) (by kernel_rfl)
    (fun x y => impl_faultAt_eq n x.1 x.2.1) (fun _ _ => map_same (fun _ => rfl) _) (fun _ _ _ _ => rfl)

abbrev impl_swingsp : List Sp := [.v false (.int .i64)]
abbrev impl_swingbs : List (Bs × Bool) := []
abbrev impl_swingrs : List (Bool × List Rp) := [(false, [.v false (.int .i64)])]
noncomputable def impl_swingkp : Keep := { loop := fun id => match id with | _ => [], join := fun id => match id with | _ => none }
noncomputable def impl_swingc : Code := bodyOf Go.Proofs.Try.f154
noncomputable def impl_swingF (n : Nat) : Fun := { id := 154, sp := impl_swingsp, bs := impl_swingbs, rs := impl_swingrs, f := fun x y => impl_swing n x.1 }

theorem impl_swing_eq (n : Nat) (a0 : Int) : runBody ([]) ty 14 n impl_swingkp impl_swingc Go.Proofs.Try.f154.results.toList impl_swingrs impl_swingsp impl_swingbs (a0, ()) () = impl_swing n a0 := by
  have h : runBody ([]) ty 14 n impl_swingkp impl_swingc Go.Proofs.Try.f154.results.toList impl_swingrs impl_swingsp impl_swingbs (a0, ()) () = impl_swing_t n a0 := by kernel_rfl
  rw [h]
  rfl

theorem impl_swing_ok (n : Nat) : FunOk P (impl_swingF n) :=
  funOk_mk (C := []) (N := 14) (kp := impl_swingkp) (c := impl_swingc) (n := n) (G := fun x y => impl_swing n x.1) follows (AllOk.mem (trivial : AllOk P ([]))) (by kernel_rfl : P.funcs[154]? = some Go.Proofs.Try.f154) (by kernel_rfl) (by kernel_rfl) (by kernel_rfl)
    (fun x y => impl_swing_eq n x.1) (fun _ _ => map_same (fun _ => rfl) _) (fun _ _ _ _ => rfl)

abbrev impl_wrapsp : List Sp := [.v false (.int .i64)]
abbrev impl_wrapbs : List (Bs × Bool) := []
abbrev impl_wraprs : List (Bool × List Rp) := [(false, [.v false (.int .i64)])]
noncomputable def impl_wrapkp : Keep := { loop := fun id => match id with | _ => [], join := fun id => match id with | _ => none }
noncomputable def impl_wrapc : Code := bodyOf Go.Proofs.Try.f100
noncomputable def impl_wrapF (n : Nat) : Fun := { id := 100, sp := impl_wrapsp, bs := impl_wrapbs, rs := impl_wraprs, f := fun x y => impl_wrap n x.1 }

theorem impl_wrap_eq (n : Nat) (a0 : Int) : runBody ([]) ty 7 n impl_wrapkp impl_wrapc Go.Proofs.Try.f100.results.toList impl_wraprs impl_wrapsp impl_wrapbs (a0, ()) () = impl_wrap n a0 := by
  have h : runBody ([]) ty 7 n impl_wrapkp impl_wrapc Go.Proofs.Try.f100.results.toList impl_wraprs impl_wrapsp impl_wrapbs (a0, ()) () = impl_wrap_t n a0 := by kernel_rfl
  rw [h]
  rfl

theorem impl_wrap_ok (n : Nat) : FunOk P (impl_wrapF n) :=
  funOk_mk (C := []) (N := 7) (kp := impl_wrapkp) (c := impl_wrapc) (n := n) (G := fun x y => impl_wrap n x.1) follows (AllOk.mem (trivial : AllOk P ([]))) (by kernel_rfl : P.funcs[100]? = some Go.Proofs.Try.f100) (by kernel_rfl) (by kernel_rfl) (by kernel_rfl)
    (fun x y => impl_wrap_eq n x.1) (fun _ _ => map_same (fun _ => rfl) _) (fun _ _ _ _ => rfl)

abbrev impl_swingAtsp : List Sp := [.v true (.pair (.list (.int .i16)) (.pair (.int .i64) (.int .i64))), .v false (.int .i64)]
abbrev impl_swingAtbs : List (Bs × Bool) := []
abbrev impl_swingAtrs : List (Bool × List Rp) := [(false, [.v false (.int .i64)]), (false, [.v false (.int .i64)])]
noncomputable def impl_swingAtkp : Keep := { loop := fun id => match id with | _ => [], join := fun id => match id with | _ => none }
noncomputable def impl_swingAtc : Code := bodyOf Go.Proofs.Try.f140
noncomputable def impl_swingAtF (n : Nat) : Fun := { id := 140, sp := impl_swingAtsp, bs := impl_swingAtbs, rs := impl_swingAtrs, f := fun x y => impl_swingAt n x.1 x.2.1 }

theorem impl_swingAt_eq (n : Nat) (a0 : (List (Int)) × ((Int) × (Int))) (a1 : Int) : runBody ([impl_swingF n, impl_wrapF n]) ty 19 n impl_swingAtkp impl_swingAtc Go.Proofs.Try.f140.results.toList impl_swingAtrs impl_swingAtsp impl_swingAtbs (a0, (a1, ())) () = impl_swingAt n a0 a1 := by
  have h : runBody ([impl_swingF n, impl_wrapF n]) ty 19 n impl_swingAtkp impl_swingAtc Go.Proofs.Try.f140.results.toList impl_swingAtrs impl_swingAtsp impl_swingAtbs (a0, (a1, ())) () = impl_swingAt_t n a0 a1 := by kernel_rfl
  rw [h]
  rfl

theorem impl_swingAt_ok (n : Nat) : FunOk P (impl_swingAtF n) :=
  funOk_mk (C := [impl_swingF n, impl_wrapF n]) (N := 19) (kp := impl_swingAtkp) (c := impl_swingAtc) (n := n) (G := fun x y => impl_swingAt n x.1 x.2.1) follows (AllOk.mem (⟨impl_swing_ok n, ⟨impl_wrap_ok n, trivial⟩⟩ : AllOk P ([impl_swingF n, impl_wrapF n]))) (by kernel_rfl : P.funcs[140]? = some Go.Proofs.Try.f140) (by kernel_rfl) (by kernel_rfl) (by kernel_rfl)
    (fun x y => impl_swingAt_eq n x.1 x.2.1) (fun _ _ => map_same (fun _ => rfl) _) (fun _ _ _ _ => rfl)

abbrev impl_floorDivsp : List Sp := [.v false (.int .i64), .v false (.int .i64)]
abbrev impl_floorDivbs : List (Bs × Bool) := []
abbrev impl_floorDivrs : List (Bool × List Rp) := [(false, [.v false (.int .i64)])]
noncomputable def impl_floorDivkp : Keep := { loop := fun id => match id with | _ => [], join := fun id => match id with | _ => none }
noncomputable def impl_floorDivc : Code := bodyOf Go.Proofs.Try.f94
noncomputable def impl_floorDivF (n : Nat) : Fun := { id := 94, sp := impl_floorDivsp, bs := impl_floorDivbs, rs := impl_floorDivrs, f := fun x y => impl_floorDiv n x.1 x.2.1 }

theorem impl_floorDiv_eq (n : Nat) (a0 : Int) (a1 : Int) : runBody ([]) ty 23 n impl_floorDivkp impl_floorDivc Go.Proofs.Try.f94.results.toList impl_floorDivrs impl_floorDivsp impl_floorDivbs (a0, (a1, ())) () = impl_floorDiv n a0 a1 := by
  have h : runBody ([]) ty 23 n impl_floorDivkp impl_floorDivc Go.Proofs.Try.f94.results.toList impl_floorDivrs impl_floorDivsp impl_floorDivbs (a0, (a1, ())) () = impl_floorDiv_t n a0 a1 := by kernel_rfl
  rw [h]
  rfl

theorem impl_floorDiv_ok (n : Nat) : FunOk P (impl_floorDivF n) :=
  funOk_mk (C := []) (N := 23) (kp := impl_floorDivkp) (c := impl_floorDivc) (n := n) (G := fun x y => impl_floorDiv n x.1 x.2.1) follows (AllOk.mem (trivial : AllOk P ([]))) (by kernel_rfl : P.funcs[94]? = some Go.Proofs.Try.f94) (by kernel_rfl) (by kernel_rfl) (by kernel_rfl)
    (fun x y => impl_floorDiv_eq n x.1 x.2.1) (fun _ _ => map_same (fun _ => rfl) _) (fun _ _ _ _ => rfl)

abbrev impl_nearestsp : List Sp := [.v false (.int .i64), .v false (.int .i64)]
abbrev impl_nearestbs : List (Bs × Bool) := []
abbrev impl_nearestrs : List (Bool × List Rp) := [(false, [.v false (.int .i64)]), (false, [.v false .bool])]
noncomputable def impl_nearestkp : Keep := { loop := fun id => match id with | _ => [], join := fun id => match id with | _ => none }
noncomputable def impl_nearestc : Code := bodyOf Go.Proofs.Try.f141
noncomputable def impl_nearestF (n : Nat) : Fun := { id := 141, sp := impl_nearestsp, bs := impl_nearestbs, rs := impl_nearestrs, f := fun x y => impl_nearest n x.1 x.2.1 }

theorem impl_nearest_eq (n : Nat) (a0 : Int) (a1 : Int) : runBody ([impl_floorDivF n, impl_withinF n]) ty 17 n impl_nearestkp impl_nearestc Go.Proofs.Try.f141.results.toList impl_nearestrs impl_nearestsp impl_nearestbs (a0, (a1, ())) () = impl_nearest n a0 a1 := by
  have h : runBody ([impl_floorDivF n, impl_withinF n]) ty 17 n impl_nearestkp impl_nearestc Go.Proofs.Try.f141.results.toList impl_nearestrs impl_nearestsp impl_nearestbs (a0, (a1, ())) () = impl_nearest_t n a0 a1 := by kernel_rfl
  rw [h]
  rfl

theorem impl_nearest_ok (n : Nat) : FunOk P (impl_nearestF n) :=
  funOk_mk (C := [impl_floorDivF n, impl_withinF n]) (N := 17) (kp := impl_nearestkp) (c := impl_nearestc) (n := n) (G := fun x y => impl_nearest n x.1 x.2.1) follows (AllOk.mem (⟨impl_floorDiv_ok n, ⟨impl_within_ok n, trivial⟩⟩ : AllOk P ([impl_floorDivF n, impl_withinF n]))) (by kernel_rfl : P.funcs[141]? = some Go.Proofs.Try.f141) (by kernel_rfl) (by kernel_rfl) (by kernel_rfl)
    (fun x y => impl_nearest_eq n x.1 x.2.1) (fun _ _ => map_same (fun _ => rfl) _) (fun _ _ _ _ => rfl)

abbrev impl_headsp : List Sp := [.v true (.pair (.list (.int .i16)) (.pair (.int .i64) (.int .i64))), .v false (.int .i64), .v false (.int .i64)]
abbrev impl_headbs : List (Bs × Bool) := []
abbrev impl_headrs : List (Bool × List Rp) := [(false, [.v false (.int .i64)])]
noncomputable def impl_headkp : Keep := { loop := fun id => match id with | _ => [], join := fun id => match id with | _ => none }
noncomputable def impl_headc : Code := bodyOf Go.Proofs.Try.f99
noncomputable def impl_headF (n : Nat) : Fun := { id := 99, sp := impl_headsp, bs := impl_headbs, rs := impl_headrs, f := fun x y => impl_head n x.1 x.2.1 x.2.2.1 }

theorem impl_head_eq (n : Nat) (a0 : (List (Int)) × ((Int) × (Int))) (a1 : Int) (a2 : Int) : runBody ([impl_faultAtF n, impl_swingAtF n, impl_nearestF n, impl_wrapF n]) ty 51 n impl_headkp impl_headc Go.Proofs.Try.f99.results.toList impl_headrs impl_headsp impl_headbs (a0, (a1, (a2, ()))) () = impl_head n a0 a1 a2 := by
  have h : runBody ([impl_faultAtF n, impl_swingAtF n, impl_nearestF n, impl_wrapF n]) ty 51 n impl_headkp impl_headc Go.Proofs.Try.f99.results.toList impl_headrs impl_headsp impl_headbs (a0, (a1, (a2, ()))) () = impl_head_t n a0 a1 a2 := by kernel_rfl
  rw [h]
  rfl

theorem impl_head_ok (n : Nat) : FunOk P (impl_headF n) :=
  funOk_mk (C := [impl_faultAtF n, impl_swingAtF n, impl_nearestF n, impl_wrapF n]) (N := 51) (kp := impl_headkp) (c := impl_headc) (n := n) (G := fun x y => impl_head n x.1 x.2.1 x.2.2.1) follows (AllOk.mem (⟨impl_faultAt_ok n, ⟨impl_swingAt_ok n, ⟨impl_nearest_ok n, ⟨impl_wrap_ok n, trivial⟩⟩⟩⟩ : AllOk P ([impl_faultAtF n, impl_swingAtF n, impl_nearestF n, impl_wrapF n]))) (by kernel_rfl : P.funcs[99]? = some Go.Proofs.Try.f99) (by kernel_rfl) (by kernel_rfl) (by kernel_rfl)
    (fun x y => impl_head_eq n x.1 x.2.1 x.2.2.1) (fun _ _ => map_same (fun _ => rfl) _) (fun _ _ _ _ => rfl)

abbrev impl_turnFromsp : List Sp := [.v false (.int .i64), .v false (.int .i64)]
abbrev impl_turnFrombs : List (Bs × Bool) := []
abbrev impl_turnFromrs : List (Bool × List Rp) := [(false, [.v false (.int .i64)])]
noncomputable def impl_turnFromkp : Keep := { loop := fun id => match id with | _ => [], join := fun id => match id with | _ => none }
noncomputable def impl_turnFromc : Code := bodyOf Go.Proofs.Try.f98
noncomputable def impl_turnFromF (n : Nat) : Fun := { id := 98, sp := impl_turnFromsp, bs := impl_turnFrombs, rs := impl_turnFromrs, f := fun x y => impl_turnFrom n x.1 x.2.1 }

theorem impl_turnFrom_eq (n : Nat) (a0 : Int) (a1 : Int) : runBody ([impl_wrapF n]) ty 15 n impl_turnFromkp impl_turnFromc Go.Proofs.Try.f98.results.toList impl_turnFromrs impl_turnFromsp impl_turnFrombs (a0, (a1, ())) () = impl_turnFrom n a0 a1 := by
  have h : runBody ([impl_wrapF n]) ty 15 n impl_turnFromkp impl_turnFromc Go.Proofs.Try.f98.results.toList impl_turnFromrs impl_turnFromsp impl_turnFrombs (a0, (a1, ())) () = impl_turnFrom_t n a0 a1 := by kernel_rfl
  rw [h]
  rfl

theorem impl_turnFrom_ok (n : Nat) : FunOk P (impl_turnFromF n) :=
  funOk_mk (C := [impl_wrapF n]) (N := 15) (kp := impl_turnFromkp) (c := impl_turnFromc) (n := n) (G := fun x y => impl_turnFrom n x.1 x.2.1) follows (AllOk.mem (⟨impl_wrap_ok n, trivial⟩ : AllOk P ([impl_wrapF n]))) (by kernel_rfl : P.funcs[98]? = some Go.Proofs.Try.f98) (by kernel_rfl) (by kernel_rfl) (by kernel_rfl)
    (fun x y => impl_turnFrom_eq n x.1 x.2.1) (fun _ _ => map_same (fun _ => rfl) _) (fun _ _ _ _ => rfl)

abbrev impl_WorstHeadsp : List Sp := [.v true (.pair (.list (.int .i16)) (.pair (.int .i64) (.int .i64))), .v false (.list (.int .i64)), .v false (.int .i64)]
abbrev impl_WorstHeadbs : List (Bs × Bool) := []
abbrev impl_WorstHeadrs : List (Bool × List Rp) := [(false, [.v false (.int .i64)]), (false, [.v false (.int .i64)]), (false, [.v false (.int .i64)])]
noncomputable def impl_WorstHeadkp : Keep := { loop := fun id => match id with | 8 => [36, 10, 2, 3, 34, 11, 35] | _ => [], join := fun id => match id with | _ => none }
noncomputable def impl_WorstHeadc : Code := bodyOf Go.Proofs.Try.f46
noncomputable def impl_WorstHeadF (n : Nat) : Fun := { id := 46, sp := impl_WorstHeadsp, bs := impl_WorstHeadbs, rs := impl_WorstHeadrs, f := fun x y => impl_WorstHead n x.1 x.2.1 x.2.2.1 }

theorem impl_WorstHead_l8_eq (n : Nat) : ∀ (k : Nat) (v36 : Int) (v10 : Int) (v2 : Int) (v34 : List (Int)) (v11 : Int) (v35 : Int) (b0_0 : List (Int)) (b0_1 : Int) (b0_2 : Int), iter (interp ([impl_headCodeF n, impl_headF n, impl_turnFromF n]) ty 58 0 n impl_WorstHeadkp (codeAt impl_WorstHeadc [1, 1, 1, 1, 1, 0, 1, 0, 0])) (canon 0 (impl_WorstHeadkp.loop 8)) (kAt ([impl_headCodeF n, impl_headF n, impl_turnFromF n]) ty 58 0 n impl_WorstHeadkp impl_WorstHeadc [1, 1, 1, 1, 1, 0, 1, 0] [] (ending ty 0 Go.Proofs.Try.f46.results.toList impl_WorstHeadrs impl_WorstHeadbs)) k { env := [(36, .one (.sc (.int .i64 v36))), (10, .one (.sc (.int .i64 v10))), (2, .one (.sc (.int .i64 v2))), (3, .one (.ref 0 0 0 0 0 0)), (34, .one (.list true (.int .i64) v34)), (11, .one (.sc (.int .i64 v11))), (35, .one (.sc (.int .i64 v35)))], bx := [(0, .var 62 [.list true (.int .i16) b0_0, .sc (.int .i64 b0_1), .sc (.int .i64 b0_2)])], nx := 1 } = impl_WorstHead_l8 n k v36 v10 v2 v34 v11 v35 b0_0 b0_1 b0_2
  | 0, _, _, _, _, _, _, _, _, _ => by kernel_rfl
  | k + 1, v36, v10, v2, v34, v11, v35, b0_0, b0_1, b0_2 => by
    have h : iter (interp ([impl_headCodeF n, impl_headF n, impl_turnFromF n]) ty 58 0 n impl_WorstHeadkp (codeAt impl_WorstHeadc [1, 1, 1, 1, 1, 0, 1, 0, 0])) (canon 0 (impl_WorstHeadkp.loop 8)) (kAt ([impl_headCodeF n, impl_headF n, impl_turnFromF n]) ty 58 0 n impl_WorstHeadkp impl_WorstHeadc [1, 1, 1, 1, 1, 0, 1, 0] [] (ending ty 0 Go.Proofs.Try.f46.results.toList impl_WorstHeadrs impl_WorstHeadbs)) (k + 1) { env := [(36, .one (.sc (.int .i64 v36))), (10, .one (.sc (.int .i64 v10))), (2, .one (.sc (.int .i64 v2))), (3, .one (.ref 0 0 0 0 0 0)), (34, .one (.list true (.int .i64) v34)), (11, .one (.sc (.int .i64 v11))), (35, .one (.sc (.int .i64 v35)))], bx := [(0, .var 62 [.list true (.int .i16) b0_0, .sc (.int .i64 b0_1), .sc (.int .i64 b0_2)])], nx := 1 } = impl_WorstHead_t8 n (fun v36 v10 v2 v34 v11 v35 b0_0 b0_1 b0_2 => iter (interp ([impl_headCodeF n, impl_headF n, impl_turnFromF n]) ty 58 0 n impl_WorstHeadkp (codeAt impl_WorstHeadc [1, 1, 1, 1, 1, 0, 1, 0, 0])) (canon 0 (impl_WorstHeadkp.loop 8)) (kAt ([impl_headCodeF n, impl_headF n, impl_turnFromF n]) ty 58 0 n impl_WorstHeadkp impl_WorstHeadc [1, 1, 1, 1, 1, 0, 1, 0] [] (ending ty 0 Go.Proofs.Try.f46.results.toList impl_WorstHeadrs impl_WorstHeadbs)) k { env := [(36, .one (.sc (.int .i64 v36))), (10, .one (.sc (.int .i64 v10))), (2, .one (.sc (.int .i64 v2))), (3, .one (.ref 0 0 0 0 0 0)), (34, .one (.list true (.int .i64) v34)), (11, .one (.sc (.int .i64 v11))), (35, .one (.sc (.int .i64 v35)))], bx := [(0, .var 62 [.list true (.int .i16) b0_0, .sc (.int .i64 b0_1), .sc (.int .i64 b0_2)])], nx := 1 }) v36 v10 v2 v34 v11 v35 b0_0 b0_1 b0_2 := by kernel_rfl
    rw [h]
    have e := congrArg (fun g => impl_WorstHead_t8 n g v36 v10 v2 v34 v11 v35 b0_0 b0_1 b0_2) (funext fun v36 => funext fun v10 => funext fun v2 => funext fun v34 => funext fun v11 => funext fun v35 => funext fun b0_0 => funext fun b0_1 => funext fun b0_2 => impl_WorstHead_l8_eq n k v36 v10 v2 v34 v11 v35 b0_0 b0_1 b0_2)
    exact e

theorem impl_WorstHead_eq (n : Nat) (a0 : (List (Int)) × ((Int) × (Int))) (a1 : List (Int)) (a2 : Int) : runBody ([impl_headCodeF n, impl_headF n, impl_turnFromF n]) ty 58 n impl_WorstHeadkp impl_WorstHeadc Go.Proofs.Try.f46.results.toList impl_WorstHeadrs impl_WorstHeadsp impl_WorstHeadbs (a0, (a1, (a2, ()))) () = impl_WorstHead n a0 a1 a2 := by
  have h : runBody ([impl_headCodeF n, impl_headF n, impl_turnFromF n]) ty 58 n impl_WorstHeadkp impl_WorstHeadc Go.Proofs.Try.f46.results.toList impl_WorstHeadrs impl_WorstHeadsp impl_WorstHeadbs (a0, (a1, (a2, ()))) () = impl_WorstHead_t n (fun k v36 v10 v2 v34 v11 v35 b0_0 b0_1 b0_2 => iter (interp ([impl_headCodeF n, impl_headF n, impl_turnFromF n]) ty 58 0 n impl_WorstHeadkp (codeAt impl_WorstHeadc [1, 1, 1, 1, 1, 0, 1, 0, 0])) (canon 0 (impl_WorstHeadkp.loop 8)) (kAt ([impl_headCodeF n, impl_headF n, impl_turnFromF n]) ty 58 0 n impl_WorstHeadkp impl_WorstHeadc [1, 1, 1, 1, 1, 0, 1, 0] [] (ending ty 0 Go.Proofs.Try.f46.results.toList impl_WorstHeadrs impl_WorstHeadbs)) k { env := [(36, .one (.sc (.int .i64 v36))), (10, .one (.sc (.int .i64 v10))), (2, .one (.sc (.int .i64 v2))), (3, .one (.ref 0 0 0 0 0 0)), (34, .one (.list true (.int .i64) v34)), (11, .one (.sc (.int .i64 v11))), (35, .one (.sc (.int .i64 v35)))], bx := [(0, .var 62 [.list true (.int .i16) b0_0, .sc (.int .i64 b0_1), .sc (.int .i64 b0_2)])], nx := 1 }) a0 a1 a2 := by kernel_rfl
  rw [h]
  have e := congrArg (fun h8 => impl_WorstHead_t n h8 a0 a1 a2) (funext fun k => funext fun v36 => funext fun v10 => funext fun v2 => funext fun v34 => funext fun v11 => funext fun v35 => funext fun b0_0 => funext fun b0_1 => funext fun b0_2 => impl_WorstHead_l8_eq n k v36 v10 v2 v34 v11 v35 b0_0 b0_1 b0_2)
  exact e

theorem impl_WorstHead_ok (n : Nat) : FunOk P (impl_WorstHeadF n) :=
  funOk_mk (C := [impl_headCodeF n, impl_headF n, impl_turnFromF n]) (N := 58) (kp := impl_WorstHeadkp) (c := impl_WorstHeadc) (n := n) (G := fun x y => impl_WorstHead n x.1 x.2.1 x.2.2.1) follows (AllOk.mem (⟨impl_headCode_ok n, ⟨impl_head_ok n, ⟨impl_turnFrom_ok n, trivial⟩⟩⟩ : AllOk P ([impl_headCodeF n, impl_headF n, impl_turnFromF n]))) (by kernel_rfl : P.funcs[46]? = some Go.Proofs.Try.f46) (by kernel_rfl) (by kernel_rfl) (by kernel_rfl)
    (fun x y => impl_WorstHead_eq n x.1 x.2.1 x.2.2.1) (fun _ _ => map_same (fun _ => rfl) _) (fun _ _ _ _ => rfl)

abbrev laws_eqInt16Ssp : List Sp := [.v false (.list (.int .i16)), .v false (.list (.int .i16))]
abbrev laws_eqInt16Sbs : List (Bs × Bool) := []
abbrev laws_eqInt16Srs : List (Bool × List Rp) := [(false, [.v false .bool])]
noncomputable def laws_eqInt16Skp : Keep := { loop := fun id => match id with | 4 => [5, 1, 0] | _ => [], join := fun id => match id with | _ => none }
noncomputable def laws_eqInt16Sc : Code := bodyOf Go.Proofs.Try.f110
noncomputable def laws_eqInt16SF (n : Nat) : Fun := { id := 110, sp := laws_eqInt16Ssp, bs := laws_eqInt16Sbs, rs := laws_eqInt16Srs, f := fun x y => laws_eqInt16S n x.1 x.2.1 }

theorem laws_eqInt16S_l4_eq (n : Nat) : ∀ (k : Nat) (v5 : Int) (v1 : List (Int)) (v0 : List (Int)), iter (interp ([]) ty 26 0 n laws_eqInt16Skp (codeAt laws_eqInt16Sc [1, 1, 0, 1, 0, 0])) (canon 0 (laws_eqInt16Skp.loop 4)) (kAt ([]) ty 26 0 n laws_eqInt16Skp laws_eqInt16Sc [1, 1, 0, 1, 0] [] (ending ty 0 Go.Proofs.Try.f110.results.toList laws_eqInt16Srs laws_eqInt16Sbs)) k { env := [(5, .one (.sc (.int .i64 v5))), (1, .one (.list true (.int .i16) v1)), (0, .one (.list true (.int .i16) v0))], bx := [], nx := 0 } = laws_eqInt16S_l4 n k v5 v1 v0
  | 0, _, _, _ => by kernel_rfl
  | k + 1, v5, v1, v0 => by
    have h : iter (interp ([]) ty 26 0 n laws_eqInt16Skp (codeAt laws_eqInt16Sc [1, 1, 0, 1, 0, 0])) (canon 0 (laws_eqInt16Skp.loop 4)) (kAt ([]) ty 26 0 n laws_eqInt16Skp laws_eqInt16Sc [1, 1, 0, 1, 0] [] (ending ty 0 Go.Proofs.Try.f110.results.toList laws_eqInt16Srs laws_eqInt16Sbs)) (k + 1) { env := [(5, .one (.sc (.int .i64 v5))), (1, .one (.list true (.int .i16) v1)), (0, .one (.list true (.int .i16) v0))], bx := [], nx := 0 } = laws_eqInt16S_t4 n (fun v5 v1 v0 => iter (interp ([]) ty 26 0 n laws_eqInt16Skp (codeAt laws_eqInt16Sc [1, 1, 0, 1, 0, 0])) (canon 0 (laws_eqInt16Skp.loop 4)) (kAt ([]) ty 26 0 n laws_eqInt16Skp laws_eqInt16Sc [1, 1, 0, 1, 0] [] (ending ty 0 Go.Proofs.Try.f110.results.toList laws_eqInt16Srs laws_eqInt16Sbs)) k { env := [(5, .one (.sc (.int .i64 v5))), (1, .one (.list true (.int .i16) v1)), (0, .one (.list true (.int .i16) v0))], bx := [], nx := 0 }) v5 v1 v0 := by kernel_rfl
    rw [h]
    have e := congrArg (fun g => laws_eqInt16S_t4 n g v5 v1 v0) (funext fun v5 => funext fun v1 => funext fun v0 => laws_eqInt16S_l4_eq n k v5 v1 v0)
    exact e

theorem laws_eqInt16S_eq (n : Nat) (a0 : List (Int)) (a1 : List (Int)) : runBody ([]) ty 26 n laws_eqInt16Skp laws_eqInt16Sc Go.Proofs.Try.f110.results.toList laws_eqInt16Srs laws_eqInt16Ssp laws_eqInt16Sbs (a0, (a1, ())) () = laws_eqInt16S n a0 a1 := by
  have h : runBody ([]) ty 26 n laws_eqInt16Skp laws_eqInt16Sc Go.Proofs.Try.f110.results.toList laws_eqInt16Srs laws_eqInt16Ssp laws_eqInt16Sbs (a0, (a1, ())) () = laws_eqInt16S_t n (fun k v5 v1 v0 => iter (interp ([]) ty 26 0 n laws_eqInt16Skp (codeAt laws_eqInt16Sc [1, 1, 0, 1, 0, 0])) (canon 0 (laws_eqInt16Skp.loop 4)) (kAt ([]) ty 26 0 n laws_eqInt16Skp laws_eqInt16Sc [1, 1, 0, 1, 0] [] (ending ty 0 Go.Proofs.Try.f110.results.toList laws_eqInt16Srs laws_eqInt16Sbs)) k { env := [(5, .one (.sc (.int .i64 v5))), (1, .one (.list true (.int .i16) v1)), (0, .one (.list true (.int .i16) v0))], bx := [], nx := 0 }) a0 a1 := by kernel_rfl
  rw [h]
  have e := congrArg (fun h4 => laws_eqInt16S_t n h4 a0 a1) (funext fun k => funext fun v5 => funext fun v1 => funext fun v0 => laws_eqInt16S_l4_eq n k v5 v1 v0)
  exact e

theorem laws_eqInt16S_ok (n : Nat) : FunOk P (laws_eqInt16SF n) :=
  funOk_mk (C := []) (N := 26) (kp := laws_eqInt16Skp) (c := laws_eqInt16Sc) (n := n) (G := fun x y => laws_eqInt16S n x.1 x.2.1) follows (AllOk.mem (trivial : AllOk P ([]))) (by kernel_rfl : P.funcs[110]? = some Go.Proofs.Try.f110) (by kernel_rfl) (by kernel_rfl) (by kernel_rfl)
    (fun x y => laws_eqInt16S_eq n x.1 x.2.1) (fun _ _ => map_same (fun _ => rfl) _) (fun _ _ _ _ => rfl)

abbrev laws_eqDisksp : List Sp := [.v true (.pair (.list (.int .i16)) (.pair (.int .i64) (.int .i64))), .v true (.pair (.list (.int .i16)) (.pair (.int .i64) (.int .i64)))]
abbrev laws_eqDiskbs : List (Bs × Bool) := []
abbrev laws_eqDiskrs : List (Bool × List Rp) := [(false, [.v false .bool])]
noncomputable def laws_eqDiskkp : Keep := { loop := fun id => match id with | _ => [], join := fun id => match id with | _ => none }
noncomputable def laws_eqDiskc : Code := bodyOf Go.Proofs.Try.f47
noncomputable def laws_eqDiskF (n : Nat) : Fun := { id := 47, sp := laws_eqDisksp, bs := laws_eqDiskbs, rs := laws_eqDiskrs, f := fun x y => laws_eqDisk n x.1 x.2.1 }

theorem laws_eqDisk_eq (n : Nat) (a0 : (List (Int)) × ((Int) × (Int))) (a1 : (List (Int)) × ((Int) × (Int))) : runBody ([laws_eqInt16SF n]) ty 21 n laws_eqDiskkp laws_eqDiskc Go.Proofs.Try.f47.results.toList laws_eqDiskrs laws_eqDisksp laws_eqDiskbs (a0, (a1, ())) () = laws_eqDisk n a0 a1 := by
  have h : runBody ([laws_eqInt16SF n]) ty 21 n laws_eqDiskkp laws_eqDiskc Go.Proofs.Try.f47.results.toList laws_eqDiskrs laws_eqDisksp laws_eqDiskbs (a0, (a1, ())) () = laws_eqDisk_t n a0 a1 := by kernel_rfl
  rw [h]
  rfl

theorem laws_eqDisk_ok (n : Nat) : FunOk P (laws_eqDiskF n) :=
  funOk_mk (C := [laws_eqInt16SF n]) (N := 21) (kp := laws_eqDiskkp) (c := laws_eqDiskc) (n := n) (G := fun x y => laws_eqDisk n x.1 x.2.1) follows (AllOk.mem (⟨laws_eqInt16S_ok n, trivial⟩ : AllOk P ([laws_eqInt16SF n]))) (by kernel_rfl : P.funcs[47]? = some Go.Proofs.Try.f47) (by kernel_rfl) (by kernel_rfl) (by kernel_rfl)
    (fun x y => laws_eqDisk_eq n x.1 x.2.1) (fun _ _ => map_same (fun _ => rfl) _) (fun _ _ _ _ => rfl)

abbrev laws_eqInt64Ssp : List Sp := [.v false (.list (.int .i64)), .v false (.list (.int .i64))]
abbrev laws_eqInt64Sbs : List (Bs × Bool) := []
abbrev laws_eqInt64Srs : List (Bool × List Rp) := [(false, [.v false .bool])]
noncomputable def laws_eqInt64Skp : Keep := { loop := fun id => match id with | 4 => [5, 1, 0] | _ => [], join := fun id => match id with | _ => none }
noncomputable def laws_eqInt64Sc : Code := bodyOf Go.Proofs.Try.f48
noncomputable def laws_eqInt64SF (n : Nat) : Fun := { id := 48, sp := laws_eqInt64Ssp, bs := laws_eqInt64Sbs, rs := laws_eqInt64Srs, f := fun x y => laws_eqInt64S n x.1 x.2.1 }

theorem laws_eqInt64S_l4_eq (n : Nat) : ∀ (k : Nat) (v5 : Int) (v1 : List (Int)) (v0 : List (Int)), iter (interp ([]) ty 26 0 n laws_eqInt64Skp (codeAt laws_eqInt64Sc [1, 1, 0, 1, 0, 0])) (canon 0 (laws_eqInt64Skp.loop 4)) (kAt ([]) ty 26 0 n laws_eqInt64Skp laws_eqInt64Sc [1, 1, 0, 1, 0] [] (ending ty 0 Go.Proofs.Try.f48.results.toList laws_eqInt64Srs laws_eqInt64Sbs)) k { env := [(5, .one (.sc (.int .i64 v5))), (1, .one (.list true (.int .i64) v1)), (0, .one (.list true (.int .i64) v0))], bx := [], nx := 0 } = laws_eqInt64S_l4 n k v5 v1 v0
  | 0, _, _, _ => by kernel_rfl
  | k + 1, v5, v1, v0 => by
    have h : iter (interp ([]) ty 26 0 n laws_eqInt64Skp (codeAt laws_eqInt64Sc [1, 1, 0, 1, 0, 0])) (canon 0 (laws_eqInt64Skp.loop 4)) (kAt ([]) ty 26 0 n laws_eqInt64Skp laws_eqInt64Sc [1, 1, 0, 1, 0] [] (ending ty 0 Go.Proofs.Try.f48.results.toList laws_eqInt64Srs laws_eqInt64Sbs)) (k + 1) { env := [(5, .one (.sc (.int .i64 v5))), (1, .one (.list true (.int .i64) v1)), (0, .one (.list true (.int .i64) v0))], bx := [], nx := 0 } = laws_eqInt64S_t4 n (fun v5 v1 v0 => iter (interp ([]) ty 26 0 n laws_eqInt64Skp (codeAt laws_eqInt64Sc [1, 1, 0, 1, 0, 0])) (canon 0 (laws_eqInt64Skp.loop 4)) (kAt ([]) ty 26 0 n laws_eqInt64Skp laws_eqInt64Sc [1, 1, 0, 1, 0] [] (ending ty 0 Go.Proofs.Try.f48.results.toList laws_eqInt64Srs laws_eqInt64Sbs)) k { env := [(5, .one (.sc (.int .i64 v5))), (1, .one (.list true (.int .i64) v1)), (0, .one (.list true (.int .i64) v0))], bx := [], nx := 0 }) v5 v1 v0 := by kernel_rfl
    rw [h]
    have e := congrArg (fun g => laws_eqInt64S_t4 n g v5 v1 v0) (funext fun v5 => funext fun v1 => funext fun v0 => laws_eqInt64S_l4_eq n k v5 v1 v0)
    exact e

theorem laws_eqInt64S_eq (n : Nat) (a0 : List (Int)) (a1 : List (Int)) : runBody ([]) ty 26 n laws_eqInt64Skp laws_eqInt64Sc Go.Proofs.Try.f48.results.toList laws_eqInt64Srs laws_eqInt64Ssp laws_eqInt64Sbs (a0, (a1, ())) () = laws_eqInt64S n a0 a1 := by
  have h : runBody ([]) ty 26 n laws_eqInt64Skp laws_eqInt64Sc Go.Proofs.Try.f48.results.toList laws_eqInt64Srs laws_eqInt64Ssp laws_eqInt64Sbs (a0, (a1, ())) () = laws_eqInt64S_t n (fun k v5 v1 v0 => iter (interp ([]) ty 26 0 n laws_eqInt64Skp (codeAt laws_eqInt64Sc [1, 1, 0, 1, 0, 0])) (canon 0 (laws_eqInt64Skp.loop 4)) (kAt ([]) ty 26 0 n laws_eqInt64Skp laws_eqInt64Sc [1, 1, 0, 1, 0] [] (ending ty 0 Go.Proofs.Try.f48.results.toList laws_eqInt64Srs laws_eqInt64Sbs)) k { env := [(5, .one (.sc (.int .i64 v5))), (1, .one (.list true (.int .i64) v1)), (0, .one (.list true (.int .i64) v0))], bx := [], nx := 0 }) a0 a1 := by kernel_rfl
  rw [h]
  have e := congrArg (fun h4 => laws_eqInt64S_t n h4 a0 a1) (funext fun k => funext fun v5 => funext fun v1 => funext fun v0 => laws_eqInt64S_l4_eq n k v5 v1 v0)
  exact e

theorem laws_eqInt64S_ok (n : Nat) : FunOk P (laws_eqInt64SF n) :=
  funOk_mk (C := []) (N := 26) (kp := laws_eqInt64Skp) (c := laws_eqInt64Sc) (n := n) (G := fun x y => laws_eqInt64S n x.1 x.2.1) follows (AllOk.mem (trivial : AllOk P ([]))) (by kernel_rfl : P.funcs[48]? = some Go.Proofs.Try.f48) (by kernel_rfl) (by kernel_rfl) (by kernel_rfl)
    (fun x y => laws_eqInt64S_eq n x.1 x.2.1) (fun _ _ => map_same (fun _ => rfl) _) (fun _ _ _ _ => rfl)

abbrev laws_FnExactWorstHeadsp : List Sp := [.v true (.pair (.list (.int .i16)) (.pair (.int .i64) (.int .i64))), .v false (.list (.int .i64)), .v false (.int .i64)]
abbrev laws_FnExactWorstHeadbs : List (Bs × Bool) := []
abbrev laws_FnExactWorstHeadrs : List (Bool × List Rp) := [(false, [.v false .bool])]
noncomputable def laws_FnExactWorstHeadkp : Keep := { loop := fun id => match id with | _ => [], join := fun id => match id with | _ => none }
noncomputable def laws_FnExactWorstHeadc : Code := bodyOf Go.Proofs.Try.f8
noncomputable def laws_FnExactWorstHeadF (n : Nat) : Fun := { id := 8, sp := laws_FnExactWorstHeadsp, bs := laws_FnExactWorstHeadbs, rs := laws_FnExactWorstHeadrs, f := fun x y => laws_FnExactWorstHead n x.1 x.2.1 x.2.2.1 }

theorem laws_FnExactWorstHead_eq (n : Nat) (a0 : (List (Int)) × ((Int) × (Int))) (a1 : List (Int)) (a2 : Int) : runBody ([laws_szDiskF n, laws_toDiskF n, laws_toInt64SF n, spec_WorstHeadF n, impl_WorstHeadF n, laws_eqDiskF n, laws_eqInt64SF n]) ty 69 n laws_FnExactWorstHeadkp laws_FnExactWorstHeadc Go.Proofs.Try.f8.results.toList laws_FnExactWorstHeadrs laws_FnExactWorstHeadsp laws_FnExactWorstHeadbs (a0, (a1, (a2, ()))) () = laws_FnExactWorstHead n a0 a1 a2 := by
  have h : runBody ([laws_szDiskF n, laws_toDiskF n, laws_toInt64SF n, spec_WorstHeadF n, impl_WorstHeadF n, laws_eqDiskF n, laws_eqInt64SF n]) ty 69 n laws_FnExactWorstHeadkp laws_FnExactWorstHeadc Go.Proofs.Try.f8.results.toList laws_FnExactWorstHeadrs laws_FnExactWorstHeadsp laws_FnExactWorstHeadbs (a0, (a1, (a2, ()))) () = laws_FnExactWorstHead_t n a0 a1 a2 := by kernel_rfl
  rw [h]
  rfl

theorem laws_FnExactWorstHead_ok (n : Nat) : FunOk P (laws_FnExactWorstHeadF n) :=
  funOk_mk (C := [laws_szDiskF n, laws_toDiskF n, laws_toInt64SF n, spec_WorstHeadF n, impl_WorstHeadF n, laws_eqDiskF n, laws_eqInt64SF n]) (N := 69) (kp := laws_FnExactWorstHeadkp) (c := laws_FnExactWorstHeadc) (n := n) (G := fun x y => laws_FnExactWorstHead n x.1 x.2.1 x.2.2.1) follows (AllOk.mem (⟨laws_szDisk_ok n, ⟨laws_toDisk_ok n, ⟨laws_toInt64S_ok n, ⟨spec_WorstHead_ok n, ⟨impl_WorstHead_ok n, ⟨laws_eqDisk_ok n, ⟨laws_eqInt64S_ok n, trivial⟩⟩⟩⟩⟩⟩⟩ : AllOk P ([laws_szDiskF n, laws_toDiskF n, laws_toInt64SF n, spec_WorstHeadF n, impl_WorstHeadF n, laws_eqDiskF n, laws_eqInt64SF n]))) (by kernel_rfl : P.funcs[8]? = some Go.Proofs.Try.f8) (by kernel_rfl) (by kernel_rfl) (by kernel_rfl)
    (fun x y => laws_FnExactWorstHead_eq n x.1 x.2.1 x.2.2.1) (fun _ _ => map_same (fun _ => rfl) _) (fun _ _ _ _ => rfl)

end Go.Abs
