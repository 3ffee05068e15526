import Derived.Test.YtbajjjhagabdnaaDBestRepeats0
import Derived.Test.YtbajjjhagabdnaaProg
import Derived.Test.YtbajjjhagabdnaaRow
import Derived.KernelRfl
namespace Go.Abs
open Go.Proofs
set_option maxRecDepth 100000
set_option linter.unusedVariables false

noncomputable abbrev P : Program := Try.prog
noncomputable abbrev ty : Nat → Option TyI := tyOf P
def bodyOf (f : Func) : Code := match f.body with | some c => c | none => .skip
theorem follows : P.follows .mixedOrders = true := by kernel_rfl

abbrev laws_szInt16Ssp : List Sp := [.v false (.list (.int .i16)), .v false (.int .i64)]
abbrev laws_szInt16Sbs : List (Bs × Bool) := []
abbrev laws_szInt16Srs : List (Bool × List Rp) := [(false, [.v false (.int .i64)])]
noncomputable def laws_szInt16Skp : Keep := { loop := fun id => match id with | _ => [], join := fun id => match id with | _ => none }
noncomputable def laws_szInt16Sc : Code := bodyOf Go.Proofs.Try.f134
noncomputable def laws_szInt16SF (n : Nat) : Fun := { id := 134, sp := laws_szInt16Ssp, bs := laws_szInt16Sbs, rs := laws_szInt16Srs, f := fun x y => laws_szInt16S n x.1 x.2.1 }

theorem laws_szInt16S_eq (n : Nat) (a0 : List (Int)) (a1 : Int) : runBody ([]) ty 12 n laws_szInt16Skp laws_szInt16Sc Go.Proofs.Try.f134.results.toList laws_szInt16Srs laws_szInt16Ssp laws_szInt16Sbs (a0, (a1, ())) () = laws_szInt16S n a0 a1 := by
  have h : runBody ([]) ty 12 n laws_szInt16Skp laws_szInt16Sc Go.Proofs.Try.f134.results.toList laws_szInt16Srs laws_szInt16Ssp laws_szInt16Sbs (a0, (a1, ())) () = laws_szInt16S_t n a0 a1 := by kernel_rfl
  rw [h]
  rfl

theorem laws_szInt16S_ok (n : Nat) : FunOk P (laws_szInt16SF n) :=
  funOk_mk (C := []) (N := 12) (kp := laws_szInt16Skp) (c := laws_szInt16Sc) (n := n) (G := fun x y => laws_szInt16S n x.1 x.2.1) follows (AllOk.mem (trivial : AllOk P ([]))) (by kernel_rfl : P.funcs[134]? = some Go.Proofs.Try.f134) (by kernel_rfl) (by kernel_rfl) (by kernel_rfl)
    (fun x y => laws_szInt16S_eq n x.1 x.2.1) (fun _ _ => map_same (fun _ => rfl) _) (fun _ _ _ _ => rfl)

abbrev laws_szDisksp : List Sp := [.v true (.pair (.list (.int .i16)) (.pair (.int .i64) (.int .i64))), .v false (.int .i64)]
abbrev laws_szDiskbs : List (Bs × Bool) := []
abbrev laws_szDiskrs : List (Bool × List Rp) := [(false, [.v false (.int .i64)])]
noncomputable def laws_szDiskkp : Keep := { loop := fun id => match id with | _ => [], join := fun id => match id with | _ => none }
noncomputable def laws_szDiskc : Code := bodyOf Go.Proofs.Try.f54
noncomputable def laws_szDiskF (n : Nat) : Fun := { id := 54, sp := laws_szDisksp, bs := laws_szDiskbs, rs := laws_szDiskrs, f := fun x y => laws_szDisk n x.1 x.2.1 }

theorem laws_szDisk_eq (n : Nat) (a0 : (List (Int)) × ((Int) × (Int))) (a1 : Int) : runBody ([laws_szInt16SF n]) ty 12 n laws_szDiskkp laws_szDiskc Go.Proofs.Try.f54.results.toList laws_szDiskrs laws_szDisksp laws_szDiskbs (a0, (a1, ())) () = laws_szDisk n a0 a1 := by
  have h : runBody ([laws_szInt16SF n]) ty 12 n laws_szDiskkp laws_szDiskc Go.Proofs.Try.f54.results.toList laws_szDiskrs laws_szDisksp laws_szDiskbs (a0, (a1, ())) () = laws_szDisk_t n a0 a1 := by kernel_rfl
  rw [h]
  rfl

theorem laws_szDisk_ok (n : Nat) : FunOk P (laws_szDiskF n) :=
  funOk_mk (C := [laws_szInt16SF n]) (N := 12) (kp := laws_szDiskkp) (c := laws_szDiskc) (n := n) (G := fun x y => laws_szDisk n x.1 x.2.1) follows (AllOk.mem (⟨laws_szInt16S_ok n, trivial⟩ : AllOk P ([laws_szInt16SF n]))) (by kernel_rfl : P.funcs[54]? = some Go.Proofs.Try.f54) (by kernel_rfl) (by kernel_rfl) (by kernel_rfl)
    (fun x y => laws_szDisk_eq n x.1 x.2.1) (fun _ _ => map_same (fun _ => rfl) _) (fun _ _ _ _ => rfl)

abbrev laws_toInt16Ssp : List Sp := [.v false (.list (.int .i16))]
abbrev laws_toInt16Sbs : List (Bs × Bool) := []
abbrev laws_toInt16Srs : List (Bool × List Rp) := [(false, [.new  (.int .i16)])]
noncomputable def laws_toInt16Skp : Keep := { loop := fun id => match id with | 3 => [4, 0, 3] | _ => [], join := fun id => match id with | _ => none }
noncomputable def laws_toInt16Sc : Code := bodyOf Go.Proofs.Try.f137
noncomputable def laws_toInt16SF (n : Nat) : Fun := { id := 137, sp := laws_toInt16Ssp, bs := laws_toInt16Sbs, rs := laws_toInt16Srs, f := fun x y => laws_toInt16S n x.1 }

theorem laws_toInt16S_l3_eq (n : Nat) : ∀ (k : Nat) (v4 : Int) (v0 : List (Int)) (b0 : List (Int)), iter (interp ([]) ty 22 0 n laws_toInt16Skp (codeAt laws_toInt16Sc [1, 1, 0, 1, 0, 0])) (canon 0 (laws_toInt16Skp.loop 3)) (kAt ([]) ty 22 0 n laws_toInt16Skp laws_toInt16Sc [1, 1, 0, 1, 0] [] (ending ty 0 Go.Proofs.Try.f137.results.toList laws_toInt16Srs laws_toInt16Sbs)) k { env := [(4, .one (.sc (.int .i64 v4))), (0, .one (.list true (.int .i16) v0)), (3, .one (.slice 0 0 none))], bx := [(0, .row 0 (.int .i16) b0)], nx := 1 } = laws_toInt16S_l3 n k v4 v0 b0
  | 0, _, _, _ => by kernel_rfl
  | k + 1, v4, v0, b0 => by
    have h : iter (interp ([]) ty 22 0 n laws_toInt16Skp (codeAt laws_toInt16Sc [1, 1, 0, 1, 0, 0])) (canon 0 (laws_toInt16Skp.loop 3)) (kAt ([]) ty 22 0 n laws_toInt16Skp laws_toInt16Sc [1, 1, 0, 1, 0] [] (ending ty 0 Go.Proofs.Try.f137.results.toList laws_toInt16Srs laws_toInt16Sbs)) (k + 1) { env := [(4, .one (.sc (.int .i64 v4))), (0, .one (.list true (.int .i16) v0)), (3, .one (.slice 0 0 none))], bx := [(0, .row 0 (.int .i16) b0)], nx := 1 } = laws_toInt16S_t3 n (fun v4 v0 b0 => iter (interp ([]) ty 22 0 n laws_toInt16Skp (codeAt laws_toInt16Sc [1, 1, 0, 1, 0, 0])) (canon 0 (laws_toInt16Skp.loop 3)) (kAt ([]) ty 22 0 n laws_toInt16Skp laws_toInt16Sc [1, 1, 0, 1, 0] [] (ending ty 0 Go.Proofs.Try.f137.results.toList laws_toInt16Srs laws_toInt16Sbs)) k { env := [(4, .one (.sc (.int .i64 v4))), (0, .one (.list true (.int .i16) v0)), (3, .one (.slice 0 0 none))], bx := [(0, .row 0 (.int .i16) b0)], nx := 1 }) v4 v0 b0 := by kernel_rfl
    rw [h]
    have e := congrArg (fun g => laws_toInt16S_t3 n g v4 v0 b0) (funext fun v4 => funext fun v0 => funext fun b0 => laws_toInt16S_l3_eq n k v4 v0 b0)
    exact e

theorem laws_toInt16S_eq (n : Nat) (a0 : List (Int)) : runBody ([]) ty 22 n laws_toInt16Skp laws_toInt16Sc Go.Proofs.Try.f137.results.toList laws_toInt16Srs laws_toInt16Ssp laws_toInt16Sbs (a0, ()) () = laws_toInt16S n a0 := by
  have h : runBody ([]) ty 22 n laws_toInt16Skp laws_toInt16Sc Go.Proofs.Try.f137.results.toList laws_toInt16Srs laws_toInt16Ssp laws_toInt16Sbs (a0, ()) () = laws_toInt16S_t n (fun k v4 v0 b0 => iter (interp ([]) ty 22 0 n laws_toInt16Skp (codeAt laws_toInt16Sc [1, 1, 0, 1, 0, 0])) (canon 0 (laws_toInt16Skp.loop 3)) (kAt ([]) ty 22 0 n laws_toInt16Skp laws_toInt16Sc [1, 1, 0, 1, 0] [] (ending ty 0 Go.Proofs.Try.f137.results.toList laws_toInt16Srs laws_toInt16Sbs)) k { env := [(4, .one (.sc (.int .i64 v4))), (0, .one (.list true (.int .i16) v0)), (3, .one (.slice 0 0 none))], bx := [(0, .row 0 (.int .i16) b0)], nx := 1 }) a0 := by kernel_rfl
  rw [h]
  have e := congrArg (fun h3 => laws_toInt16S_t n h3 a0) (funext fun k => funext fun v4 => funext fun v0 => funext fun b0 => laws_toInt16S_l3_eq n k v4 v0 b0)
  exact e

theorem laws_toInt16S_ok (n : Nat) : FunOk P (laws_toInt16SF n) :=
  funOk_mk (C := []) (N := 22) (kp := laws_toInt16Skp) (c := laws_toInt16Sc) (n := n) (G := fun x y => laws_toInt16S n x.1) follows (AllOk.mem (trivial : AllOk P ([]))) (by kernel_rfl : P.funcs[137]? = some Go.Proofs.Try.f137) (by kernel_rfl) (by kernel_rfl) (by kernel_rfl)
    (fun x y => laws_toInt16S_eq n x.1) (fun _ _ => map_same (fun _ => rfl) _) (fun _ _ _ _ => rfl)

abbrev laws_toDisksp : List Sp := [.v true (.pair (.list (.int .i16)) (.pair (.int .i64) (.int .i64)))]
abbrev laws_toDiskbs : List (Bs × Bool) := []
abbrev laws_toDiskrs : List (Bool × List Rp) := [(true, [.v false (.pair (.list (.int .i16)) (.pair (.int .i64) (.int .i64)))])]
noncomputable def laws_toDiskkp : Keep := { loop := fun id => match id with | _ => [], join := fun id => match id with | _ => none }
noncomputable def laws_toDiskc : Code := bodyOf Go.Proofs.Try.f56
noncomputable def laws_toDiskF (n : Nat) : Fun := { id := 56, sp := laws_toDisksp, bs := laws_toDiskbs, rs := laws_toDiskrs, f := fun x y => laws_toDisk n x.1 }

theorem laws_toDisk_eq (n : Nat) (a0 : (List (Int)) × ((Int) × (Int))) : runBody ([laws_toInt16SF n]) ty 15 n laws_toDiskkp laws_toDiskc Go.Proofs.Try.f56.results.toList laws_toDiskrs laws_toDisksp laws_toDiskbs (a0, ()) () = laws_toDisk n a0 := by
  have h : runBody ([laws_toInt16SF n]) ty 15 n laws_toDiskkp laws_toDiskc Go.Proofs.Try.f56.results.toList laws_toDiskrs laws_toDisksp laws_toDiskbs (a0, ()) () = laws_toDisk_t n a0 := by kernel_rfl
  rw [h]
  rfl

theorem laws_toDisk_ok (n : Nat) : FunOk P (laws_toDiskF n) :=
  funOk_mk (C := [laws_toInt16SF n]) (N := 15) (kp := laws_toDiskkp) (c := laws_toDiskc) (n := n) (G := fun x y => laws_toDisk n x.1) follows (AllOk.mem (⟨laws_toInt16S_ok n, trivial⟩ : AllOk P ([laws_toInt16SF n]))) (by kernel_rfl : P.funcs[56]? = some Go.Proofs.Try.f56) (by kernel_rfl) (by kernel_rfl) (by kernel_rfl)
    (fun x y => laws_toDisk_eq n x.1) (fun _ _ => map_same (fun _ => rfl) _) (fun _ _ _ _ => rfl)

abbrev spec_l00Insp : List Sp := [.v false (.int .i64), .v false (.int .i64), .v false (.int .i64)]
abbrev spec_l00Inbs : List (Bs × Bool) := []
abbrev spec_l00Inrs : List (Bool × List Rp) := [(false, [.v false .bool])]
noncomputable def spec_l00Inkp : Keep := { loop := fun id => match id with | _ => [], join := fun id => match id with | _ => none }
noncomputable def spec_l00Inc : Code := bodyOf Go.Proofs.Try.f94
noncomputable def spec_l00InF (n : Nat) : Fun := { id := 94, sp := spec_l00Insp, bs := spec_l00Inbs, rs := spec_l00Inrs, f := fun x y => spec_l00In n x.1 x.2.1 x.2.2.1 }

theorem spec_l00In_eq (n : Nat) (a0 : Int) (a1 : Int) (a2 : Int) : runBody ([]) ty 15 n spec_l00Inkp spec_l00Inc Go.Proofs.Try.f94.results.toList spec_l00Inrs spec_l00Insp spec_l00Inbs (a0, (a1, (a2, ()))) () = spec_l00In n a0 a1 a2 := by
  have h : runBody ([]) ty 15 n spec_l00Inkp spec_l00Inc Go.Proofs.Try.f94.results.toList spec_l00Inrs spec_l00Insp spec_l00Inbs (a0, (a1, (a2, ()))) () = spec_l00In_t n a0 a1 a2 := by kernel_rfl
  rw [h]
  rfl

theorem spec_l00In_ok (n : Nat) : FunOk P (spec_l00InF n) :=
  funOk_mk (C := []) (N := 15) (kp := spec_l00Inkp) (c := spec_l00Inc) (n := n) (G := fun x y => spec_l00In n x.1 x.2.1 x.2.2.1) follows (AllOk.mem (trivial : AllOk P ([]))) (by kernel_rfl : P.funcs[94]? = some Go.Proofs.Try.f94) (by kernel_rfl) (by kernel_rfl) (by kernel_rfl)
    (fun x y => spec_l00In_eq n x.1 x.2.1 x.2.2.1) (fun _ _ => map_same (fun _ => rfl) _) (fun _ _ _ _ => rfl)

abbrev spec_l03Oksp : List Sp := [.ref 0]
abbrev spec_l03Okbs : List (Bs × Bool) := [(.var 26 (.pair (.list (.int .i16)) (.pair (.int .i64) (.int .i64))), true)]
abbrev spec_l03Okrs : List (Bool × List Rp) := [(false, [.v false .bool])]
noncomputable def spec_l03Okkp : Keep := { loop := fun id => match id with | 5 => [4, 0] | _ => [], join := fun id => match id with | _ => none }
noncomputable def spec_l03Okc : Code := bodyOf Go.Proofs.Try.f93
noncomputable def spec_l03OkF (n : Nat) : Fun := { id := 93, sp := spec_l03Oksp, bs := spec_l03Okbs, rs := spec_l03Okrs, f := fun x y => spec_l03Ok n y.1 }

theorem spec_l03Ok_l5_eq (n : Nat) : ∀ (k : Nat) (v4 : Int) (b0_0 : List (Int)) (b0_1 : Int) (b0_2 : Int), iter (interp ([spec_l00InF n]) ty 49 1 n spec_l03Okkp (codeAt spec_l03Okc [1, 1, 1, 0, 1, 0, 0])) (canon 1 (spec_l03Okkp.loop 5)) (kAt ([spec_l00InF n]) ty 49 1 n spec_l03Okkp spec_l03Okc [1, 1, 1, 0, 1, 0] [] (ending ty 1 Go.Proofs.Try.f93.results.toList spec_l03Okrs spec_l03Okbs)) k { env := [(4, .one (.sc (.int .i64 v4))), (0, .one (.ref 0 0 0 0 0 0))], bx := [(0, .var 26 [.list true (.int .i16) b0_0, .sc (.int .i64 b0_1), .sc (.int .i64 b0_2)])], nx := 1 } = spec_l03Ok_l5 n k v4 b0_0 b0_1 b0_2
  | 0, _, _, _, _ => by kernel_rfl
  | k + 1, v4, b0_0, b0_1, b0_2 => by
    have h : iter (interp ([spec_l00InF n]) ty 49 1 n spec_l03Okkp (codeAt spec_l03Okc [1, 1, 1, 0, 1, 0, 0])) (canon 1 (spec_l03Okkp.loop 5)) (kAt ([spec_l00InF n]) ty 49 1 n spec_l03Okkp spec_l03Okc [1, 1, 1, 0, 1, 0] [] (ending ty 1 Go.Proofs.Try.f93.results.toList spec_l03Okrs spec_l03Okbs)) (k + 1) { env := [(4, .one (.sc (.int .i64 v4))), (0, .one (.ref 0 0 0 0 0 0))], bx := [(0, .var 26 [.list true (.int .i16) b0_0, .sc (.int .i64 b0_1), .sc (.int .i64 b0_2)])], nx := 1 } = spec_l03Ok_t5 n (fun v4 b0_0 b0_1 b0_2 => iter (interp ([spec_l00InF n]) ty 49 1 n spec_l03Okkp (codeAt spec_l03Okc [1, 1, 1, 0, 1, 0, 0])) (canon 1 (spec_l03Okkp.loop 5)) (kAt ([spec_l00InF n]) ty 49 1 n spec_l03Okkp spec_l03Okc [1, 1, 1, 0, 1, 0] [] (ending ty 1 Go.Proofs.Try.f93.results.toList spec_l03Okrs spec_l03Okbs)) k { env := [(4, .one (.sc (.int .i64 v4))), (0, .one (.ref 0 0 0 0 0 0))], bx := [(0, .var 26 [.list true (.int .i16) b0_0, .sc (.int .i64 b0_1), .sc (.int .i64 b0_2)])], nx := 1 }) v4 b0_0 b0_1 b0_2 := by kernel_rfl
    rw [h]
    have e := congrArg (fun g => spec_l03Ok_t5 n g v4 b0_0 b0_1 b0_2) (funext fun v4 => funext fun b0_0 => funext fun b0_1 => funext fun b0_2 => spec_l03Ok_l5_eq n k v4 b0_0 b0_1 b0_2)
    exact e

theorem spec_l03Ok_eq (n : Nat) (b0 : (List (Int)) × ((Int) × (Int))) : runBody ([spec_l00InF n]) ty 49 n spec_l03Okkp spec_l03Okc Go.Proofs.Try.f93.results.toList spec_l03Okrs spec_l03Oksp spec_l03Okbs ((), ()) (b0, ()) = spec_l03Ok n b0 := by
  have h : runBody ([spec_l00InF n]) ty 49 n spec_l03Okkp spec_l03Okc Go.Proofs.Try.f93.results.toList spec_l03Okrs spec_l03Oksp spec_l03Okbs ((), ()) (b0, ()) = spec_l03Ok_t n (fun k v4 b0_0 b0_1 b0_2 => iter (interp ([spec_l00InF n]) ty 49 1 n spec_l03Okkp (codeAt spec_l03Okc [1, 1, 1, 0, 1, 0, 0])) (canon 1 (spec_l03Okkp.loop 5)) (kAt ([spec_l00InF n]) ty 49 1 n spec_l03Okkp spec_l03Okc [1, 1, 1, 0, 1, 0] [] (ending ty 1 Go.Proofs.Try.f93.results.toList spec_l03Okrs spec_l03Okbs)) k { env := [(4, .one (.sc (.int .i64 v4))), (0, .one (.ref 0 0 0 0 0 0))], bx := [(0, .var 26 [.list true (.int .i16) b0_0, .sc (.int .i64 b0_1), .sc (.int .i64 b0_2)])], nx := 1 }) b0 := by kernel_rfl
  rw [h]
  have e := congrArg (fun h5 => spec_l03Ok_t n h5 b0) (funext fun k => funext fun v4 => funext fun b0_0 => funext fun b0_1 => funext fun b0_2 => spec_l03Ok_l5_eq n k v4 b0_0 b0_1 b0_2)
  exact e

theorem spec_l03Ok_ok (n : Nat) : FunOk P (spec_l03OkF n) :=
  funOk_mk (C := [spec_l00InF n]) (N := 49) (kp := spec_l03Okkp) (c := spec_l03Okc) (n := n) (G := fun x y => spec_l03Ok n y.1) follows (AllOk.mem (⟨spec_l00In_ok n, trivial⟩ : AllOk P ([spec_l00InF n]))) (by kernel_rfl : P.funcs[93]? = some Go.Proofs.Try.f93) (by kernel_rfl) (by kernel_rfl) (by kernel_rfl)
    (fun x y => spec_l03Ok_eq n y.1) (fun _ _ => map_same (fun _ => rfl) _) (fun _ _ _ _ => rfl)

abbrev spec_l03Anglesp : List Sp := [.v false (.int .i64)]
abbrev spec_l03Anglebs : List (Bs × Bool) := []
abbrev spec_l03Anglers : List (Bool × List Rp) := [(false, [.v false .bool])]
noncomputable def spec_l03Anglekp : Keep := { loop := fun id => match id with | _ => [], join := fun id => match id with | _ => none }
noncomputable def spec_l03Anglec : Code := bodyOf Go.Proofs.Try.f187
noncomputable def spec_l03AngleF (n : Nat) : Fun := { id := 187, sp := spec_l03Anglesp, bs := spec_l03Anglebs, rs := spec_l03Anglers, f := fun x y => spec_l03Angle n x.1 }

theorem spec_l03Angle_eq (n : Nat) (a0 : Int) : runBody ([spec_l00InF n]) ty 5 n spec_l03Anglekp spec_l03Anglec Go.Proofs.Try.f187.results.toList spec_l03Anglers spec_l03Anglesp spec_l03Anglebs (a0, ()) () = spec_l03Angle n a0 := by
  have h : runBody ([spec_l00InF n]) ty 5 n spec_l03Anglekp spec_l03Anglec Go.Proofs.Try.f187.results.toList spec_l03Anglers spec_l03Anglesp spec_l03Anglebs (a0, ()) () = spec_l03Angle_t n a0 := by kernel_rfl
  rw [h]
  rfl

theorem spec_l03Angle_ok (n : Nat) : FunOk P (spec_l03AngleF n) :=
  funOk_mk (C := [spec_l00InF n]) (N := 5) (kp := spec_l03Anglekp) (c := spec_l03Anglec) (n := n) (G := fun x y => spec_l03Angle n x.1) follows (AllOk.mem (⟨spec_l00In_ok n, trivial⟩ : AllOk P ([spec_l00InF n]))) (by kernel_rfl : P.funcs[187]? = some Go.Proofs.Try.f187) (by kernel_rfl) (by kernel_rfl) (by kernel_rfl)
    (fun x y => spec_l03Angle_eq n x.1) (fun _ _ => map_same (fun _ => rfl) _) (fun _ _ _ _ => rfl)

abbrev spec_l03Repeatedsp : List Sp := [.ref 0, .v false (.int .i64), .v false (.int .i64), .v false (.int .i64), .v false (.int .i64)]
abbrev spec_l03Repeatedbs : List (Bs × Bool) := [(.var 26 (.pair (.list (.int .i16)) (.pair (.int .i64) (.int .i64))), true)]
abbrev spec_l03Repeatedrs : List (Bool × List Rp) := [(false, [.v false (.int .i64)])]
noncomputable def spec_l03Repeatedkp : Keep := { loop := fun id => match id with | _ => [], join := fun id => match id with | _ => none }
noncomputable def spec_l03Repeatedc : Code := bodyOf Go.Proofs.Try.f135
noncomputable def spec_l03RepeatedF (n : Nat) : Fun := { id := 135, sp := spec_l03Repeatedsp, bs := spec_l03Repeatedbs, rs := spec_l03Repeatedrs, f := fun x y => spec_l03Repeated n x.2.1 x.2.2.1 x.2.2.2.1 x.2.2.2.2.1 y.1 }

theorem spec_l03Repeated_eq (n : Nat) (a1 : Int) (a2 : Int) (a3 : Int) (a4 : Int) (b0 : (List (Int)) × ((Int) × (Int))) : runBody ([spec_l03OkF n, spec_l03AngleF n, spec_l00InF n]) ty 32 n spec_l03Repeatedkp spec_l03Repeatedc Go.Proofs.Try.f135.results.toList spec_l03Repeatedrs spec_l03Repeatedsp spec_l03Repeatedbs ((), (a1, (a2, (a3, (a4, ()))))) (b0, ()) = spec_l03Repeated n a1 a2 a3 a4 b0 := by
  have h : runBody ([spec_l03OkF n, spec_l03AngleF n, spec_l00InF n]) ty 32 n spec_l03Repeatedkp spec_l03Repeatedc Go.Proofs.Try.f135.results.toList spec_l03Repeatedrs spec_l03Repeatedsp spec_l03Repeatedbs ((), (a1, (a2, (a3, (a4, ()))))) (b0, ()) = spec_l03Repeated_t n a1 a2 a3 a4 b0 := by kernel_rfl
  rw [h]
  rfl

theorem spec_l03Repeated_ok (n : Nat) : FunOk P (spec_l03RepeatedF n) :=
  funOk_mk (C := [spec_l03OkF n, spec_l03AngleF n, spec_l00InF n]) (N := 32) (kp := spec_l03Repeatedkp) (c := spec_l03Repeatedc) (n := n) (G := fun x y => spec_l03Repeated n x.2.1 x.2.2.1 x.2.2.2.1 x.2.2.2.2.1 y.1) follows (AllOk.mem (⟨spec_l03Ok_ok n, ⟨spec_l03Angle_ok n, ⟨spec_l00In_ok n, trivial⟩⟩⟩ : AllOk P ([spec_l03OkF n, spec_l03AngleF n, spec_l00InF n]))) (by kernel_rfl : P.funcs[135]? = some Go.Proofs.Try.f135) (by kernel_rfl) (by kernel_rfl) (by kernel_rfl)
    (fun x y => spec_l03Repeated_eq n x.2.1 x.2.2.1 x.2.2.2.1 x.2.2.2.2.1 y.1) (fun _ _ => map_same (fun _ => rfl) _) (fun _ _ _ _ => rfl)

abbrev spec_l03Faultsp : List Sp := [.ref 0, .v false (.int .i64)]
abbrev spec_l03Faultbs : List (Bs × Bool) := [(.var 26 (.pair (.list (.int .i16)) (.pair (.int .i64) (.int .i64))), true)]
abbrev spec_l03Faultrs : List (Bool × List Rp) := [(false, [.v false (.int .i64)]), (false, [.v false (.int .i64)])]
noncomputable def spec_l03Faultkp : Keep := { loop := fun id => match id with | _ => [], join := fun id => match id with | _ => none }
noncomputable def spec_l03Faultc : Code := bodyOf Go.Proofs.Try.f120
noncomputable def spec_l03FaultF (n : Nat) : Fun := { id := 120, sp := spec_l03Faultsp, bs := spec_l03Faultbs, rs := spec_l03Faultrs, f := fun x y => spec_l03Fault n x.2.1 y.1 }

theorem spec_l03Fault_eq (n : Nat) (a1 : Int) (b0 : (List (Int)) × ((Int) × (Int))) : runBody ([]) ty 54 n spec_l03Faultkp spec_l03Faultc Go.Proofs.Try.f120.results.toList spec_l03Faultrs spec_l03Faultsp spec_l03Faultbs ((), (a1, ())) (b0, ()) = spec_l03Fault n a1 b0 := by
  have h : runBody ([]) ty 54 n spec_l03Faultkp spec_l03Faultc Go.Proofs.Try.f120.results.toList spec_l03Faultrs spec_l03Faultsp spec_l03Faultbs ((), (a1, ())) (b0, ()) = spec_l03Fault_t n a1 b0 := by kernel_rfl
  rw [h]
  rfl

theorem spec_l03Fault_ok (n : Nat) : FunOk P (spec_l03FaultF n) :=
  funOk_mk (C := []) (N := 54) (kp := spec_l03Faultkp) (c := spec_l03Faultc) (n := n) (G := fun x y => spec_l03Fault n x.2.1 y.1) follows (AllOk.mem (trivial : AllOk P ([]))) (by kernel_rfl : P.funcs[120]? = some Go.Proofs.Try.f120) (by kernel_rfl) (by kernel_rfl) (by kernel_rfl)
    (fun x y => spec_l03Fault_eq n x.2.1 y.1) (fun _ _ => map_same (fun _ => rfl) _) (fun _ _ _ _ => rfl)

abbrev spec_l03Swingsp : List Sp := [.v false (.int .i64)]
abbrev spec_l03Swingbs : List (Bs × Bool) := []
abbrev spec_l03Swingrs : List (Bool × List Rp) := [(false, [.v false (.int .i64)])]
noncomputable def spec_l03Swingkp : Keep := { loop := fun id => match id with | _ => [], join := fun id => match id with | _ => none }
noncomputable def spec_l03Swingc : Code := bodyOf Go.Proofs.Try.f193
noncomputable def spec_l03SwingF (n : Nat) : Fun := { id := 193, sp := spec_l03Swingsp, bs := spec_l03Swingbs, rs := spec_l03Swingrs, f := fun x y => spec_l03Swing n x.1 }

theorem spec_l03Swing_eq (n : Nat) (a0 : Int) : runBody ([]) ty 12 n spec_l03Swingkp spec_l03Swingc Go.Proofs.Try.f193.results.toList spec_l03Swingrs spec_l03Swingsp spec_l03Swingbs (a0, ()) () = spec_l03Swing n a0 := by
  have h : runBody ([]) ty 12 n spec_l03Swingkp spec_l03Swingc Go.Proofs.Try.f193.results.toList spec_l03Swingrs spec_l03Swingsp spec_l03Swingbs (a0, ()) () = spec_l03Swing_t n a0 := by kernel_rfl
  rw [h]
  rfl

theorem spec_l03Swing_ok (n : Nat) : FunOk P (spec_l03SwingF n) :=
  funOk_mk (C := []) (N := 12) (kp := spec_l03Swingkp) (c := spec_l03Swingc) (n := n) (G := fun x y => spec_l03Swing n x.1) follows (AllOk.mem (trivial : AllOk P ([]))) (by kernel_rfl : P.funcs[193]? = some Go.Proofs.Try.f193) (by kernel_rfl) (by kernel_rfl) (by kernel_rfl)
    (fun x y => spec_l03Swing_eq n x.1) (fun _ _ => map_same (fun _ => rfl) _) (fun _ _ _ _ => rfl)

abbrev spec_l03Wrapsp : List Sp := [.v false (.int .i64)]
abbrev spec_l03Wrapbs : List (Bs × Bool) := []
abbrev spec_l03Wraprs : List (Bool × List Rp) := [(false, [.v false (.int .i64)])]
noncomputable def spec_l03Wrapkp : Keep := { loop := fun id => match id with | _ => [], join := fun id => match id with | _ => none }
noncomputable def spec_l03Wrapc : Code := bodyOf Go.Proofs.Try.f96
noncomputable def spec_l03WrapF (n : Nat) : Fun := { id := 96, sp := spec_l03Wrapsp, bs := spec_l03Wrapbs, rs := spec_l03Wraprs, f := fun x y => spec_l03Wrap n x.1 }

theorem spec_l03Wrap_eq (n : Nat) (a0 : Int) : runBody ([]) ty 10 n spec_l03Wrapkp spec_l03Wrapc Go.Proofs.Try.f96.results.toList spec_l03Wraprs spec_l03Wrapsp spec_l03Wrapbs (a0, ()) () = spec_l03Wrap n a0 := by
  have h : runBody ([]) ty 10 n spec_l03Wrapkp spec_l03Wrapc Go.Proofs.Try.f96.results.toList spec_l03Wraprs spec_l03Wrapsp spec_l03Wrapbs (a0, ()) () = spec_l03Wrap_t n a0 := by kernel_rfl
  rw [h]
  rfl

theorem spec_l03Wrap_ok (n : Nat) : FunOk P (spec_l03WrapF n) :=
  funOk_mk (C := []) (N := 10) (kp := spec_l03Wrapkp) (c := spec_l03Wrapc) (n := n) (G := fun x y => spec_l03Wrap n x.1) follows (AllOk.mem (trivial : AllOk P ([]))) (by kernel_rfl : P.funcs[96]? = some Go.Proofs.Try.f96) (by kernel_rfl) (by kernel_rfl) (by kernel_rfl)
    (fun x y => spec_l03Wrap_eq n x.1) (fun _ _ => map_same (fun _ => rfl) _) (fun _ _ _ _ => rfl)

abbrev spec_l03Offsp : List Sp := [.ref 0, .v false (.int .i64)]
abbrev spec_l03Offbs : List (Bs × Bool) := [(.var 26 (.pair (.list (.int .i16)) (.pair (.int .i64) (.int .i64))), true)]
abbrev spec_l03Offrs : List (Bool × List Rp) := [(false, [.v false (.int .i64)])]
noncomputable def spec_l03Offkp : Keep := { loop := fun id => match id with | _ => [], join := fun id => match id with | _ => none }
noncomputable def spec_l03Offc : Code := bodyOf Go.Proofs.Try.f128
noncomputable def spec_l03OffF (n : Nat) : Fun := { id := 128, sp := spec_l03Offsp, bs := spec_l03Offbs, rs := spec_l03Offrs, f := fun x y => spec_l03Off n x.2.1 y.1 }

theorem spec_l03Off_eq (n : Nat) (a1 : Int) (b0 : (List (Int)) × ((Int) × (Int))) : runBody ([spec_l03SwingF n, spec_l03WrapF n]) ty 22 n spec_l03Offkp spec_l03Offc Go.Proofs.Try.f128.results.toList spec_l03Offrs spec_l03Offsp spec_l03Offbs ((), (a1, ())) (b0, ()) = spec_l03Off n a1 b0 := by
  have h : runBody ([spec_l03SwingF n, spec_l03WrapF n]) ty 22 n spec_l03Offkp spec_l03Offc Go.Proofs.Try.f128.results.toList spec_l03Offrs spec_l03Offsp spec_l03Offbs ((), (a1, ())) (b0, ()) = spec_l03Off_t n a1 b0 := by kernel_rfl
  rw [h]
  rfl

theorem spec_l03Off_ok (n : Nat) : FunOk P (spec_l03OffF n) :=
  funOk_mk (C := [spec_l03SwingF n, spec_l03WrapF n]) (N := 22) (kp := spec_l03Offkp) (c := spec_l03Offc) (n := n) (G := fun x y => spec_l03Off n x.2.1 y.1) follows (AllOk.mem (⟨spec_l03Swing_ok n, ⟨spec_l03Wrap_ok n, trivial⟩⟩ : AllOk P ([spec_l03SwingF n, spec_l03WrapF n]))) (by kernel_rfl : P.funcs[128]? = some Go.Proofs.Try.f128) (by kernel_rfl) (by kernel_rfl) (by kernel_rfl)
    (fun x y => spec_l03Off_eq n x.2.1 y.1) (fun _ _ => map_same (fun _ => rfl) _) (fun _ _ _ _ => rfl)

abbrev spec_l01Downsp : List Sp := [.v false (.int .i64), .v false (.int .i64)]
abbrev spec_l01Downbs : List (Bs × Bool) := []
abbrev spec_l01Downrs : List (Bool × List Rp) := [(false, [.v false (.int .i64)])]
noncomputable def spec_l01Downkp : Keep := { loop := fun id => match id with | _ => [], join := fun id => match id with | _ => none }
noncomputable def spec_l01Downc : Code := bodyOf Go.Proofs.Try.f171
noncomputable def spec_l01DownF (n : Nat) : Fun := { id := 171, sp := spec_l01Downsp, bs := spec_l01Downbs, rs := spec_l01Downrs, f := fun x y => spec_l01Down n x.1 x.2.1 }

theorem spec_l01Down_eq (n : Nat) (a0 : Int) (a1 : Int) : runBody ([]) ty 16 n spec_l01Downkp spec_l01Downc Go.Proofs.Try.f171.results.toList spec_l01Downrs spec_l01Downsp spec_l01Downbs (a0, (a1, ())) () = spec_l01Down n a0 a1 := by
  have h : runBody ([]) ty 16 n spec_l01Downkp spec_l01Downc Go.Proofs.Try.f171.results.toList spec_l01Downrs spec_l01Downsp spec_l01Downbs (a0, (a1, ())) () = spec_l01Down_t n a0 a1 := by kernel_rfl
  rw [h]
  rfl

theorem spec_l01Down_ok (n : Nat) : FunOk P (spec_l01DownF n) :=
  funOk_mk (C := []) (N := 16) (kp := spec_l01Downkp) (c := spec_l01Downc) (n := n) (G := fun x y => spec_l01Down n x.1 x.2.1) follows (AllOk.mem (trivial : AllOk P ([]))) (by kernel_rfl : P.funcs[171]? = some Go.Proofs.Try.f171) (by kernel_rfl) (by kernel_rfl) (by kernel_rfl)
    (fun x y => spec_l01Down_eq n x.1 x.2.1) (fun _ _ => map_same (fun _ => rfl) _) (fun _ _ _ _ => rfl)

abbrev spec_l03Headsp : List Sp := [.ref 0, .v false (.int .i64), .v false (.int .i64)]
abbrev spec_l03Headbs : List (Bs × Bool) := [(.var 26 (.pair (.list (.int .i16)) (.pair (.int .i64) (.int .i64))), true)]
abbrev spec_l03Headrs : List (Bool × List Rp) := [(false, [.v false (.int .i64)])]
noncomputable def spec_l03Headkp : Keep := { loop := fun id => match id with | _ => [], join := fun id => match id with | _ => none }
noncomputable def spec_l03Headc : Code := bodyOf Go.Proofs.Try.f95
noncomputable def spec_l03HeadF (n : Nat) : Fun := { id := 95, sp := spec_l03Headsp, bs := spec_l03Headbs, rs := spec_l03Headrs, f := fun x y => spec_l03Head n x.2.1 x.2.2.1 y.1 }

theorem spec_l03Head_eq (n : Nat) (a1 : Int) (a2 : Int) (b0 : (List (Int)) × ((Int) × (Int))) : runBody ([spec_l03FaultF n, spec_l03OffF n, spec_l01DownF n, spec_l03WrapF n]) ty 44 n spec_l03Headkp spec_l03Headc Go.Proofs.Try.f95.results.toList spec_l03Headrs spec_l03Headsp spec_l03Headbs ((), (a1, (a2, ()))) (b0, ()) = spec_l03Head n a1 a2 b0 := by
  have h : runBody ([spec_l03FaultF n, spec_l03OffF n, spec_l01DownF n, spec_l03WrapF n]) ty 44 n spec_l03Headkp spec_l03Headc Go.Proofs.Try.f95.results.toList spec_l03Headrs spec_l03Headsp spec_l03Headbs ((), (a1, (a2, ()))) (b0, ()) = spec_l03Head_t n a1 a2 b0 := by kernel_rfl
  rw [h]
  rfl

theorem spec_l03Head_ok (n : Nat) : FunOk P (spec_l03HeadF n) :=
  funOk_mk (C := [spec_l03FaultF n, spec_l03OffF n, spec_l01DownF n, spec_l03WrapF n]) (N := 44) (kp := spec_l03Headkp) (c := spec_l03Headc) (n := n) (G := fun x y => spec_l03Head n x.2.1 x.2.2.1 y.1) follows (AllOk.mem (⟨spec_l03Fault_ok n, ⟨spec_l03Off_ok n, ⟨spec_l01Down_ok n, ⟨spec_l03Wrap_ok n, trivial⟩⟩⟩⟩ : AllOk P ([spec_l03FaultF n, spec_l03OffF n, spec_l01DownF n, spec_l03WrapF n]))) (by kernel_rfl : P.funcs[95]? = some Go.Proofs.Try.f95) (by kernel_rfl) (by kernel_rfl) (by kernel_rfl)
    (fun x y => spec_l03Head_eq n x.2.1 x.2.2.1 y.1) (fun _ _ => map_same (fun _ => rfl) _) (fun _ _ _ _ => rfl)

abbrev spec_l03Turnsp : List Sp := [.v false (.int .i64), .v false (.int .i64)]
abbrev spec_l03Turnbs : List (Bs × Bool) := []
abbrev spec_l03Turnrs : List (Bool × List Rp) := [(false, [.v false (.int .i64)])]
noncomputable def spec_l03Turnkp : Keep := { loop := fun id => match id with | _ => [], join := fun id => match id with | _ => none }
noncomputable def spec_l03Turnc : Code := bodyOf Go.Proofs.Try.f97
noncomputable def spec_l03TurnF (n : Nat) : Fun := { id := 97, sp := spec_l03Turnsp, bs := spec_l03Turnbs, rs := spec_l03Turnrs, f := fun x y => spec_l03Turn n x.1 x.2.1 }

theorem spec_l03Turn_eq (n : Nat) (a0 : Int) (a1 : Int) : runBody ([spec_l03WrapF n]) ty 15 n spec_l03Turnkp spec_l03Turnc Go.Proofs.Try.f97.results.toList spec_l03Turnrs spec_l03Turnsp spec_l03Turnbs (a0, (a1, ())) () = spec_l03Turn n a0 a1 := by
  have h : runBody ([spec_l03WrapF n]) ty 15 n spec_l03Turnkp spec_l03Turnc Go.Proofs.Try.f97.results.toList spec_l03Turnrs spec_l03Turnsp spec_l03Turnbs (a0, (a1, ())) () = spec_l03Turn_t n a0 a1 := by kernel_rfl
  rw [h]
  rfl

theorem spec_l03Turn_ok (n : Nat) : FunOk P (spec_l03TurnF n) :=
  funOk_mk (C := [spec_l03WrapF n]) (N := 15) (kp := spec_l03Turnkp) (c := spec_l03Turnc) (n := n) (G := fun x y => spec_l03Turn n x.1 x.2.1) follows (AllOk.mem (⟨spec_l03Wrap_ok n, trivial⟩ : AllOk P ([spec_l03WrapF n]))) (by kernel_rfl : P.funcs[97]? = some Go.Proofs.Try.f97) (by kernel_rfl) (by kernel_rfl) (by kernel_rfl)
    (fun x y => spec_l03Turn_eq n x.1 x.2.1) (fun _ _ => map_same (fun _ => rfl) _) (fun _ _ _ _ => rfl)

abbrev spec_l01Abssp : List Sp := [.v false (.int .i64)]
abbrev spec_l01Absbs : List (Bs × Bool) := []
abbrev spec_l01Absrs : List (Bool × List Rp) := [(false, [.v false (.int .i64)])]
noncomputable def spec_l01Abskp : Keep := { loop := fun id => match id with | _ => [], join := fun id => match id with | _ => none }
noncomputable def spec_l01Absc : Code := bodyOf Go.Proofs.Try.f141
noncomputable def spec_l01AbsF (n : Nat) : Fun := { id := 141, sp := spec_l01Abssp, bs := spec_l01Absbs, rs := spec_l01Absrs, f := fun x y => spec_l01Abs n x.1 }

theorem spec_l01Abs_eq (n : Nat) (a0 : Int) : runBody ([]) ty 8 n spec_l01Abskp spec_l01Absc Go.Proofs.Try.f141.results.toList spec_l01Absrs spec_l01Abssp spec_l01Absbs (a0, ()) () = spec_l01Abs n a0 := by
  have h : runBody ([]) ty 8 n spec_l01Abskp spec_l01Absc Go.Proofs.Try.f141.results.toList spec_l01Absrs spec_l01Abssp spec_l01Absbs (a0, ()) () = spec_l01Abs_t n a0 := by kernel_rfl
  rw [h]
  rfl

theorem spec_l01Abs_ok (n : Nat) : FunOk P (spec_l01AbsF n) :=
  funOk_mk (C := []) (N := 8) (kp := spec_l01Abskp) (c := spec_l01Absc) (n := n) (G := fun x y => spec_l01Abs n x.1) follows (AllOk.mem (trivial : AllOk P ([]))) (by kernel_rfl : P.funcs[141]? = some Go.Proofs.Try.f141) (by kernel_rfl) (by kernel_rfl) (by kernel_rfl)
    (fun x y => spec_l01Abs_eq n x.1) (fun _ _ => map_same (fun _ => rfl) _) (fun _ _ _ _ => rfl)

abbrev spec_l01Gcdsp : List Sp := [.v false (.int .i64), .v false (.int .i64)]
abbrev spec_l01Gcdbs : List (Bs × Bool) := []
abbrev spec_l01Gcdrs : List (Bool × List Rp) := [(false, [.v false (.int .i64)])]
noncomputable def spec_l01Gcdkp : Keep := { loop := fun id => match id with | 1 => [1, 0] | _ => [], join := fun id => match id with | _ => none }
noncomputable def spec_l01Gcdc : Code := bodyOf Go.Proofs.Try.f188
noncomputable def spec_l01GcdF (n : Nat) : Fun := { id := 188, sp := spec_l01Gcdsp, bs := spec_l01Gcdbs, rs := spec_l01Gcdrs, f := fun x y => spec_l01Gcd n x.1 x.2.1 }

theorem spec_l01Gcd_l1_eq (n : Nat) : ∀ (k : Nat) (v1 : Int) (v0 : Int), iter (interp ([]) ty 14 0 n spec_l01Gcdkp (codeAt spec_l01Gcdc [1, 0, 0, 0])) (canon 0 (spec_l01Gcdkp.loop 1)) (kAt ([]) ty 14 0 n spec_l01Gcdkp spec_l01Gcdc [1, 0, 0] [] (ending ty 0 Go.Proofs.Try.f188.results.toList spec_l01Gcdrs spec_l01Gcdbs)) k { env := [(1, .one (.sc (.int .i64 v1))), (0, .one (.sc (.int .i64 v0)))], bx := [], nx := 0 } = spec_l01Gcd_l1 n k v1 v0
  | 0, _, _ => by kernel_rfl
  | k + 1, v1, v0 => by
    have h : iter (interp ([]) ty 14 0 n spec_l01Gcdkp (codeAt spec_l01Gcdc [1, 0, 0, 0])) (canon 0 (spec_l01Gcdkp.loop 1)) (kAt ([]) ty 14 0 n spec_l01Gcdkp spec_l01Gcdc [1, 0, 0] [] (ending ty 0 Go.Proofs.Try.f188.results.toList spec_l01Gcdrs spec_l01Gcdbs)) (k + 1) { env := [(1, .one (.sc (.int .i64 v1))), (0, .one (.sc (.int .i64 v0)))], bx := [], nx := 0 } = spec_l01Gcd_t1 n (fun v1 v0 => iter (interp ([]) ty 14 0 n spec_l01Gcdkp (codeAt spec_l01Gcdc [1, 0, 0, 0])) (canon 0 (spec_l01Gcdkp.loop 1)) (kAt ([]) ty 14 0 n spec_l01Gcdkp spec_l01Gcdc [1, 0, 0] [] (ending ty 0 Go.Proofs.Try.f188.results.toList spec_l01Gcdrs spec_l01Gcdbs)) k { env := [(1, .one (.sc (.int .i64 v1))), (0, .one (.sc (.int .i64 v0)))], bx := [], nx := 0 }) v1 v0 := by kernel_rfl
    rw [h]
    have e := congrArg (fun g => spec_l01Gcd_t1 n g v1 v0) (funext fun v1 => funext fun v0 => spec_l01Gcd_l1_eq n k v1 v0)
    exact e

theorem spec_l01Gcd_eq (n : Nat) (a0 : Int) (a1 : Int) : runBody ([]) ty 14 n spec_l01Gcdkp spec_l01Gcdc Go.Proofs.Try.f188.results.toList spec_l01Gcdrs spec_l01Gcdsp spec_l01Gcdbs (a0, (a1, ())) () = spec_l01Gcd n a0 a1 := by
  have h : runBody ([]) ty 14 n spec_l01Gcdkp spec_l01Gcdc Go.Proofs.Try.f188.results.toList spec_l01Gcdrs spec_l01Gcdsp spec_l01Gcdbs (a0, (a1, ())) () = spec_l01Gcd_t n (fun k v1 v0 => iter (interp ([]) ty 14 0 n spec_l01Gcdkp (codeAt spec_l01Gcdc [1, 0, 0, 0])) (canon 0 (spec_l01Gcdkp.loop 1)) (kAt ([]) ty 14 0 n spec_l01Gcdkp spec_l01Gcdc [1, 0, 0] [] (ending ty 0 Go.Proofs.Try.f188.results.toList spec_l01Gcdrs spec_l01Gcdbs)) k { env := [(1, .one (.sc (.int .i64 v1))), (0, .one (.sc (.int .i64 v0)))], bx := [], nx := 0 }) a0 a1 := by kernel_rfl
  rw [h]
  have e := congrArg (fun h1 => spec_l01Gcd_t n h1 a0 a1) (funext fun k => funext fun v1 => funext fun v0 => spec_l01Gcd_l1_eq n k v1 v0)
  exact e

theorem spec_l01Gcd_ok (n : Nat) : FunOk P (spec_l01GcdF n) :=
  funOk_mk (C := []) (N := 14) (kp := spec_l01Gcdkp) (c := spec_l01Gcdc) (n := n) (G := fun x y => spec_l01Gcd n x.1 x.2.1) follows (AllOk.mem (trivial : AllOk P ([]))) (by kernel_rfl : P.funcs[188]? = some Go.Proofs.Try.f188) (by kernel_rfl) (by kernel_rfl) (by kernel_rfl)
    (fun x y => spec_l01Gcd_eq n x.1 x.2.1) (fun _ _ => map_same (fun _ => rfl) _) (fun _ _ _ _ => rfl)

abbrev spec_l01Oksp : List Sp := [.v true (.pair (.int .i64) (.int .i64))]
abbrev spec_l01Okbs : List (Bs × Bool) := []
abbrev spec_l01Okrs : List (Bool × List Rp) := [(false, [.v false .bool])]
noncomputable def spec_l01Okkp : Keep := { loop := fun id => match id with | _ => [], join := fun id => match id with | _ => none }
noncomputable def spec_l01Okc : Code := bodyOf Go.Proofs.Try.f130
noncomputable def spec_l01OkF (n : Nat) : Fun := { id := 130, sp := spec_l01Oksp, bs := spec_l01Okbs, rs := spec_l01Okrs, f := fun x y => spec_l01Ok n x.1 }

theorem spec_l01Ok_eq (n : Nat) (a0 : (Int) × (Int)) : runBody ([spec_l00InF n, spec_l01AbsF n, spec_l01GcdF n]) ty 20 n spec_l01Okkp spec_l01Okc Go.Proofs.Try.f130.results.toList spec_l01Okrs spec_l01Oksp spec_l01Okbs (a0, ()) () = spec_l01Ok n a0 := by
  have h : runBody ([spec_l00InF n, spec_l01AbsF n, spec_l01GcdF n]) ty 20 n spec_l01Okkp spec_l01Okc Go.Proofs.Try.f130.results.toList spec_l01Okrs spec_l01Oksp spec_l01Okbs (a0, ()) () = spec_l01Ok_t n a0 := by kernel_rfl
  rw [h]
  rfl

theorem spec_l01Ok_ok (n : Nat) : FunOk P (spec_l01OkF n) :=
  funOk_mk (C := [spec_l00InF n, spec_l01AbsF n, spec_l01GcdF n]) (N := 20) (kp := spec_l01Okkp) (c := spec_l01Okc) (n := n) (G := fun x y => spec_l01Ok n x.1) follows (AllOk.mem (⟨spec_l00In_ok n, ⟨spec_l01Abs_ok n, ⟨spec_l01Gcd_ok n, trivial⟩⟩⟩ : AllOk P ([spec_l00InF n, spec_l01AbsF n, spec_l01GcdF n]))) (by kernel_rfl : P.funcs[130]? = some Go.Proofs.Try.f130) (by kernel_rfl) (by kernel_rfl) (by kernel_rfl)
    (fun x y => spec_l01Ok_eq n x.1) (fun _ _ => map_same (fun _ => rfl) _) (fun _ _ _ _ => rfl)

abbrev spec_l01Reducedsp : List Sp := [.v false (.int .i64), .v false (.int .i64)]
abbrev spec_l01Reducedbs : List (Bs × Bool) := []
abbrev spec_l01Reducedrs : List (Bool × List Rp) := [(true, [.v false (.pair (.int .i64) (.int .i64))]), (false, [.v false (.int .i64)])]
noncomputable def spec_l01Reducedkp : Keep := { loop := fun id => match id with | _ => [], join := fun id => match id with | _ => none }
noncomputable def spec_l01Reducedc : Code := bodyOf Go.Proofs.Try.f121
noncomputable def spec_l01ReducedF (n : Nat) : Fun := { id := 121, sp := spec_l01Reducedsp, bs := spec_l01Reducedbs, rs := spec_l01Reducedrs, f := fun x y => spec_l01Reduced n x.1 x.2.1 }

theorem spec_l01Reduced_eq (n : Nat) (a0 : Int) (a1 : Int) : runBody ([spec_l01AbsF n, spec_l01GcdF n, spec_l01OkF n]) ty 33 n spec_l01Reducedkp spec_l01Reducedc Go.Proofs.Try.f121.results.toList spec_l01Reducedrs spec_l01Reducedsp spec_l01Reducedbs (a0, (a1, ())) () = spec_l01Reduced n a0 a1 := by
  have h : runBody ([spec_l01AbsF n, spec_l01GcdF n, spec_l01OkF n]) ty 33 n spec_l01Reducedkp spec_l01Reducedc Go.Proofs.Try.f121.results.toList spec_l01Reducedrs spec_l01Reducedsp spec_l01Reducedbs (a0, (a1, ())) () = spec_l01Reduced_t n a0 a1 := by kernel_rfl
  rw [h]
  rfl

theorem spec_l01Reduced_ok (n : Nat) : FunOk P (spec_l01ReducedF n) :=
  funOk_mk (C := [spec_l01AbsF n, spec_l01GcdF n, spec_l01OkF n]) (N := 33) (kp := spec_l01Reducedkp) (c := spec_l01Reducedc) (n := n) (G := fun x y => spec_l01Reduced n x.1 x.2.1) follows (AllOk.mem (⟨spec_l01Abs_ok n, ⟨spec_l01Gcd_ok n, ⟨spec_l01Ok_ok n, trivial⟩⟩⟩ : AllOk P ([spec_l01AbsF n, spec_l01GcdF n, spec_l01OkF n]))) (by kernel_rfl : P.funcs[121]? = some Go.Proofs.Try.f121) (by kernel_rfl) (by kernel_rfl) (by kernel_rfl)
    (fun x y => spec_l01Reduced_eq n x.1 x.2.1) (fun _ _ => map_same (fun _ => rfl) _) (fun _ _ _ _ => rfl)

abbrev spec_l03Repeatsp : List Sp := [.ref 0, .v false (.int .i64), .v false (.int .i64), .v false (.int .i64), .v false (.int .i64)]
abbrev spec_l03Repeatbs : List (Bs × Bool) := [(.var 26 (.pair (.list (.int .i16)) (.pair (.int .i64) (.int .i64))), true)]
abbrev spec_l03Repeatrs : List (Bool × List Rp) := [(true, [.v false (.pair (.int .i64) (.int .i64))]), (false, [.v false (.int .i64)]), (false, [.v false (.int .i64)])]
noncomputable def spec_l03Repeatkp : Keep := { loop := fun id => match id with | _ => [], join := fun id => match id with | _ => none }
noncomputable def spec_l03Repeatc : Code := bodyOf Go.Proofs.Try.f136
noncomputable def spec_l03RepeatF (n : Nat) : Fun := { id := 136, sp := spec_l03Repeatsp, bs := spec_l03Repeatbs, rs := spec_l03Repeatrs, f := fun x y => spec_l03Repeat n x.2.1 x.2.2.1 x.2.2.2.1 x.2.2.2.2.1 y.1 }

theorem spec_l03Repeat_eq (n : Nat) (a1 : Int) (a2 : Int) (a3 : Int) (a4 : Int) (b0 : (List (Int)) × ((Int) × (Int))) : runBody ([spec_l03HeadF n, spec_l03WrapF n, spec_l03TurnF n, spec_l01DownF n, spec_l01ReducedF n]) ty 58 n spec_l03Repeatkp spec_l03Repeatc Go.Proofs.Try.f136.results.toList spec_l03Repeatrs spec_l03Repeatsp spec_l03Repeatbs ((), (a1, (a2, (a3, (a4, ()))))) (b0, ()) = spec_l03Repeat n a1 a2 a3 a4 b0 := by
  have h : runBody ([spec_l03HeadF n, spec_l03WrapF n, spec_l03TurnF n, spec_l01DownF n, spec_l01ReducedF n]) ty 58 n spec_l03Repeatkp spec_l03Repeatc Go.Proofs.Try.f136.results.toList spec_l03Repeatrs spec_l03Repeatsp spec_l03Repeatbs ((), (a1, (a2, (a3, (a4, ()))))) (b0, ()) = spec_l03Repeat_t n a1 a2 a3 a4 b0 := by kernel_rfl
  rw [h]
  rfl

theorem spec_l03Repeat_ok (n : Nat) : FunOk P (spec_l03RepeatF n) :=
  funOk_mk (C := [spec_l03HeadF n, spec_l03WrapF n, spec_l03TurnF n, spec_l01DownF n, spec_l01ReducedF n]) (N := 58) (kp := spec_l03Repeatkp) (c := spec_l03Repeatc) (n := n) (G := fun x y => spec_l03Repeat n x.2.1 x.2.2.1 x.2.2.2.1 x.2.2.2.2.1 y.1) follows (AllOk.mem (⟨spec_l03Head_ok n, ⟨spec_l03Wrap_ok n, ⟨spec_l03Turn_ok n, ⟨spec_l01Down_ok n, ⟨spec_l01Reduced_ok n, trivial⟩⟩⟩⟩⟩ : AllOk P ([spec_l03HeadF n, spec_l03WrapF n, spec_l03TurnF n, spec_l01DownF n, spec_l01ReducedF n]))) (by kernel_rfl : P.funcs[136]? = some Go.Proofs.Try.f136) (by kernel_rfl) (by kernel_rfl) (by kernel_rfl)
    (fun x y => spec_l03Repeat_eq n x.2.1 x.2.2.1 x.2.2.2.1 x.2.2.2.2.1 y.1) (fun _ _ => map_same (fun _ => rfl) _) (fun _ _ _ _ => rfl)

abbrev spec_BestRepeatssp : List Sp := [.v true (.pair (.list (.int .i16)) (.pair (.int .i64) (.int .i64))), .v false (.int .i64), .v false (.int .i64), .v false (.int .i64), .v false (.int .i64)]
abbrev spec_BestRepeatsbs : List (Bs × Bool) := []
abbrev spec_BestRepeatsrs : List (Bool × List Rp) := [(false, [.v false (.int .i64)]), (true, [.v false (.pair (.int .i64) (.int .i64))]), (false, [.v false (.int .i64)])]
noncomputable def spec_BestRepeatskp : Keep := { loop := fun id => match id with | 8 => [11, 17, 16, 15, 14, 2, 5, 4, 1, 3] | _ => [], join := fun id => match id with | _ => none }
noncomputable def spec_BestRepeatsc : Code := bodyOf Go.Proofs.Try.f60
noncomputable def spec_BestRepeatsF (n : Nat) : Fun := { id := 60, sp := spec_BestRepeatssp, bs := spec_BestRepeatsbs, rs := spec_BestRepeatsrs, f := fun x y => spec_BestRepeats n x.1 x.2.1 x.2.2.1 x.2.2.2.1 x.2.2.2.2.1 }

theorem spec_BestRepeats_l8_eq (n : Nat) : ∀ (k : Nat) (v17 : Int) (v14 : Int) (v2 : Int) (v4 : Int) (v1 : Int) (v3 : Int) (b0_0 : Int) (b0_1 : Int) (b1_0 : Int) (b1_1 : Int) (b2_0 : Int) (b2_1 : Int) (b3_0 : List (Int)) (b3_1 : Int) (b3_2 : Int), iter (interp ([spec_l03RepeatedF n, spec_l03RepeatF n, spec_l01AbsF n]) ty 82 0 n spec_BestRepeatskp (codeAt spec_BestRepeatsc [1, 1, 1, 1, 1, 0, 1, 0, 0])) (canon 0 (spec_BestRepeatskp.loop 8)) (kAt ([spec_l03RepeatedF n, spec_l03RepeatF n, spec_l01AbsF n]) ty 82 0 n spec_BestRepeatskp spec_BestRepeatsc [1, 1, 1, 1, 1, 0, 1, 0] [] (ending ty 0 Go.Proofs.Try.f60.results.toList spec_BestRepeatsrs spec_BestRepeatsbs)) k { env := [(11, .one (.ref 0 0 0 0 0 0)), (17, .one (.sc (.int .i64 v17))), (16, .one (.ref 1 0 0 0 0 0)), (15, .one (.ref 2 0 0 0 0 0)), (14, .one (.sc (.int .i64 v14))), (2, .one (.sc (.int .i64 v2))), (5, .one (.ref 3 0 0 0 0 0)), (4, .one (.sc (.int .i64 v4))), (1, .one (.sc (.int .i64 v1))), (3, .one (.sc (.int .i64 v3)))], bx := [(0, .var 44 [.sc (.int .i64 b0_0), .sc (.int .i64 b0_1)]), (1, .var 44 [.sc (.int .i64 b1_0), .sc (.int .i64 b1_1)]), (2, .var 44 [.sc (.int .i64 b2_0), .sc (.int .i64 b2_1)]), (3, .var 26 [.list true (.int .i16) b3_0, .sc (.int .i64 b3_1), .sc (.int .i64 b3_2)])], nx := 4 } = spec_BestRepeats_l8 n k v17 v14 v2 v4 v1 v3 b0_0 b0_1 b1_0 b1_1 b2_0 b2_1 b3_0 b3_1 b3_2
  | 0, _, _, _, _, _, _, _, _, _, _, _, _, _, _, _ => by kernel_rfl
  | k + 1, v17, v14, v2, v4, v1, v3, b0_0, b0_1, b1_0, b1_1, b2_0, b2_1, b3_0, b3_1, b3_2 => by
    have h : iter (interp ([spec_l03RepeatedF n, spec_l03RepeatF n, spec_l01AbsF n]) ty 82 0 n spec_BestRepeatskp (codeAt spec_BestRepeatsc [1, 1, 1, 1, 1, 0, 1, 0, 0])) (canon 0 (spec_BestRepeatskp.loop 8)) (kAt ([spec_l03RepeatedF n, spec_l03RepeatF n, spec_l01AbsF n]) ty 82 0 n spec_BestRepeatskp spec_BestRepeatsc [1, 1, 1, 1, 1, 0, 1, 0] [] (ending ty 0 Go.Proofs.Try.f60.results.toList spec_BestRepeatsrs spec_BestRepeatsbs)) (k + 1) { env := [(11, .one (.ref 0 0 0 0 0 0)), (17, .one (.sc (.int .i64 v17))), (16, .one (.ref 1 0 0 0 0 0)), (15, .one (.ref 2 0 0 0 0 0)), (14, .one (.sc (.int .i64 v14))), (2, .one (.sc (.int .i64 v2))), (5, .one (.ref 3 0 0 0 0 0)), (4, .one (.sc (.int .i64 v4))), (1, .one (.sc (.int .i64 v1))), (3, .one (.sc (.int .i64 v3)))], bx := [(0, .var 44 [.sc (.int .i64 b0_0), .sc (.int .i64 b0_1)]), (1, .var 44 [.sc (.int .i64 b1_0), .sc (.int .i64 b1_1)]), (2, .var 44 [.sc (.int .i64 b2_0), .sc (.int .i64 b2_1)]), (3, .var 26 [.list true (.int .i16) b3_0, .sc (.int .i64 b3_1), .sc (.int .i64 b3_2)])], nx := 4 } = spec_BestRepeats_t8 n (fun v17 v14 v2 v4 v1 v3 b0_0 b0_1 b1_0 b1_1 b2_0 b2_1 b3_0 b3_1 b3_2 => iter (interp ([spec_l03RepeatedF n, spec_l03RepeatF n, spec_l01AbsF n]) ty 82 0 n spec_BestRepeatskp (codeAt spec_BestRepeatsc [1, 1, 1, 1, 1, 0, 1, 0, 0])) (canon 0 (spec_BestRepeatskp.loop 8)) (kAt ([spec_l03RepeatedF n, spec_l03RepeatF n, spec_l01AbsF n]) ty 82 0 n spec_BestRepeatskp spec_BestRepeatsc [1, 1, 1, 1, 1, 0, 1, 0] [] (ending ty 0 Go.Proofs.Try.f60.results.toList spec_BestRepeatsrs spec_BestRepeatsbs)) k { env := [(11, .one (.ref 0 0 0 0 0 0)), (17, .one (.sc (.int .i64 v17))), (16, .one (.ref 1 0 0 0 0 0)), (15, .one (.ref 2 0 0 0 0 0)), (14, .one (.sc (.int .i64 v14))), (2, .one (.sc (.int .i64 v2))), (5, .one (.ref 3 0 0 0 0 0)), (4, .one (.sc (.int .i64 v4))), (1, .one (.sc (.int .i64 v1))), (3, .one (.sc (.int .i64 v3)))], bx := [(0, .var 44 [.sc (.int .i64 b0_0), .sc (.int .i64 b0_1)]), (1, .var 44 [.sc (.int .i64 b1_0), .sc (.int .i64 b1_1)]), (2, .var 44 [.sc (.int .i64 b2_0), .sc (.int .i64 b2_1)]), (3, .var 26 [.list true (.int .i16) b3_0, .sc (.int .i64 b3_1), .sc (.int .i64 b3_2)])], nx := 4 }) v17 v14 v2 v4 v1 v3 b0_0 b0_1 b1_0 b1_1 b2_0 b2_1 b3_0 b3_1 b3_2 := by kernel_rfl
    rw [h]
    have e := congrArg (fun g => spec_BestRepeats_t8 n g v17 v14 v2 v4 v1 v3 b0_0 b0_1 b1_0 b1_1 b2_0 b2_1 b3_0 b3_1 b3_2) (funext fun v17 => funext fun v14 => funext fun v2 => funext fun v4 => funext fun v1 => funext fun v3 => funext fun b0_0 => funext fun b0_1 => funext fun b1_0 => funext fun b1_1 => funext fun b2_0 => funext fun b2_1 => funext fun b3_0 => funext fun b3_1 => funext fun b3_2 => spec_BestRepeats_l8_eq n k v17 v14 v2 v4 v1 v3 b0_0 b0_1 b1_0 b1_1 b2_0 b2_1 b3_0 b3_1 b3_2)
    exact e

theorem spec_BestRepeats_eq (n : Nat) (a0 : (List (Int)) × ((Int) × (Int))) (a1 : Int) (a2 : Int) (a3 : Int) (a4 : Int) : runBody ([spec_l03RepeatedF n, spec_l03RepeatF n, spec_l01AbsF n]) ty 82 n spec_BestRepeatskp spec_BestRepeatsc Go.Proofs.Try.f60.results.toList spec_BestRepeatsrs spec_BestRepeatssp spec_BestRepeatsbs (a0, (a1, (a2, (a3, (a4, ()))))) () = spec_BestRepeats n a0 a1 a2 a3 a4 := by
  have h : runBody ([spec_l03RepeatedF n, spec_l03RepeatF n, spec_l01AbsF n]) ty 82 n spec_BestRepeatskp spec_BestRepeatsc Go.Proofs.Try.f60.results.toList spec_BestRepeatsrs spec_BestRepeatssp spec_BestRepeatsbs (a0, (a1, (a2, (a3, (a4, ()))))) () = spec_BestRepeats_t n (fun k v17 v14 v2 v4 v1 v3 b0_0 b0_1 b1_0 b1_1 b2_0 b2_1 b3_0 b3_1 b3_2 => iter (interp ([spec_l03RepeatedF n, spec_l03RepeatF n, spec_l01AbsF n]) ty 82 0 n spec_BestRepeatskp (codeAt spec_BestRepeatsc [1, 1, 1, 1, 1, 0, 1, 0, 0])) (canon 0 (spec_BestRepeatskp.loop 8)) (kAt ([spec_l03RepeatedF n, spec_l03RepeatF n, spec_l01AbsF n]) ty 82 0 n spec_BestRepeatskp spec_BestRepeatsc [1, 1, 1, 1, 1, 0, 1, 0] [] (ending ty 0 Go.Proofs.Try.f60.results.toList spec_BestRepeatsrs spec_BestRepeatsbs)) k { env := [(11, .one (.ref 0 0 0 0 0 0)), (17, .one (.sc (.int .i64 v17))), (16, .one (.ref 1 0 0 0 0 0)), (15, .one (.ref 2 0 0 0 0 0)), (14, .one (.sc (.int .i64 v14))), (2, .one (.sc (.int .i64 v2))), (5, .one (.ref 3 0 0 0 0 0)), (4, .one (.sc (.int .i64 v4))), (1, .one (.sc (.int .i64 v1))), (3, .one (.sc (.int .i64 v3)))], bx := [(0, .var 44 [.sc (.int .i64 b0_0), .sc (.int .i64 b0_1)]), (1, .var 44 [.sc (.int .i64 b1_0), .sc (.int .i64 b1_1)]), (2, .var 44 [.sc (.int .i64 b2_0), .sc (.int .i64 b2_1)]), (3, .var 26 [.list true (.int .i16) b3_0, .sc (.int .i64 b3_1), .sc (.int .i64 b3_2)])], nx := 4 }) a0 a1 a2 a3 a4 := by kernel_rfl
  rw [h]
  have e := congrArg (fun h8 => spec_BestRepeats_t n h8 a0 a1 a2 a3 a4) (funext fun k => funext fun v17 => funext fun v14 => funext fun v2 => funext fun v4 => funext fun v1 => funext fun v3 => funext fun b0_0 => funext fun b0_1 => funext fun b1_0 => funext fun b1_1 => funext fun b2_0 => funext fun b2_1 => funext fun b3_0 => funext fun b3_1 => funext fun b3_2 => spec_BestRepeats_l8_eq n k v17 v14 v2 v4 v1 v3 b0_0 b0_1 b1_0 b1_1 b2_0 b2_1 b3_0 b3_1 b3_2)
  exact e

theorem spec_BestRepeats_ok (n : Nat) : FunOk P (spec_BestRepeatsF n) :=
  funOk_mk (C := [spec_l03RepeatedF n, spec_l03RepeatF n, spec_l01AbsF n]) (N := 82) (kp := spec_BestRepeatskp) (c := spec_BestRepeatsc) (n := n) (G := fun x y => spec_BestRepeats n x.1 x.2.1 x.2.2.1 x.2.2.2.1 x.2.2.2.2.1) follows (AllOk.mem (⟨spec_l03Repeated_ok n, ⟨spec_l03Repeat_ok n, ⟨spec_l01Abs_ok n, trivial⟩⟩⟩ : AllOk P ([spec_l03RepeatedF n, spec_l03RepeatF n, spec_l01AbsF n]))) (by kernel_rfl : P.funcs[60]? = some Go.Proofs.Try.f60) (by kernel_rfl) (by kernel_rfl) (by kernel_rfl)
    (fun x y => spec_BestRepeats_eq n x.1 x.2.1 x.2.2.1 x.2.2.2.1 x.2.2.2.2.1) (fun _ _ => map_same (fun _ => rfl) _) (fun _ _ _ _ => rfl)

abbrev impl_withinsp : List Sp := [.v false (.int .i64), .v false (.int .i64), .v false (.int .i64)]
abbrev impl_withinbs : List (Bs × Bool) := []
abbrev impl_withinrs : List (Bool × List Rp) := [(false, [.v false .bool])]
noncomputable def impl_withinkp : Keep := { loop := fun id => match id with | _ => [], join := fun id => match id with | _ => none }
noncomputable def impl_withinc : Code := bodyOf Go.Proofs.Try.f89
noncomputable def impl_withinF (n : Nat) : Fun := { id := 89, sp := impl_withinsp, bs := impl_withinbs, rs := impl_withinrs, f := fun x y => impl_within n x.1 x.2.1 x.2.2.1 }

theorem impl_within_eq (n : Nat) (a0 : Int) (a1 : Int) (a2 : Int) : runBody ([]) ty 15 n impl_withinkp impl_withinc Go.Proofs.Try.f89.results.toList impl_withinrs impl_withinsp impl_withinbs (a0, (a1, (a2, ()))) () = impl_within n a0 a1 a2 := by
  have h : runBody ([]) ty 15 n impl_withinkp impl_withinc Go.Proofs.Try.f89.results.toList impl_withinrs impl_withinsp impl_withinbs (a0, (a1, (a2, ()))) () = impl_within_t n a0 a1 a2 := by kernel_rfl
  rw [h]
  rfl

theorem impl_within_ok (n : Nat) : FunOk P (impl_withinF n) :=
  funOk_mk (C := []) (N := 15) (kp := impl_withinkp) (c := impl_withinc) (n := n) (G := fun x y => impl_within n x.1 x.2.1 x.2.2.1) follows (AllOk.mem (trivial : AllOk P ([]))) (by kernel_rfl : P.funcs[89]? = some Go.Proofs.Try.f89) (by kernel_rfl) (by kernel_rfl) (by kernel_rfl)
    (fun x y => impl_within_eq n x.1 x.2.1 x.2.2.1) (fun _ _ => map_same (fun _ => rfl) _) (fun _ _ _ _ => rfl)

abbrev impl_ValidDisk_1sp : List Sp := [.v false (.int .i16)]
abbrev impl_ValidDisk_1bs : List (Bs × Bool) := []
abbrev impl_ValidDisk_1rs : List (Bool × List Rp) := [(false, [.v false .bool])]
noncomputable def impl_ValidDisk_1kp : Keep := { loop := fun id => match id with | _ => [], join := fun id => match id with | _ => none }
noncomputable def impl_ValidDisk_1c : Code := bodyOf Go.Proofs.Try.f123
noncomputable def impl_ValidDisk_1F (n : Nat) : Fun := { id := 123, sp := impl_ValidDisk_1sp, bs := impl_ValidDisk_1bs, rs := impl_ValidDisk_1rs, f := fun x y => impl_ValidDisk_1 n x.1 }

theorem impl_ValidDisk_1_eq (n : Nat) (a0 : Int) : runBody ([impl_withinF n]) ty 7 n impl_ValidDisk_1kp impl_ValidDisk_1c Go.Proofs.Try.f123.results.toList impl_ValidDisk_1rs impl_ValidDisk_1sp impl_ValidDisk_1bs (a0, ()) () = impl_ValidDisk_1 n a0 := by
  have h : runBody ([impl_withinF n]) ty 7 n impl_ValidDisk_1kp impl_ValidDisk_1c Go.Proofs.Try.f123.results.toList impl_ValidDisk_1rs impl_ValidDisk_1sp impl_ValidDisk_1bs (a0, ()) () = impl_ValidDisk_1_t n a0 := by kernel_rfl
  rw [h]
  rfl

theorem impl_ValidDisk_1_ok (n : Nat) : FunOk P (impl_ValidDisk_1F n) :=
  funOk_mk (C := [impl_withinF n]) (N := 7) (kp := impl_ValidDisk_1kp) (c := impl_ValidDisk_1c) (n := n) (G := fun x y => impl_ValidDisk_1 n x.1) follows (AllOk.mem (⟨impl_within_ok n, trivial⟩ : AllOk P ([impl_withinF n]))) (by kernel_rfl : P.funcs[123]? = some Go.Proofs.Try.f123) (by kernel_rfl) (by kernel_rfl) (by kernel_rfl)
    (fun x y => impl_ValidDisk_1_eq n x.1) (fun _ _ => map_same (fun _ => rfl) _) (fun _ _ _ _ => rfl)

abbrev slices_IndexFunc_int16_int16_at_impl_ValidDisk_1sp : List Sp := [.v false (.list (.int .i16)), .cl 123 []]
abbrev slices_IndexFunc_int16_int16_at_impl_ValidDisk_1bs : List (Bs × Bool) := []
abbrev slices_IndexFunc_int16_int16_at_impl_ValidDisk_1rs : List (Bool × List Rp) := [(false, [.v false (.int .i64)])]
noncomputable def slices_IndexFunc_int16_int16_at_impl_ValidDisk_1kp : Keep := { loop := fun id => match id with | 2 => [8, 0, 1, 7] | _ => [], join := fun id => match id with | _ => none }
noncomputable def slices_IndexFunc_int16_int16_at_impl_ValidDisk_1c : Code := bodyOf Go.Proofs.Try.f189
noncomputable def slices_IndexFunc_int16_int16_at_impl_ValidDisk_1F (n : Nat) : Fun := { id := 189, sp := slices_IndexFunc_int16_int16_at_impl_ValidDisk_1sp, bs := slices_IndexFunc_int16_int16_at_impl_ValidDisk_1bs, rs := slices_IndexFunc_int16_int16_at_impl_ValidDisk_1rs, f := fun x y => slices_IndexFunc_int16_int16_at_impl_ValidDisk_1 n x.1 }

theorem slices_IndexFunc_int16_int16_at_impl_ValidDisk_1_l2_eq (n : Nat) : ∀ (k : Nat) (v8 : Int) (v0 : List (Int)) (v7 : Int), iter (interp ([impl_ValidDisk_1F n]) ty 19 0 n slices_IndexFunc_int16_int16_at_impl_ValidDisk_1kp (codeAt slices_IndexFunc_int16_int16_at_impl_ValidDisk_1c [1, 0, 1, 0, 0])) (canon 0 (slices_IndexFunc_int16_int16_at_impl_ValidDisk_1kp.loop 2)) (kAt ([impl_ValidDisk_1F n]) ty 19 0 n slices_IndexFunc_int16_int16_at_impl_ValidDisk_1kp slices_IndexFunc_int16_int16_at_impl_ValidDisk_1c [1, 0, 1, 0] [] (ending ty 0 Go.Proofs.Try.f189.results.toList slices_IndexFunc_int16_int16_at_impl_ValidDisk_1rs slices_IndexFunc_int16_int16_at_impl_ValidDisk_1bs)) k { env := [(8, .one (.sc (.int .i64 v8))), (0, .one (.list true (.int .i16) v0)), (1, .one (.clos 123 [])), (7, .one (.sc (.int .i64 v7)))], bx := [], nx := 0 } = slices_IndexFunc_int16_int16_at_impl_ValidDisk_1_l2 n k v8 v0 v7
  | 0, _, _, _ => by kernel_rfl
  | k + 1, v8, v0, v7 => by
    have h : iter (interp ([impl_ValidDisk_1F n]) ty 19 0 n slices_IndexFunc_int16_int16_at_impl_ValidDisk_1kp (codeAt slices_IndexFunc_int16_int16_at_impl_ValidDisk_1c [1, 0, 1, 0, 0])) (canon 0 (slices_IndexFunc_int16_int16_at_impl_ValidDisk_1kp.loop 2)) (kAt ([impl_ValidDisk_1F n]) ty 19 0 n slices_IndexFunc_int16_int16_at_impl_ValidDisk_1kp slices_IndexFunc_int16_int16_at_impl_ValidDisk_1c [1, 0, 1, 0] [] (ending ty 0 Go.Proofs.Try.f189.results.toList slices_IndexFunc_int16_int16_at_impl_ValidDisk_1rs slices_IndexFunc_int16_int16_at_impl_ValidDisk_1bs)) (k + 1) { env := [(8, .one (.sc (.int .i64 v8))), (0, .one (.list true (.int .i16) v0)), (1, .one (.clos 123 [])), (7, .one (.sc (.int .i64 v7)))], bx := [], nx := 0 } = slices_IndexFunc_int16_int16_at_impl_ValidDisk_1_t2 n (fun v8 v0 v7 => iter (interp ([impl_ValidDisk_1F n]) ty 19 0 n slices_IndexFunc_int16_int16_at_impl_ValidDisk_1kp (codeAt slices_IndexFunc_int16_int16_at_impl_ValidDisk_1c [1, 0, 1, 0, 0])) (canon 0 (slices_IndexFunc_int16_int16_at_impl_ValidDisk_1kp.loop 2)) (kAt ([impl_ValidDisk_1F n]) ty 19 0 n slices_IndexFunc_int16_int16_at_impl_ValidDisk_1kp slices_IndexFunc_int16_int16_at_impl_ValidDisk_1c [1, 0, 1, 0] [] (ending ty 0 Go.Proofs.Try.f189.results.toList slices_IndexFunc_int16_int16_at_impl_ValidDisk_1rs slices_IndexFunc_int16_int16_at_impl_ValidDisk_1bs)) k { env := [(8, .one (.sc (.int .i64 v8))), (0, .one (.list true (.int .i16) v0)), (1, .one (.clos 123 [])), (7, .one (.sc (.int .i64 v7)))], bx := [], nx := 0 }) v8 v0 v7 := by kernel_rfl
    rw [h]
    have e := congrArg (fun g => slices_IndexFunc_int16_int16_at_impl_ValidDisk_1_t2 n g v8 v0 v7) (funext fun v8 => funext fun v0 => funext fun v7 => slices_IndexFunc_int16_int16_at_impl_ValidDisk_1_l2_eq n k v8 v0 v7)
    exact e

theorem slices_IndexFunc_int16_int16_at_impl_ValidDisk_1_eq (n : Nat) (a0 : List (Int)) : runBody ([impl_ValidDisk_1F n]) ty 19 n slices_IndexFunc_int16_int16_at_impl_ValidDisk_1kp slices_IndexFunc_int16_int16_at_impl_ValidDisk_1c Go.Proofs.Try.f189.results.toList slices_IndexFunc_int16_int16_at_impl_ValidDisk_1rs slices_IndexFunc_int16_int16_at_impl_ValidDisk_1sp slices_IndexFunc_int16_int16_at_impl_ValidDisk_1bs (a0, ((), ())) () = slices_IndexFunc_int16_int16_at_impl_ValidDisk_1 n a0 := by
  have h : runBody ([impl_ValidDisk_1F n]) ty 19 n slices_IndexFunc_int16_int16_at_impl_ValidDisk_1kp slices_IndexFunc_int16_int16_at_impl_ValidDisk_1c Go.Proofs.Try.f189.results.toList slices_IndexFunc_int16_int16_at_impl_ValidDisk_1rs slices_IndexFunc_int16_int16_at_impl_ValidDisk_1sp slices_IndexFunc_int16_int16_at_impl_ValidDisk_1bs (a0, ((), ())) () = slices_IndexFunc_int16_int16_at_impl_ValidDisk_1_t n (fun k v8 v0 v7 => iter (interp ([impl_ValidDisk_1F n]) ty 19 0 n slices_IndexFunc_int16_int16_at_impl_ValidDisk_1kp (codeAt slices_IndexFunc_int16_int16_at_impl_ValidDisk_1c [1, 0, 1, 0, 0])) (canon 0 (slices_IndexFunc_int16_int16_at_impl_ValidDisk_1kp.loop 2)) (kAt ([impl_ValidDisk_1F n]) ty 19 0 n slices_IndexFunc_int16_int16_at_impl_ValidDisk_1kp slices_IndexFunc_int16_int16_at_impl_ValidDisk_1c [1, 0, 1, 0] [] (ending ty 0 Go.Proofs.Try.f189.results.toList slices_IndexFunc_int16_int16_at_impl_ValidDisk_1rs slices_IndexFunc_int16_int16_at_impl_ValidDisk_1bs)) k { env := [(8, .one (.sc (.int .i64 v8))), (0, .one (.list true (.int .i16) v0)), (1, .one (.clos 123 [])), (7, .one (.sc (.int .i64 v7)))], bx := [], nx := 0 }) a0 := by kernel_rfl
  rw [h]
  have e := congrArg (fun h2 => slices_IndexFunc_int16_int16_at_impl_ValidDisk_1_t n h2 a0) (funext fun k => funext fun v8 => funext fun v0 => funext fun v7 => slices_IndexFunc_int16_int16_at_impl_ValidDisk_1_l2_eq n k v8 v0 v7)
  exact e

theorem slices_IndexFunc_int16_int16_at_impl_ValidDisk_1_ok (n : Nat) : FunOk P (slices_IndexFunc_int16_int16_at_impl_ValidDisk_1F n) :=
  funOk_mk (C := [impl_ValidDisk_1F n]) (N := 19) (kp := slices_IndexFunc_int16_int16_at_impl_ValidDisk_1kp) (c := slices_IndexFunc_int16_int16_at_impl_ValidDisk_1c) (n := n) (G := fun x y => slices_IndexFunc_int16_int16_at_impl_ValidDisk_1 n x.1) follows (AllOk.mem (⟨impl_ValidDisk_1_ok n, trivial⟩ : AllOk P ([impl_ValidDisk_1F n]))) (by kernel_rfl : P.funcs[189]? = some Go.Proofs.Try.f189) (by kernel_rfl) (by kernel_rfl) (by kernel_rfl)
    (fun x y => slices_IndexFunc_int16_int16_at_impl_ValidDisk_1_eq n x.1) (fun _ _ => map_same (fun _ => rfl) _) (fun _ _ _ _ => rfl)

abbrev slices_ContainsFunc_int16_int16_at_impl_ValidDisk_1sp : List Sp := [.v false (.list (.int .i16)), .cl 123 []]
abbrev slices_ContainsFunc_int16_int16_at_impl_ValidDisk_1bs : List (Bs × Bool) := []
abbrev slices_ContainsFunc_int16_int16_at_impl_ValidDisk_1rs : List (Bool × List Rp) := [(false, [.v false .bool])]
noncomputable def slices_ContainsFunc_int16_int16_at_impl_ValidDisk_1kp : Keep := { loop := fun id => match id with | _ => [], join := fun id => match id with | _ => none }
noncomputable def slices_ContainsFunc_int16_int16_at_impl_ValidDisk_1c : Code := bodyOf Go.Proofs.Try.f122
noncomputable def slices_ContainsFunc_int16_int16_at_impl_ValidDisk_1F (n : Nat) : Fun := { id := 122, sp := slices_ContainsFunc_int16_int16_at_impl_ValidDisk_1sp, bs := slices_ContainsFunc_int16_int16_at_impl_ValidDisk_1bs, rs := slices_ContainsFunc_int16_int16_at_impl_ValidDisk_1rs, f := fun x y => slices_ContainsFunc_int16_int16_at_impl_ValidDisk_1 n x.1 }

theorem slices_ContainsFunc_int16_int16_at_impl_ValidDisk_1_eq (n : Nat) (a0 : List (Int)) : runBody ([slices_IndexFunc_int16_int16_at_impl_ValidDisk_1F n]) ty 9 n slices_ContainsFunc_int16_int16_at_impl_ValidDisk_1kp slices_ContainsFunc_int16_int16_at_impl_ValidDisk_1c Go.Proofs.Try.f122.results.toList slices_ContainsFunc_int16_int16_at_impl_ValidDisk_1rs slices_ContainsFunc_int16_int16_at_impl_ValidDisk_1sp slices_ContainsFunc_int16_int16_at_impl_ValidDisk_1bs (a0, ((), ())) () = slices_ContainsFunc_int16_int16_at_impl_ValidDisk_1 n a0 := by
  have h : runBody ([slices_IndexFunc_int16_int16_at_impl_ValidDisk_1F n]) ty 9 n slices_ContainsFunc_int16_int16_at_impl_ValidDisk_1kp slices_ContainsFunc_int16_int16_at_impl_ValidDisk_1c Go.Proofs.Try.f122.results.toList slices_ContainsFunc_int16_int16_at_impl_ValidDisk_1rs slices_ContainsFunc_int16_int16_at_impl_ValidDisk_1sp slices_ContainsFunc_int16_int16_at_impl_ValidDisk_1bs (a0, ((), ())) () = slices_ContainsFunc_int16_int16_at_impl_ValidDisk_1_t n a0 := by kernel_rfl
  rw [h]
  rfl

theorem slices_ContainsFunc_int16_int16_at_impl_ValidDisk_1_ok (n : Nat) : FunOk P (slices_ContainsFunc_int16_int16_at_impl_ValidDisk_1F n) :=
  funOk_mk (C := [slices_IndexFunc_int16_int16_at_impl_ValidDisk_1F n]) (N := 9) (kp := slices_ContainsFunc_int16_int16_at_impl_ValidDisk_1kp) (c := slices_ContainsFunc_int16_int16_at_impl_ValidDisk_1c) (n := n) (G := fun x y => slices_ContainsFunc_int16_int16_at_impl_ValidDisk_1 n x.1) follows (AllOk.mem (⟨slices_IndexFunc_int16_int16_at_impl_ValidDisk_1_ok n, trivial⟩ : AllOk P ([slices_IndexFunc_int16_int16_at_impl_ValidDisk_1F n]))) (by kernel_rfl : P.funcs[122]? = some Go.Proofs.Try.f122) (by kernel_rfl) (by kernel_rfl) (by kernel_rfl)
    (fun x y => slices_ContainsFunc_int16_int16_at_impl_ValidDisk_1_eq n x.1) (fun _ _ => map_same (fun _ => rfl) _) (fun _ _ _ _ => rfl)

abbrev impl_ValidDisksp : List Sp := [.v true (.pair (.list (.int .i16)) (.pair (.int .i64) (.int .i64)))]
abbrev impl_ValidDiskbs : List (Bs × Bool) := []
abbrev impl_ValidDiskrs : List (Bool × List Rp) := [(false, [.v false .bool])]
noncomputable def impl_ValidDiskkp : Keep := { loop := fun id => match id with | _ => [], join := fun id => match id with | _ => none }
noncomputable def impl_ValidDiskc : Code := bodyOf Go.Proofs.Try.f41
noncomputable def impl_ValidDiskF (n : Nat) : Fun := { id := 41, sp := impl_ValidDisksp, bs := impl_ValidDiskbs, rs := impl_ValidDiskrs, f := fun x y => impl_ValidDisk n x.1 }

theorem impl_ValidDisk_eq (n : Nat) (a0 : (List (Int)) × ((Int) × (Int))) : runBody ([impl_withinF n, slices_ContainsFunc_int16_int16_at_impl_ValidDisk_1F n]) ty 30 n impl_ValidDiskkp impl_ValidDiskc Go.Proofs.Try.f41.results.toList impl_ValidDiskrs impl_ValidDisksp impl_ValidDiskbs (a0, ()) () = impl_ValidDisk n a0 := by
  have h : runBody ([impl_withinF n, slices_ContainsFunc_int16_int16_at_impl_ValidDisk_1F n]) ty 30 n impl_ValidDiskkp impl_ValidDiskc Go.Proofs.Try.f41.results.toList impl_ValidDiskrs impl_ValidDisksp impl_ValidDiskbs (a0, ()) () = impl_ValidDisk_t n a0 := by kernel_rfl
  rw [h]
  rfl

theorem impl_ValidDisk_ok (n : Nat) : FunOk P (impl_ValidDiskF n) :=
  funOk_mk (C := [impl_withinF n, slices_ContainsFunc_int16_int16_at_impl_ValidDisk_1F n]) (N := 30) (kp := impl_ValidDiskkp) (c := impl_ValidDiskc) (n := n) (G := fun x y => impl_ValidDisk n x.1) follows (AllOk.mem (⟨impl_within_ok n, ⟨slices_ContainsFunc_int16_int16_at_impl_ValidDisk_1_ok n, trivial⟩⟩ : AllOk P ([impl_withinF n, slices_ContainsFunc_int16_int16_at_impl_ValidDisk_1F n]))) (by kernel_rfl : P.funcs[41]? = some Go.Proofs.Try.f41) (by kernel_rfl) (by kernel_rfl) (by kernel_rfl)
    (fun x y => impl_ValidDisk_eq n x.1) (fun _ _ => map_same (fun _ => rfl) _) (fun _ _ _ _ => rfl)

abbrev impl_isAnglesp : List Sp := [.v false (.int .i64)]
abbrev impl_isAnglebs : List (Bs × Bool) := []
abbrev impl_isAnglers : List (Bool × List Rp) := [(false, [.v false .bool])]
noncomputable def impl_isAnglekp : Keep := { loop := fun id => match id with | _ => [], join := fun id => match id with | _ => none }
noncomputable def impl_isAnglec : Code := bodyOf Go.Proofs.Try.f115
noncomputable def impl_isAngleF (n : Nat) : Fun := { id := 115, sp := impl_isAnglesp, bs := impl_isAnglebs, rs := impl_isAnglers, f := fun x y => impl_isAngle n x.1 }

theorem impl_isAngle_eq (n : Nat) (a0 : Int) : runBody ([impl_withinF n]) ty 5 n impl_isAnglekp impl_isAnglec Go.Proofs.Try.f115.results.toList impl_isAnglers impl_isAnglesp impl_isAnglebs (a0, ()) () = impl_isAngle n a0 := by
  have h : runBody ([impl_withinF n]) ty 5 n impl_isAnglekp impl_isAnglec Go.Proofs.Try.f115.results.toList impl_isAnglers impl_isAnglesp impl_isAnglebs (a0, ()) () = impl_isAngle_t n a0 := by kernel_rfl
  rw [h]
  rfl

theorem impl_isAngle_ok (n : Nat) : FunOk P (impl_isAngleF n) :=
  funOk_mk (C := [impl_withinF n]) (N := 5) (kp := impl_isAnglekp) (c := impl_isAnglec) (n := n) (G := fun x y => impl_isAngle n x.1) follows (AllOk.mem (⟨impl_within_ok n, trivial⟩ : AllOk P ([impl_withinF n]))) (by kernel_rfl : P.funcs[115]? = some Go.Proofs.Try.f115) (by kernel_rfl) (by kernel_rfl) (by kernel_rfl)
    (fun x y => impl_isAngle_eq n x.1) (fun _ _ => map_same (fun _ => rfl) _) (fun _ _ _ _ => rfl)

abbrev impl_headCode_1sp : List Sp := [.v false (.int .i64)]
abbrev impl_headCode_1bs : List (Bs × Bool) := []
abbrev impl_headCode_1rs : List (Bool × List Rp) := [(false, [.v false .bool])]
noncomputable def impl_headCode_1kp : Keep := { loop := fun id => match id with | _ => [], join := fun id => match id with | _ => none }
noncomputable def impl_headCode_1c : Code := bodyOf Go.Proofs.Try.f169
noncomputable def impl_headCode_1F (n : Nat) : Fun := { id := 169, sp := impl_headCode_1sp, bs := impl_headCode_1bs, rs := impl_headCode_1rs, f := fun x y => impl_headCode_1 n x.1 }

theorem impl_headCode_1_eq (n : Nat) (a0 : Int) : runBody ([impl_isAngleF n]) ty 6 n impl_headCode_1kp impl_headCode_1c Go.Proofs.Try.f169.results.toList impl_headCode_1rs impl_headCode_1sp impl_headCode_1bs (a0, ()) () = impl_headCode_1 n a0 := by
  have h : runBody ([impl_isAngleF n]) ty 6 n impl_headCode_1kp impl_headCode_1c Go.Proofs.Try.f169.results.toList impl_headCode_1rs impl_headCode_1sp impl_headCode_1bs (a0, ()) () = impl_headCode_1_t n a0 := by kernel_rfl
  rw [h]
  rfl

theorem impl_headCode_1_ok (n : Nat) : FunOk P (impl_headCode_1F n) :=
  funOk_mk (C := [impl_isAngleF n]) (N := 6) (kp := impl_headCode_1kp) (c := impl_headCode_1c) (n := n) (G := fun x y => impl_headCode_1 n x.1) follows (AllOk.mem (⟨impl_isAngle_ok n, trivial⟩ : AllOk P ([impl_isAngleF n]))) (by kernel_rfl : P.funcs[169]? = some Go.Proofs.Try.f169) (by kernel_rfl) (by kernel_rfl) (by kernel_rfl)
    (fun x y => impl_headCode_1_eq n x.1) (fun _ _ => map_same (fun _ => rfl) _) (fun _ _ _ _ => rfl)

abbrev slices_IndexFunc_int64_int64_at_impl_headCode_1sp : List Sp := [.v false (.list (.int .i64)), .cl 169 []]
abbrev slices_IndexFunc_int64_int64_at_impl_headCode_1bs : List (Bs × Bool) := []
abbrev slices_IndexFunc_int64_int64_at_impl_headCode_1rs : List (Bool × List Rp) := [(false, [.v false (.int .i64)])]
noncomputable def slices_IndexFunc_int64_int64_at_impl_headCode_1kp : Keep := { loop := fun id => match id with | 2 => [8, 0, 1, 7] | _ => [], join := fun id => match id with | _ => none }
noncomputable def slices_IndexFunc_int64_int64_at_impl_headCode_1c : Code := bodyOf Go.Proofs.Try.f211
noncomputable def slices_IndexFunc_int64_int64_at_impl_headCode_1F (n : Nat) : Fun := { id := 211, sp := slices_IndexFunc_int64_int64_at_impl_headCode_1sp, bs := slices_IndexFunc_int64_int64_at_impl_headCode_1bs, rs := slices_IndexFunc_int64_int64_at_impl_headCode_1rs, f := fun x y => slices_IndexFunc_int64_int64_at_impl_headCode_1 n x.1 }

theorem slices_IndexFunc_int64_int64_at_impl_headCode_1_l2_eq (n : Nat) : ∀ (k : Nat) (v8 : Int) (v0 : List (Int)) (v7 : Int), iter (interp ([impl_headCode_1F n]) ty 19 0 n slices_IndexFunc_int64_int64_at_impl_headCode_1kp (codeAt slices_IndexFunc_int64_int64_at_impl_headCode_1c [1, 0, 1, 0, 0])) (canon 0 (slices_IndexFunc_int64_int64_at_impl_headCode_1kp.loop 2)) (kAt ([impl_headCode_1F n]) ty 19 0 n slices_IndexFunc_int64_int64_at_impl_headCode_1kp slices_IndexFunc_int64_int64_at_impl_headCode_1c [1, 0, 1, 0] [] (ending ty 0 Go.Proofs.Try.f211.results.toList slices_IndexFunc_int64_int64_at_impl_headCode_1rs slices_IndexFunc_int64_int64_at_impl_headCode_1bs)) k { env := [(8, .one (.sc (.int .i64 v8))), (0, .one (.list true (.int .i64) v0)), (1, .one (.clos 169 [])), (7, .one (.sc (.int .i64 v7)))], bx := [], nx := 0 } = slices_IndexFunc_int64_int64_at_impl_headCode_1_l2 n k v8 v0 v7
  | 0, _, _, _ => by kernel_rfl
  | k + 1, v8, v0, v7 => by
    have h : iter (interp ([impl_headCode_1F n]) ty 19 0 n slices_IndexFunc_int64_int64_at_impl_headCode_1kp (codeAt slices_IndexFunc_int64_int64_at_impl_headCode_1c [1, 0, 1, 0, 0])) (canon 0 (slices_IndexFunc_int64_int64_at_impl_headCode_1kp.loop 2)) (kAt ([impl_headCode_1F n]) ty 19 0 n slices_IndexFunc_int64_int64_at_impl_headCode_1kp slices_IndexFunc_int64_int64_at_impl_headCode_1c [1, 0, 1, 0] [] (ending ty 0 Go.Proofs.Try.f211.results.toList slices_IndexFunc_int64_int64_at_impl_headCode_1rs slices_IndexFunc_int64_int64_at_impl_headCode_1bs)) (k + 1) { env := [(8, .one (.sc (.int .i64 v8))), (0, .one (.list true (.int .i64) v0)), (1, .one (.clos 169 [])), (7, .one (.sc (.int .i64 v7)))], bx := [], nx := 0 } = slices_IndexFunc_int64_int64_at_impl_headCode_1_t2 n (fun v8 v0 v7 => iter (interp ([impl_headCode_1F n]) ty 19 0 n slices_IndexFunc_int64_int64_at_impl_headCode_1kp (codeAt slices_IndexFunc_int64_int64_at_impl_headCode_1c [1, 0, 1, 0, 0])) (canon 0 (slices_IndexFunc_int64_int64_at_impl_headCode_1kp.loop 2)) (kAt ([impl_headCode_1F n]) ty 19 0 n slices_IndexFunc_int64_int64_at_impl_headCode_1kp slices_IndexFunc_int64_int64_at_impl_headCode_1c [1, 0, 1, 0] [] (ending ty 0 Go.Proofs.Try.f211.results.toList slices_IndexFunc_int64_int64_at_impl_headCode_1rs slices_IndexFunc_int64_int64_at_impl_headCode_1bs)) k { env := [(8, .one (.sc (.int .i64 v8))), (0, .one (.list true (.int .i64) v0)), (1, .one (.clos 169 [])), (7, .one (.sc (.int .i64 v7)))], bx := [], nx := 0 }) v8 v0 v7 := by kernel_rfl
    rw [h]
    have e := congrArg (fun g => slices_IndexFunc_int64_int64_at_impl_headCode_1_t2 n g v8 v0 v7) (funext fun v8 => funext fun v0 => funext fun v7 => slices_IndexFunc_int64_int64_at_impl_headCode_1_l2_eq n k v8 v0 v7)
    exact e

theorem slices_IndexFunc_int64_int64_at_impl_headCode_1_eq (n : Nat) (a0 : List (Int)) : runBody ([impl_headCode_1F n]) ty 19 n slices_IndexFunc_int64_int64_at_impl_headCode_1kp slices_IndexFunc_int64_int64_at_impl_headCode_1c Go.Proofs.Try.f211.results.toList slices_IndexFunc_int64_int64_at_impl_headCode_1rs slices_IndexFunc_int64_int64_at_impl_headCode_1sp slices_IndexFunc_int64_int64_at_impl_headCode_1bs (a0, ((), ())) () = slices_IndexFunc_int64_int64_at_impl_headCode_1 n a0 := by
  have h : runBody ([impl_headCode_1F n]) ty 19 n slices_IndexFunc_int64_int64_at_impl_headCode_1kp slices_IndexFunc_int64_int64_at_impl_headCode_1c Go.Proofs.Try.f211.results.toList slices_IndexFunc_int64_int64_at_impl_headCode_1rs slices_IndexFunc_int64_int64_at_impl_headCode_1sp slices_IndexFunc_int64_int64_at_impl_headCode_1bs (a0, ((), ())) () = slices_IndexFunc_int64_int64_at_impl_headCode_1_t n (fun k v8 v0 v7 => iter (interp ([impl_headCode_1F n]) ty 19 0 n slices_IndexFunc_int64_int64_at_impl_headCode_1kp (codeAt slices_IndexFunc_int64_int64_at_impl_headCode_1c [1, 0, 1, 0, 0])) (canon 0 (slices_IndexFunc_int64_int64_at_impl_headCode_1kp.loop 2)) (kAt ([impl_headCode_1F n]) ty 19 0 n slices_IndexFunc_int64_int64_at_impl_headCode_1kp slices_IndexFunc_int64_int64_at_impl_headCode_1c [1, 0, 1, 0] [] (ending ty 0 Go.Proofs.Try.f211.results.toList slices_IndexFunc_int64_int64_at_impl_headCode_1rs slices_IndexFunc_int64_int64_at_impl_headCode_1bs)) k { env := [(8, .one (.sc (.int .i64 v8))), (0, .one (.list true (.int .i64) v0)), (1, .one (.clos 169 [])), (7, .one (.sc (.int .i64 v7)))], bx := [], nx := 0 }) a0 := by kernel_rfl
  rw [h]
  have e := congrArg (fun h2 => slices_IndexFunc_int64_int64_at_impl_headCode_1_t n h2 a0) (funext fun k => funext fun v8 => funext fun v0 => funext fun v7 => slices_IndexFunc_int64_int64_at_impl_headCode_1_l2_eq n k v8 v0 v7)
  exact e

theorem slices_IndexFunc_int64_int64_at_impl_headCode_1_ok (n : Nat) : FunOk P (slices_IndexFunc_int64_int64_at_impl_headCode_1F n) :=
  funOk_mk (C := [impl_headCode_1F n]) (N := 19) (kp := slices_IndexFunc_int64_int64_at_impl_headCode_1kp) (c := slices_IndexFunc_int64_int64_at_impl_headCode_1c) (n := n) (G := fun x y => slices_IndexFunc_int64_int64_at_impl_headCode_1 n x.1) follows (AllOk.mem (⟨impl_headCode_1_ok n, trivial⟩ : AllOk P ([impl_headCode_1F n]))) (by kernel_rfl : P.funcs[211]? = some Go.Proofs.Try.f211) (by kernel_rfl) (by kernel_rfl) (by kernel_rfl)
    (fun x y => slices_IndexFunc_int64_int64_at_impl_headCode_1_eq n x.1) (fun _ _ => map_same (fun _ => rfl) _) (fun _ _ _ _ => rfl)

abbrev slices_ContainsFunc_int64_int64_at_impl_headCode_1sp : List Sp := [.v false (.list (.int .i64)), .cl 169 []]
abbrev slices_ContainsFunc_int64_int64_at_impl_headCode_1bs : List (Bs × Bool) := []
abbrev slices_ContainsFunc_int64_int64_at_impl_headCode_1rs : List (Bool × List Rp) := [(false, [.v false .bool])]
noncomputable def slices_ContainsFunc_int64_int64_at_impl_headCode_1kp : Keep := { loop := fun id => match id with | _ => [], join := fun id => match id with | _ => none }
noncomputable def slices_ContainsFunc_int64_int64_at_impl_headCode_1c : Code := bodyOf Go.Proofs.Try.f168
noncomputable def slices_ContainsFunc_int64_int64_at_impl_headCode_1F (n : Nat) : Fun := { id := 168, sp := slices_ContainsFunc_int64_int64_at_impl_headCode_1sp, bs := slices_ContainsFunc_int64_int64_at_impl_headCode_1bs, rs := slices_ContainsFunc_int64_int64_at_impl_headCode_1rs, f := fun x y => slices_ContainsFunc_int64_int64_at_impl_headCode_1 n x.1 }

theorem slices_ContainsFunc_int64_int64_at_impl_headCode_1_eq (n : Nat) (a0 : List (Int)) : runBody ([slices_IndexFunc_int64_int64_at_impl_headCode_1F n]) ty 9 n slices_ContainsFunc_int64_int64_at_impl_headCode_1kp slices_ContainsFunc_int64_int64_at_impl_headCode_1c Go.Proofs.Try.f168.results.toList slices_ContainsFunc_int64_int64_at_impl_headCode_1rs slices_ContainsFunc_int64_int64_at_impl_headCode_1sp slices_ContainsFunc_int64_int64_at_impl_headCode_1bs (a0, ((), ())) () = slices_ContainsFunc_int64_int64_at_impl_headCode_1 n a0 := by
  have h : runBody ([slices_IndexFunc_int64_int64_at_impl_headCode_1F n]) ty 9 n slices_ContainsFunc_int64_int64_at_impl_headCode_1kp slices_ContainsFunc_int64_int64_at_impl_headCode_1c Go.Proofs.Try.f168.results.toList slices_ContainsFunc_int64_int64_at_impl_headCode_1rs slices_ContainsFunc_int64_int64_at_impl_headCode_1sp slices_ContainsFunc_int64_int64_at_impl_headCode_1bs (a0, ((), ())) () = slices_ContainsFunc_int64_int64_at_impl_headCode_1_t n a0 := by kernel_rfl
  rw [h]
  rfl

theorem slices_ContainsFunc_int64_int64_at_impl_headCode_1_ok (n : Nat) : FunOk P (slices_ContainsFunc_int64_int64_at_impl_headCode_1F n) :=
  funOk_mk (C := [slices_IndexFunc_int64_int64_at_impl_headCode_1F n]) (N := 9) (kp := slices_ContainsFunc_int64_int64_at_impl_headCode_1kp) (c := slices_ContainsFunc_int64_int64_at_impl_headCode_1c) (n := n) (G := fun x y => slices_ContainsFunc_int64_int64_at_impl_headCode_1 n x.1) follows (AllOk.mem (⟨slices_IndexFunc_int64_int64_at_impl_headCode_1_ok n, trivial⟩ : AllOk P ([slices_IndexFunc_int64_int64_at_impl_headCode_1F n]))) (by kernel_rfl : P.funcs[168]? = some Go.Proofs.Try.f168) (by kernel_rfl) (by kernel_rfl) (by kernel_rfl)
    (fun x y => slices_ContainsFunc_int64_int64_at_impl_headCode_1_eq n x.1) (fun _ _ => map_same (fun _ => rfl) _) (fun _ _ _ _ => rfl)

abbrev impl_headCodesp : List Sp := [.v true (.pair (.list (.int .i16)) (.pair (.int .i64) (.int .i64))), .v false (.int .i64), .v false (.list (.int .i64))]
abbrev impl_headCodebs : List (Bs × Bool) := []
abbrev impl_headCoders : List (Bool × List Rp) := [(false, [.v false (.int .i64)])]
noncomputable def impl_headCodekp : Keep := { loop := fun id => match id with | _ => [], join := fun id => match id with | _ => none }
noncomputable def impl_headCodec : Code := bodyOf Go.Proofs.Try.f88
noncomputable def impl_headCodeF (n : Nat) : Fun := { id := 88, sp := impl_headCodesp, bs := impl_headCodebs, rs := impl_headCoders, f := fun x y => impl_headCode n x.1 x.2.1 x.2.2.1 }

theorem impl_headCode_eq (n : Nat) (a0 : (List (Int)) × ((Int) × (Int))) (a1 : Int) (a2 : List (Int)) : runBody ([impl_ValidDiskF n, slices_ContainsFunc_int64_int64_at_impl_headCode_1F n, impl_withinF n]) ty 19 n impl_headCodekp impl_headCodec Go.Proofs.Try.f88.results.toList impl_headCoders impl_headCodesp impl_headCodebs (a0, (a1, (a2, ()))) () = impl_headCode n a0 a1 a2 := by
  have h : runBody ([impl_ValidDiskF n, slices_ContainsFunc_int64_int64_at_impl_headCode_1F n, impl_withinF n]) ty 19 n impl_headCodekp impl_headCodec Go.Proofs.Try.f88.results.toList impl_headCoders impl_headCodesp impl_headCodebs (a0, (a1, (a2, ()))) () = impl_headCode_t n a0 a1 a2 := by kernel_rfl
  rw [h]
  rfl

theorem impl_headCode_ok (n : Nat) : FunOk P (impl_headCodeF n) :=
  funOk_mk (C := [impl_ValidDiskF n, slices_ContainsFunc_int64_int64_at_impl_headCode_1F n, impl_withinF n]) (N := 19) (kp := impl_headCodekp) (c := impl_headCodec) (n := n) (G := fun x y => impl_headCode n x.1 x.2.1 x.2.2.1) follows (AllOk.mem (⟨impl_ValidDisk_ok n, ⟨slices_ContainsFunc_int64_int64_at_impl_headCode_1_ok n, ⟨impl_within_ok n, trivial⟩⟩⟩ : AllOk P ([impl_ValidDiskF n, slices_ContainsFunc_int64_int64_at_impl_headCode_1F n, impl_withinF n]))) (by kernel_rfl : P.funcs[88]? = some Go.Proofs.Try.f88) (by kernel_rfl) (by kernel_rfl) (by kernel_rfl)
    (fun x y => impl_headCode_eq n x.1 x.2.1 x.2.2.1) (fun _ _ => map_same (fun _ => rfl) _) (fun _ _ _ _ => rfl)

abbrev impl_faultAtsp : List Sp := [.v true (.pair (.list (.int .i16)) (.pair (.int .i64) (.int .i64))), .v false (.int .i64)]
abbrev impl_faultAtbs : List (Bs × Bool) := []
abbrev impl_faultAtrs : List (Bool × List Rp) := [(false, [.v false (.int .i64)]), (false, [.v false (.int .i64)])]
noncomputable def impl_faultAtkp : Keep := { loop := fun id => match id with | _ => [], join := fun id => match id with | _ => none }
noncomputable def impl_faultAtc : Code := bodyOf Go.Proofs.Try.f118
noncomputable def impl_faultAtF (n : Nat) : Fun := { id := 118, sp := impl_faultAtsp, bs := impl_faultAtbs, rs := impl_faultAtrs, f := fun x y => impl_faultAt n x.1 x.2.1 }

theorem impl_faultAt_eq (n : Nat) (a0 : (List (Int)) × ((Int) × (Int))) (a1 : Int) : runBody ([]) ty 46 n impl_faultAtkp impl_faultAtc Go.Proofs.Try.f118.results.toList impl_faultAtrs impl_faultAtsp impl_faultAtbs (a0, (a1, ())) () = impl_faultAt n a0 a1 := by
  have h : runBody ([]) ty 46 n impl_faultAtkp impl_faultAtc Go.Proofs.Try.f118.results.toList impl_faultAtrs impl_faultAtsp impl_faultAtbs (a0, (a1, ())) () = impl_faultAt_t n a0 a1 := by kernel_rfl
  rw [h]
  rfl

theorem impl_faultAt_ok (n : Nat) : FunOk P (impl_faultAtF n) :=
  funOk_mk (C := []) (N := 46) (kp := impl_faultAtkp) (c := impl_faultAtc) (n := n) (G := fun x y => impl_faultAt n x.1 x.2.1) follows (AllOk.mem (trivial : AllOk P ([]))) (by kernel_rfl : P.funcs[118]? = some Go.Proofs.Try.f118) (by kernel_rfl) (by kernel_rfl) (by kernel_rfl)
    (fun x y => impl_faultAt_eq n x.1 x.2.1) (fun _ _ => map_same (fun _ => rfl) _) (fun _ _ _ _ => rfl)

abbrev impl_swingsp : List Sp := [.v false (.int .i64)]
abbrev impl_swingbs : List (Bs × Bool) := []
abbrev impl_swingrs : List (Bool × List Rp) := [(false, [.v false (.int .i64)])]
noncomputable def impl_swingkp : Keep := { loop := fun id => match id with | _ => [], join := fun id => match id with | _ => none }
noncomputable def impl_swingc : Code := bodyOf Go.Proofs.Try.f192
noncomputable def impl_swingF (n : Nat) : Fun := { id := 192, sp := impl_swingsp, bs := impl_swingbs, rs := impl_swingrs, f := fun x y => impl_swing n x.1 }

theorem impl_swing_eq (n : Nat) (a0 : Int) : runBody ([]) ty 14 n impl_swingkp impl_swingc Go.Proofs.Try.f192.results.toList impl_swingrs impl_swingsp impl_swingbs (a0, ()) () = impl_swing n a0 := by
  have h : runBody ([]) ty 14 n impl_swingkp impl_swingc Go.Proofs.Try.f192.results.toList impl_swingrs impl_swingsp impl_swingbs (a0, ()) () = impl_swing_t n a0 := by kernel_rfl
  rw [h]
  rfl

theorem impl_swing_ok (n : Nat) : FunOk P (impl_swingF n) :=
  funOk_mk (C := []) (N := 14) (kp := impl_swingkp) (c := impl_swingc) (n := n) (G := fun x y => impl_swing n x.1) follows (AllOk.mem (trivial : AllOk P ([]))) (by kernel_rfl : P.funcs[192]? = some Go.Proofs.Try.f192) (by kernel_rfl) (by kernel_rfl) (by kernel_rfl)
    (fun x y => impl_swing_eq n x.1) (fun _ _ => map_same (fun _ => rfl) _) (fun _ _ _ _ => rfl)

abbrev impl_wrapsp : List Sp := [.v false (.int .i64)]
abbrev impl_wrapbs : List (Bs × Bool) := []
abbrev impl_wraprs : List (Bool × List Rp) := [(false, [.v false (.int .i64)])]
noncomputable def impl_wrapkp : Keep := { loop := fun id => match id with | _ => [], join := fun id => match id with | _ => none }
noncomputable def impl_wrapc : Code := bodyOf Go.Proofs.Try.f92
noncomputable def impl_wrapF (n : Nat) : Fun := { id := 92, sp := impl_wrapsp, bs := impl_wrapbs, rs := impl_wraprs, f := fun x y => impl_wrap n x.1 }

theorem impl_wrap_eq (n : Nat) (a0 : Int) : runBody ([]) ty 7 n impl_wrapkp impl_wrapc Go.Proofs.Try.f92.results.toList impl_wraprs impl_wrapsp impl_wrapbs (a0, ()) () = impl_wrap n a0 := by
  have h : runBody ([]) ty 7 n impl_wrapkp impl_wrapc Go.Proofs.Try.f92.results.toList impl_wraprs impl_wrapsp impl_wrapbs (a0, ()) () = impl_wrap_t n a0 := by kernel_rfl
  rw [h]
  rfl

theorem impl_wrap_ok (n : Nat) : FunOk P (impl_wrapF n) :=
  funOk_mk (C := []) (N := 7) (kp := impl_wrapkp) (c := impl_wrapc) (n := n) (G := fun x y => impl_wrap n x.1) follows (AllOk.mem (trivial : AllOk P ([]))) (by kernel_rfl : P.funcs[92]? = some Go.Proofs.Try.f92) (by kernel_rfl) (by kernel_rfl) (by kernel_rfl)
    (fun x y => impl_wrap_eq n x.1) (fun _ _ => map_same (fun _ => rfl) _) (fun _ _ _ _ => rfl)

abbrev impl_swingAtsp : List Sp := [.v true (.pair (.list (.int .i16)) (.pair (.int .i64) (.int .i64))), .v false (.int .i64)]
abbrev impl_swingAtbs : List (Bs × Bool) := []
abbrev impl_swingAtrs : List (Bool × List Rp) := [(false, [.v false (.int .i64)]), (false, [.v false (.int .i64)])]
noncomputable def impl_swingAtkp : Keep := { loop := fun id => match id with | _ => [], join := fun id => match id with | _ => none }
noncomputable def impl_swingAtc : Code := bodyOf Go.Proofs.Try.f127
noncomputable def impl_swingAtF (n : Nat) : Fun := { id := 127, sp := impl_swingAtsp, bs := impl_swingAtbs, rs := impl_swingAtrs, f := fun x y => impl_swingAt n x.1 x.2.1 }

theorem impl_swingAt_eq (n : Nat) (a0 : (List (Int)) × ((Int) × (Int))) (a1 : Int) : runBody ([impl_swingF n, impl_wrapF n]) ty 19 n impl_swingAtkp impl_swingAtc Go.Proofs.Try.f127.results.toList impl_swingAtrs impl_swingAtsp impl_swingAtbs (a0, (a1, ())) () = impl_swingAt n a0 a1 := by
  have h : runBody ([impl_swingF n, impl_wrapF n]) ty 19 n impl_swingAtkp impl_swingAtc Go.Proofs.Try.f127.results.toList impl_swingAtrs impl_swingAtsp impl_swingAtbs (a0, (a1, ())) () = impl_swingAt_t n a0 a1 := by kernel_rfl
  rw [h]
  rfl

theorem impl_swingAt_ok (n : Nat) : FunOk P (impl_swingAtF n) :=
  funOk_mk (C := [impl_swingF n, impl_wrapF n]) (N := 19) (kp := impl_swingAtkp) (c := impl_swingAtc) (n := n) (G := fun x y => impl_swingAt n x.1 x.2.1) follows (AllOk.mem (⟨impl_swing_ok n, ⟨impl_wrap_ok n, trivial⟩⟩ : AllOk P ([impl_swingF n, impl_wrapF n]))) (by kernel_rfl : P.funcs[127]? = some Go.Proofs.Try.f127) (by kernel_rfl) (by kernel_rfl) (by kernel_rfl)
    (fun x y => impl_swingAt_eq n x.1 x.2.1) (fun _ _ => map_same (fun _ => rfl) _) (fun _ _ _ _ => rfl)

abbrev impl_floorDivsp : List Sp := [.v false (.int .i64), .v false (.int .i64)]
abbrev impl_floorDivbs : List (Bs × Bool) := []
abbrev impl_floorDivrs : List (Bool × List Rp) := [(false, [.v false (.int .i64)])]
noncomputable def impl_floorDivkp : Keep := { loop := fun id => match id with | _ => [], join := fun id => match id with | _ => none }
noncomputable def impl_floorDivc : Code := bodyOf Go.Proofs.Try.f173
noncomputable def impl_floorDivF (n : Nat) : Fun := { id := 173, sp := impl_floorDivsp, bs := impl_floorDivbs, rs := impl_floorDivrs, f := fun x y => impl_floorDiv n x.1 x.2.1 }

theorem impl_floorDiv_eq (n : Nat) (a0 : Int) (a1 : Int) : runBody ([]) ty 23 n impl_floorDivkp impl_floorDivc Go.Proofs.Try.f173.results.toList impl_floorDivrs impl_floorDivsp impl_floorDivbs (a0, (a1, ())) () = impl_floorDiv n a0 a1 := by
  have h : runBody ([]) ty 23 n impl_floorDivkp impl_floorDivc Go.Proofs.Try.f173.results.toList impl_floorDivrs impl_floorDivsp impl_floorDivbs (a0, (a1, ())) () = impl_floorDiv_t n a0 a1 := by kernel_rfl
  rw [h]
  rfl

theorem impl_floorDiv_ok (n : Nat) : FunOk P (impl_floorDivF n) :=
  funOk_mk (C := []) (N := 23) (kp := impl_floorDivkp) (c := impl_floorDivc) (n := n) (G := fun x y => impl_floorDiv n x.1 x.2.1) follows (AllOk.mem (trivial : AllOk P ([]))) (by kernel_rfl : P.funcs[173]? = some Go.Proofs.Try.f173) (by kernel_rfl) (by kernel_rfl) (by kernel_rfl)
    (fun x y => impl_floorDiv_eq n x.1 x.2.1) (fun _ _ => map_same (fun _ => rfl) _) (fun _ _ _ _ => rfl)

abbrev impl_nearestsp : List Sp := [.v false (.int .i64), .v false (.int .i64)]
abbrev impl_nearestbs : List (Bs × Bool) := []
abbrev impl_nearestrs : List (Bool × List Rp) := [(false, [.v false (.int .i64)]), (false, [.v false .bool])]
noncomputable def impl_nearestkp : Keep := { loop := fun id => match id with | _ => [], join := fun id => match id with | _ => none }
noncomputable def impl_nearestc : Code := bodyOf Go.Proofs.Try.f170
noncomputable def impl_nearestF (n : Nat) : Fun := { id := 170, sp := impl_nearestsp, bs := impl_nearestbs, rs := impl_nearestrs, f := fun x y => impl_nearest n x.1 x.2.1 }

theorem impl_nearest_eq (n : Nat) (a0 : Int) (a1 : Int) : runBody ([impl_floorDivF n, impl_withinF n]) ty 17 n impl_nearestkp impl_nearestc Go.Proofs.Try.f170.results.toList impl_nearestrs impl_nearestsp impl_nearestbs (a0, (a1, ())) () = impl_nearest n a0 a1 := by
  have h : runBody ([impl_floorDivF n, impl_withinF n]) ty 17 n impl_nearestkp impl_nearestc Go.Proofs.Try.f170.results.toList impl_nearestrs impl_nearestsp impl_nearestbs (a0, (a1, ())) () = impl_nearest_t n a0 a1 := by kernel_rfl
  rw [h]
  rfl

theorem impl_nearest_ok (n : Nat) : FunOk P (impl_nearestF n) :=
  funOk_mk (C := [impl_floorDivF n, impl_withinF n]) (N := 17) (kp := impl_nearestkp) (c := impl_nearestc) (n := n) (G := fun x y => impl_nearest n x.1 x.2.1) follows (AllOk.mem (⟨impl_floorDiv_ok n, ⟨impl_within_ok n, trivial⟩⟩ : AllOk P ([impl_floorDivF n, impl_withinF n]))) (by kernel_rfl : P.funcs[170]? = some Go.Proofs.Try.f170) (by kernel_rfl) (by kernel_rfl) (by kernel_rfl)
    (fun x y => impl_nearest_eq n x.1 x.2.1) (fun _ _ => map_same (fun _ => rfl) _) (fun _ _ _ _ => rfl)

abbrev impl_headsp : List Sp := [.v true (.pair (.list (.int .i16)) (.pair (.int .i64) (.int .i64))), .v false (.int .i64), .v false (.int .i64)]
abbrev impl_headbs : List (Bs × Bool) := []
abbrev impl_headrs : List (Bool × List Rp) := [(false, [.v false (.int .i64)])]
noncomputable def impl_headkp : Keep := { loop := fun id => match id with | _ => [], join := fun id => match id with | _ => none }
noncomputable def impl_headc : Code := bodyOf Go.Proofs.Try.f91
noncomputable def impl_headF (n : Nat) : Fun := { id := 91, sp := impl_headsp, bs := impl_headbs, rs := impl_headrs, f := fun x y => impl_head n x.1 x.2.1 x.2.2.1 }

theorem impl_head_eq (n : Nat) (a0 : (List (Int)) × ((Int) × (Int))) (a1 : Int) (a2 : Int) : runBody ([impl_faultAtF n, impl_swingAtF n, impl_nearestF n, impl_wrapF n]) ty 51 n impl_headkp impl_headc Go.Proofs.Try.f91.results.toList impl_headrs impl_headsp impl_headbs (a0, (a1, (a2, ()))) () = impl_head n a0 a1 a2 := by
  have h : runBody ([impl_faultAtF n, impl_swingAtF n, impl_nearestF n, impl_wrapF n]) ty 51 n impl_headkp impl_headc Go.Proofs.Try.f91.results.toList impl_headrs impl_headsp impl_headbs (a0, (a1, (a2, ()))) () = impl_head_t n a0 a1 a2 := by kernel_rfl
  rw [h]
  rfl

theorem impl_head_ok (n : Nat) : FunOk P (impl_headF n) :=
  funOk_mk (C := [impl_faultAtF n, impl_swingAtF n, impl_nearestF n, impl_wrapF n]) (N := 51) (kp := impl_headkp) (c := impl_headc) (n := n) (G := fun x y => impl_head n x.1 x.2.1 x.2.2.1) follows (AllOk.mem (⟨impl_faultAt_ok n, ⟨impl_swingAt_ok n, ⟨impl_nearest_ok n, ⟨impl_wrap_ok n, trivial⟩⟩⟩⟩ : AllOk P ([impl_faultAtF n, impl_swingAtF n, impl_nearestF n, impl_wrapF n]))) (by kernel_rfl : P.funcs[91]? = some Go.Proofs.Try.f91) (by kernel_rfl) (by kernel_rfl) (by kernel_rfl)
    (fun x y => impl_head_eq n x.1 x.2.1 x.2.2.1) (fun _ _ => map_same (fun _ => rfl) _) (fun _ _ _ _ => rfl)

abbrev impl_turnFromsp : List Sp := [.v false (.int .i64), .v false (.int .i64)]
abbrev impl_turnFrombs : List (Bs × Bool) := []
abbrev impl_turnFromrs : List (Bool × List Rp) := [(false, [.v false (.int .i64)])]
noncomputable def impl_turnFromkp : Keep := { loop := fun id => match id with | _ => [], join := fun id => match id with | _ => none }
noncomputable def impl_turnFromc : Code := bodyOf Go.Proofs.Try.f90
noncomputable def impl_turnFromF (n : Nat) : Fun := { id := 90, sp := impl_turnFromsp, bs := impl_turnFrombs, rs := impl_turnFromrs, f := fun x y => impl_turnFrom n x.1 x.2.1 }

theorem impl_turnFrom_eq (n : Nat) (a0 : Int) (a1 : Int) : runBody ([impl_wrapF n]) ty 15 n impl_turnFromkp impl_turnFromc Go.Proofs.Try.f90.results.toList impl_turnFromrs impl_turnFromsp impl_turnFrombs (a0, (a1, ())) () = impl_turnFrom n a0 a1 := by
  have h : runBody ([impl_wrapF n]) ty 15 n impl_turnFromkp impl_turnFromc Go.Proofs.Try.f90.results.toList impl_turnFromrs impl_turnFromsp impl_turnFrombs (a0, (a1, ())) () = impl_turnFrom_t n a0 a1 := by kernel_rfl
  rw [h]
  rfl

theorem impl_turnFrom_ok (n : Nat) : FunOk P (impl_turnFromF n) :=
  funOk_mk (C := [impl_wrapF n]) (N := 15) (kp := impl_turnFromkp) (c := impl_turnFromc) (n := n) (G := fun x y => impl_turnFrom n x.1 x.2.1) follows (AllOk.mem (⟨impl_wrap_ok n, trivial⟩ : AllOk P ([impl_wrapF n]))) (by kernel_rfl : P.funcs[90]? = some Go.Proofs.Try.f90) (by kernel_rfl) (by kernel_rfl) (by kernel_rfl)
    (fun x y => impl_turnFrom_eq n x.1 x.2.1) (fun _ _ => map_same (fun _ => rfl) _) (fun _ _ _ _ => rfl)

abbrev impl_repeatsp : List Sp := [.v true (.pair (.list (.int .i16)) (.pair (.int .i64) (.int .i64))), .v false (.int .i64), .v false (.int .i64), .v false (.int .i64), .v false (.int .i64)]
abbrev impl_repeatbs : List (Bs × Bool) := []
abbrev impl_repeatrs : List (Bool × List Rp) := [(false, [.v false (.int .i64)]), (false, [.v false (.int .i64)])]
noncomputable def impl_repeatkp : Keep := { loop := fun id => match id with | _ => [], join := fun id => match id with | _ => none }
noncomputable def impl_repeatc : Code := bodyOf Go.Proofs.Try.f138
noncomputable def impl_repeatF (n : Nat) : Fun := { id := 138, sp := impl_repeatsp, bs := impl_repeatbs, rs := impl_repeatrs, f := fun x y => impl_repeat n x.1 x.2.1 x.2.2.1 x.2.2.2.1 x.2.2.2.2.1 }

theorem impl_repeat_eq (n : Nat) (a0 : (List (Int)) × ((Int) × (Int))) (a1 : Int) (a2 : Int) (a3 : Int) (a4 : Int) : runBody ([impl_headF n, impl_wrapF n, impl_turnFromF n, impl_floorDivF n]) ty 41 n impl_repeatkp impl_repeatc Go.Proofs.Try.f138.results.toList impl_repeatrs impl_repeatsp impl_repeatbs (a0, (a1, (a2, (a3, (a4, ()))))) () = impl_repeat n a0 a1 a2 a3 a4 := by
  have h : runBody ([impl_headF n, impl_wrapF n, impl_turnFromF n, impl_floorDivF n]) ty 41 n impl_repeatkp impl_repeatc Go.Proofs.Try.f138.results.toList impl_repeatrs impl_repeatsp impl_repeatbs (a0, (a1, (a2, (a3, (a4, ()))))) () = impl_repeat_t n a0 a1 a2 a3 a4 := by kernel_rfl
  rw [h]
  rfl

theorem impl_repeat_ok (n : Nat) : FunOk P (impl_repeatF n) :=
  funOk_mk (C := [impl_headF n, impl_wrapF n, impl_turnFromF n, impl_floorDivF n]) (N := 41) (kp := impl_repeatkp) (c := impl_repeatc) (n := n) (G := fun x y => impl_repeat n x.1 x.2.1 x.2.2.1 x.2.2.2.1 x.2.2.2.2.1) follows (AllOk.mem (⟨impl_head_ok n, ⟨impl_wrap_ok n, ⟨impl_turnFrom_ok n, ⟨impl_floorDiv_ok n, trivial⟩⟩⟩⟩ : AllOk P ([impl_headF n, impl_wrapF n, impl_turnFromF n, impl_floorDivF n]))) (by kernel_rfl : P.funcs[138]? = some Go.Proofs.Try.f138) (by kernel_rfl) (by kernel_rfl) (by kernel_rfl)
    (fun x y => impl_repeat_eq n x.1 x.2.1 x.2.2.1 x.2.2.2.1 x.2.2.2.2.1) (fun _ _ => map_same (fun _ => rfl) _) (fun _ _ _ _ => rfl)

abbrev impl_gcdsp : List Sp := [.v false (.int .i64), .v false (.int .i64)]
abbrev impl_gcdbs : List (Bs × Bool) := []
abbrev impl_gcdrs : List (Bool × List Rp) := [(false, [.v false (.int .i64)])]
noncomputable def impl_gcdkp : Keep := { loop := fun id => match id with | 1 => [1, 0] | _ => [], join := fun id => match id with | _ => none }
noncomputable def impl_gcdc : Code := bodyOf Go.Proofs.Try.f194
noncomputable def impl_gcdF (n : Nat) : Fun := { id := 194, sp := impl_gcdsp, bs := impl_gcdbs, rs := impl_gcdrs, f := fun x y => impl_gcd n x.1 x.2.1 }

theorem impl_gcd_l1_eq (n : Nat) : ∀ (k : Nat) (v1 : Int) (v0 : Int), iter (interp ([]) ty 15 0 n impl_gcdkp (codeAt impl_gcdc [1, 0, 0, 0])) (canon 0 (impl_gcdkp.loop 1)) (kAt ([]) ty 15 0 n impl_gcdkp impl_gcdc [1, 0, 0] [] (ending ty 0 Go.Proofs.Try.f194.results.toList impl_gcdrs impl_gcdbs)) k { env := [(1, .one (.sc (.int .i64 v1))), (0, .one (.sc (.int .i64 v0)))], bx := [], nx := 0 } = impl_gcd_l1 n k v1 v0
  | 0, _, _ => by kernel_rfl
  | k + 1, v1, v0 => by
    have h : iter (interp ([]) ty 15 0 n impl_gcdkp (codeAt impl_gcdc [1, 0, 0, 0])) (canon 0 (impl_gcdkp.loop 1)) (kAt ([]) ty 15 0 n impl_gcdkp impl_gcdc [1, 0, 0] [] (ending ty 0 Go.Proofs.Try.f194.results.toList impl_gcdrs impl_gcdbs)) (k + 1) { env := [(1, .one (.sc (.int .i64 v1))), (0, .one (.sc (.int .i64 v0)))], bx := [], nx := 0 } = impl_gcd_t1 n (fun v1 v0 => iter (interp ([]) ty 15 0 n impl_gcdkp (codeAt impl_gcdc [1, 0, 0, 0])) (canon 0 (impl_gcdkp.loop 1)) (kAt ([]) ty 15 0 n impl_gcdkp impl_gcdc [1, 0, 0] [] (ending ty 0 Go.Proofs.Try.f194.results.toList impl_gcdrs impl_gcdbs)) k { env := [(1, .one (.sc (.int .i64 v1))), (0, .one (.sc (.int .i64 v0)))], bx := [], nx := 0 }) v1 v0 := by kernel_rfl
    rw [h]
    have e := congrArg (fun g => impl_gcd_t1 n g v1 v0) (funext fun v1 => funext fun v0 => impl_gcd_l1_eq n k v1 v0)
    exact e

theorem impl_gcd_eq (n : Nat) (a0 : Int) (a1 : Int) : runBody ([]) ty 15 n impl_gcdkp impl_gcdc Go.Proofs.Try.f194.results.toList impl_gcdrs impl_gcdsp impl_gcdbs (a0, (a1, ())) () = impl_gcd n a0 a1 := by
  have h : runBody ([]) ty 15 n impl_gcdkp impl_gcdc Go.Proofs.Try.f194.results.toList impl_gcdrs impl_gcdsp impl_gcdbs (a0, (a1, ())) () = impl_gcd_t n (fun k v1 v0 => iter (interp ([]) ty 15 0 n impl_gcdkp (codeAt impl_gcdc [1, 0, 0, 0])) (canon 0 (impl_gcdkp.loop 1)) (kAt ([]) ty 15 0 n impl_gcdkp impl_gcdc [1, 0, 0] [] (ending ty 0 Go.Proofs.Try.f194.results.toList impl_gcdrs impl_gcdbs)) k { env := [(1, .one (.sc (.int .i64 v1))), (0, .one (.sc (.int .i64 v0)))], bx := [], nx := 0 }) a0 a1 := by kernel_rfl
  rw [h]
  have e := congrArg (fun h1 => impl_gcd_t n h1 a0 a1) (funext fun k => funext fun v1 => funext fun v0 => impl_gcd_l1_eq n k v1 v0)
  exact e

theorem impl_gcd_ok (n : Nat) : FunOk P (impl_gcdF n) :=
  funOk_mk (C := []) (N := 15) (kp := impl_gcdkp) (c := impl_gcdc) (n := n) (G := fun x y => impl_gcd n x.1 x.2.1) follows (AllOk.mem (trivial : AllOk P ([]))) (by kernel_rfl : P.funcs[194]? = some Go.Proofs.Try.f194) (by kernel_rfl) (by kernel_rfl) (by kernel_rfl)
    (fun x y => impl_gcd_eq n x.1 x.2.1) (fun _ _ => map_same (fun _ => rfl) _) (fun _ _ _ _ => rfl)

abbrev impl_ValidFracsp : List Sp := [.v true (.pair (.int .i64) (.int .i64))]
abbrev impl_ValidFracbs : List (Bs × Bool) := []
abbrev impl_ValidFracrs : List (Bool × List Rp) := [(false, [.v false .bool])]
noncomputable def impl_ValidFrackp : Keep := { loop := fun id => match id with | _ => [], join := fun id => match id with | _ => none }
noncomputable def impl_ValidFracc : Code := bodyOf Go.Proofs.Try.f176
noncomputable def impl_ValidFracF (n : Nat) : Fun := { id := 176, sp := impl_ValidFracsp, bs := impl_ValidFracbs, rs := impl_ValidFracrs, f := fun x y => impl_ValidFrac n x.1 }

theorem impl_ValidFrac_eq (n : Nat) (a0 : (Int) × (Int)) : runBody ([impl_withinF n, impl_gcdF n]) ty 19 n impl_ValidFrackp impl_ValidFracc Go.Proofs.Try.f176.results.toList impl_ValidFracrs impl_ValidFracsp impl_ValidFracbs (a0, ()) () = impl_ValidFrac n a0 := by
  have h : runBody ([impl_withinF n, impl_gcdF n]) ty 19 n impl_ValidFrackp impl_ValidFracc Go.Proofs.Try.f176.results.toList impl_ValidFracrs impl_ValidFracsp impl_ValidFracbs (a0, ()) () = impl_ValidFrac_t n a0 := by kernel_rfl
  rw [h]
  rfl

theorem impl_ValidFrac_ok (n : Nat) : FunOk P (impl_ValidFracF n) :=
  funOk_mk (C := [impl_withinF n, impl_gcdF n]) (N := 19) (kp := impl_ValidFrackp) (c := impl_ValidFracc) (n := n) (G := fun x y => impl_ValidFrac n x.1) follows (AllOk.mem (⟨impl_within_ok n, ⟨impl_gcd_ok n, trivial⟩⟩ : AllOk P ([impl_withinF n, impl_gcdF n]))) (by kernel_rfl : P.funcs[176]? = some Go.Proofs.Try.f176) (by kernel_rfl) (by kernel_rfl) (by kernel_rfl)
    (fun x y => impl_ValidFrac_eq n x.1) (fun _ _ => map_same (fun _ => rfl) _) (fun _ _ _ _ => rfl)

abbrev impl_fracOfsp : List Sp := [.v false (.int .i64), .v false (.int .i64)]
abbrev impl_fracOfbs : List (Bs × Bool) := []
abbrev impl_fracOfrs : List (Bool × List Rp) := [(true, [.v false (.pair (.int .i64) (.int .i64))]), (false, [.v false .bool])]
noncomputable def impl_fracOfkp : Keep := { loop := fun id => match id with | _ => [], join := fun id => match id with | _ => none }
noncomputable def impl_fracOfc : Code := bodyOf Go.Proofs.Try.f139
noncomputable def impl_fracOfF (n : Nat) : Fun := { id := 139, sp := impl_fracOfsp, bs := impl_fracOfbs, rs := impl_fracOfrs, f := fun x y => impl_fracOf n x.1 x.2.1 }

theorem impl_fracOf_eq (n : Nat) (a0 : Int) (a1 : Int) : runBody ([impl_gcdF n, impl_ValidFracF n]) ty 29 n impl_fracOfkp impl_fracOfc Go.Proofs.Try.f139.results.toList impl_fracOfrs impl_fracOfsp impl_fracOfbs (a0, (a1, ())) () = impl_fracOf n a0 a1 := by
  have h : runBody ([impl_gcdF n, impl_ValidFracF n]) ty 29 n impl_fracOfkp impl_fracOfc Go.Proofs.Try.f139.results.toList impl_fracOfrs impl_fracOfsp impl_fracOfbs (a0, (a1, ())) () = impl_fracOf_t n a0 a1 := by kernel_rfl
  rw [h]
  rfl

theorem impl_fracOf_ok (n : Nat) : FunOk P (impl_fracOfF n) :=
  funOk_mk (C := [impl_gcdF n, impl_ValidFracF n]) (N := 29) (kp := impl_fracOfkp) (c := impl_fracOfc) (n := n) (G := fun x y => impl_fracOf n x.1 x.2.1) follows (AllOk.mem (⟨impl_gcd_ok n, ⟨impl_ValidFrac_ok n, trivial⟩⟩ : AllOk P ([impl_gcdF n, impl_ValidFracF n]))) (by kernel_rfl : P.funcs[139]? = some Go.Proofs.Try.f139) (by kernel_rfl) (by kernel_rfl) (by kernel_rfl)
    (fun x y => impl_fracOf_eq n x.1 x.2.1) (fun _ _ => map_same (fun _ => rfl) _) (fun _ _ _ _ => rfl)

abbrev impl_BestRepeatssp : List Sp := [.v true (.pair (.list (.int .i16)) (.pair (.int .i64) (.int .i64))), .v false (.int .i64), .v false (.int .i64), .v false (.int .i64), .v false (.int .i64)]
abbrev impl_BestRepeatsbs : List (Bs × Bool) := []
abbrev impl_BestRepeatsrs : List (Bool × List Rp) := [(false, [.v false (.int .i64)]), (true, [.v false (.pair (.int .i64) (.int .i64))]), (false, [.v false (.int .i64)])]
noncomputable def impl_BestRepeatskp : Keep := { loop := fun id => match id with | 8 => [17, 16, 14, 2, 4, 1, 5, 11, 15, 3] | _ => [], join := fun id => match id with | _ => none }
noncomputable def impl_BestRepeatsc : Code := bodyOf Go.Proofs.Try.f61
noncomputable def impl_BestRepeatsF (n : Nat) : Fun := { id := 61, sp := impl_BestRepeatssp, bs := impl_BestRepeatsbs, rs := impl_BestRepeatsrs, f := fun x y => impl_BestRepeats n x.1 x.2.1 x.2.2.1 x.2.2.2.1 x.2.2.2.2.1 }

theorem impl_BestRepeats_l8_eq (n : Nat) : ∀ (k : Nat) (v17 : Int) (v16 : Int) (v14 : Int) (v2 : Int) (v4 : Int) (v1 : Int) (v15 : Int) (v3 : Int) (b0_0 : List (Int)) (b0_1 : Int) (b0_2 : Int) (b1_0 : Int) (b1_1 : Int), iter (interp ([impl_headCodeF n, impl_withinF n, impl_repeatF n, impl_fracOfF n]) ty 90 0 n impl_BestRepeatskp (codeAt impl_BestRepeatsc [1, 1, 1, 1, 1, 0, 1, 0, 0])) (canon 0 (impl_BestRepeatskp.loop 8)) (kAt ([impl_headCodeF n, impl_withinF n, impl_repeatF n, impl_fracOfF n]) ty 90 0 n impl_BestRepeatskp impl_BestRepeatsc [1, 1, 1, 1, 1, 0, 1, 0] [] (ending ty 0 Go.Proofs.Try.f61.results.toList impl_BestRepeatsrs impl_BestRepeatsbs)) k { env := [(17, .one (.sc (.int .i64 v17))), (16, .one (.sc (.int .i64 v16))), (14, .one (.sc (.int .i64 v14))), (2, .one (.sc (.int .i64 v2))), (4, .one (.sc (.int .i64 v4))), (1, .one (.sc (.int .i64 v1))), (5, .one (.ref 0 0 0 0 0 0)), (11, .one (.ref 1 0 0 0 0 0)), (15, .one (.sc (.int .i64 v15))), (3, .one (.sc (.int .i64 v3)))], bx := [(0, .var 26 [.list true (.int .i16) b0_0, .sc (.int .i64 b0_1), .sc (.int .i64 b0_2)]), (1, .var 44 [.sc (.int .i64 b1_0), .sc (.int .i64 b1_1)])], nx := 2 } = impl_BestRepeats_l8 n k v17 v16 v14 v2 v4 v1 v15 v3 b0_0 b0_1 b0_2 b1_0 b1_1
  | 0, _, _, _, _, _, _, _, _, _, _, _, _, _ => by kernel_rfl
  | k + 1, v17, v16, v14, v2, v4, v1, v15, v3, b0_0, b0_1, b0_2, b1_0, b1_1 => by
    have h : iter (interp ([impl_headCodeF n, impl_withinF n, impl_repeatF n, impl_fracOfF n]) ty 90 0 n impl_BestRepeatskp (codeAt impl_BestRepeatsc [1, 1, 1, 1, 1, 0, 1, 0, 0])) (canon 0 (impl_BestRepeatskp.loop 8)) (kAt ([impl_headCodeF n, impl_withinF n, impl_repeatF n, impl_fracOfF n]) ty 90 0 n impl_BestRepeatskp impl_BestRepeatsc [1, 1, 1, 1, 1, 0, 1, 0] [] (ending ty 0 Go.Proofs.Try.f61.results.toList impl_BestRepeatsrs impl_BestRepeatsbs)) (k + 1) { env := [(17, .one (.sc (.int .i64 v17))), (16, .one (.sc (.int .i64 v16))), (14, .one (.sc (.int .i64 v14))), (2, .one (.sc (.int .i64 v2))), (4, .one (.sc (.int .i64 v4))), (1, .one (.sc (.int .i64 v1))), (5, .one (.ref 0 0 0 0 0 0)), (11, .one (.ref 1 0 0 0 0 0)), (15, .one (.sc (.int .i64 v15))), (3, .one (.sc (.int .i64 v3)))], bx := [(0, .var 26 [.list true (.int .i16) b0_0, .sc (.int .i64 b0_1), .sc (.int .i64 b0_2)]), (1, .var 44 [.sc (.int .i64 b1_0), .sc (.int .i64 b1_1)])], nx := 2 } = impl_BestRepeats_t8 n (fun v17 v16 v14 v2 v4 v1 v15 v3 b0_0 b0_1 b0_2 b1_0 b1_1 => iter (interp ([impl_headCodeF n, impl_withinF n, impl_repeatF n, impl_fracOfF n]) ty 90 0 n impl_BestRepeatskp (codeAt impl_BestRepeatsc [1, 1, 1, 1, 1, 0, 1, 0, 0])) (canon 0 (impl_BestRepeatskp.loop 8)) (kAt ([impl_headCodeF n, impl_withinF n, impl_repeatF n, impl_fracOfF n]) ty 90 0 n impl_BestRepeatskp impl_BestRepeatsc [1, 1, 1, 1, 1, 0, 1, 0] [] (ending ty 0 Go.Proofs.Try.f61.results.toList impl_BestRepeatsrs impl_BestRepeatsbs)) k { env := [(17, .one (.sc (.int .i64 v17))), (16, .one (.sc (.int .i64 v16))), (14, .one (.sc (.int .i64 v14))), (2, .one (.sc (.int .i64 v2))), (4, .one (.sc (.int .i64 v4))), (1, .one (.sc (.int .i64 v1))), (5, .one (.ref 0 0 0 0 0 0)), (11, .one (.ref 1 0 0 0 0 0)), (15, .one (.sc (.int .i64 v15))), (3, .one (.sc (.int .i64 v3)))], bx := [(0, .var 26 [.list true (.int .i16) b0_0, .sc (.int .i64 b0_1), .sc (.int .i64 b0_2)]), (1, .var 44 [.sc (.int .i64 b1_0), .sc (.int .i64 b1_1)])], nx := 2 }) v17 v16 v14 v2 v4 v1 v15 v3 b0_0 b0_1 b0_2 b1_0 b1_1 := by kernel_rfl
    rw [h]
    have e := congrArg (fun g => impl_BestRepeats_t8 n g v17 v16 v14 v2 v4 v1 v15 v3 b0_0 b0_1 b0_2 b1_0 b1_1) (funext fun v17 => funext fun v16 => funext fun v14 => funext fun v2 => funext fun v4 => funext fun v1 => funext fun v15 => funext fun v3 => funext fun b0_0 => funext fun b0_1 => funext fun b0_2 => funext fun b1_0 => funext fun b1_1 => impl_BestRepeats_l8_eq n k v17 v16 v14 v2 v4 v1 v15 v3 b0_0 b0_1 b0_2 b1_0 b1_1)
    exact e

theorem impl_BestRepeats_eq (n : Nat) (a0 : (List (Int)) × ((Int) × (Int))) (a1 : Int) (a2 : Int) (a3 : Int) (a4 : Int) : runBody ([impl_headCodeF n, impl_withinF n, impl_repeatF n, impl_fracOfF n]) ty 90 n impl_BestRepeatskp impl_BestRepeatsc Go.Proofs.Try.f61.results.toList impl_BestRepeatsrs impl_BestRepeatssp impl_BestRepeatsbs (a0, (a1, (a2, (a3, (a4, ()))))) () = impl_BestRepeats n a0 a1 a2 a3 a4 := by
  have h : runBody ([impl_headCodeF n, impl_withinF n, impl_repeatF n, impl_fracOfF n]) ty 90 n impl_BestRepeatskp impl_BestRepeatsc Go.Proofs.Try.f61.results.toList impl_BestRepeatsrs impl_BestRepeatssp impl_BestRepeatsbs (a0, (a1, (a2, (a3, (a4, ()))))) () = impl_BestRepeats_t n (fun k v17 v16 v14 v2 v4 v1 v15 v3 b0_0 b0_1 b0_2 b1_0 b1_1 => iter (interp ([impl_headCodeF n, impl_withinF n, impl_repeatF n, impl_fracOfF n]) ty 90 0 n impl_BestRepeatskp (codeAt impl_BestRepeatsc [1, 1, 1, 1, 1, 0, 1, 0, 0])) (canon 0 (impl_BestRepeatskp.loop 8)) (kAt ([impl_headCodeF n, impl_withinF n, impl_repeatF n, impl_fracOfF n]) ty 90 0 n impl_BestRepeatskp impl_BestRepeatsc [1, 1, 1, 1, 1, 0, 1, 0] [] (ending ty 0 Go.Proofs.Try.f61.results.toList impl_BestRepeatsrs impl_BestRepeatsbs)) k { env := [(17, .one (.sc (.int .i64 v17))), (16, .one (.sc (.int .i64 v16))), (14, .one (.sc (.int .i64 v14))), (2, .one (.sc (.int .i64 v2))), (4, .one (.sc (.int .i64 v4))), (1, .one (.sc (.int .i64 v1))), (5, .one (.ref 0 0 0 0 0 0)), (11, .one (.ref 1 0 0 0 0 0)), (15, .one (.sc (.int .i64 v15))), (3, .one (.sc (.int .i64 v3)))], bx := [(0, .var 26 [.list true (.int .i16) b0_0, .sc (.int .i64 b0_1), .sc (.int .i64 b0_2)]), (1, .var 44 [.sc (.int .i64 b1_0), .sc (.int .i64 b1_1)])], nx := 2 }) a0 a1 a2 a3 a4 := by kernel_rfl
  rw [h]
  have e := congrArg (fun h8 => impl_BestRepeats_t n h8 a0 a1 a2 a3 a4) (funext fun k => funext fun v17 => funext fun v16 => funext fun v14 => funext fun v2 => funext fun v4 => funext fun v1 => funext fun v15 => funext fun v3 => funext fun b0_0 => funext fun b0_1 => funext fun b0_2 => funext fun b1_0 => funext fun b1_1 => impl_BestRepeats_l8_eq n k v17 v16 v14 v2 v4 v1 v15 v3 b0_0 b0_1 b0_2 b1_0 b1_1)
  exact e

theorem impl_BestRepeats_ok (n : Nat) : FunOk P (impl_BestRepeatsF n) :=
  funOk_mk (C := [impl_headCodeF n, impl_withinF n, impl_repeatF n, impl_fracOfF n]) (N := 90) (kp := impl_BestRepeatskp) (c := impl_BestRepeatsc) (n := n) (G := fun x y => impl_BestRepeats n x.1 x.2.1 x.2.2.1 x.2.2.2.1 x.2.2.2.2.1) follows (AllOk.mem (⟨impl_headCode_ok n, ⟨impl_within_ok n, ⟨impl_repeat_ok n, ⟨impl_fracOf_ok n, trivial⟩⟩⟩⟩ : AllOk P ([impl_headCodeF n, impl_withinF n, impl_repeatF n, impl_fracOfF n]))) (by kernel_rfl : P.funcs[61]? = some Go.Proofs.Try.f61) (by kernel_rfl) (by kernel_rfl) (by kernel_rfl)
    (fun x y => impl_BestRepeats_eq n x.1 x.2.1 x.2.2.1 x.2.2.2.1 x.2.2.2.2.1) (fun _ _ => map_same (fun _ => rfl) _) (fun _ _ _ _ => rfl)

abbrev laws_eqFracsp : List Sp := [.v true (.pair (.int .i64) (.int .i64)), .v true (.pair (.int .i64) (.int .i64))]
abbrev laws_eqFracbs : List (Bs × Bool) := []
abbrev laws_eqFracrs : List (Bool × List Rp) := [(false, [.v false .bool])]
noncomputable def laws_eqFrackp : Keep := { loop := fun id => match id with | _ => [], join := fun id => match id with | _ => none }
noncomputable def laws_eqFracc : Code := bodyOf Go.Proofs.Try.f58
noncomputable def laws_eqFracF (n : Nat) : Fun := { id := 58, sp := laws_eqFracsp, bs := laws_eqFracbs, rs := laws_eqFracrs, f := fun x y => laws_eqFrac n x.1 x.2.1 }

theorem laws_eqFrac_eq (n : Nat) (a0 : (Int) × (Int)) (a1 : (Int) × (Int)) : runBody ([]) ty 15 n laws_eqFrackp laws_eqFracc Go.Proofs.Try.f58.results.toList laws_eqFracrs laws_eqFracsp laws_eqFracbs (a0, (a1, ())) () = laws_eqFrac n a0 a1 := by
  have h : runBody ([]) ty 15 n laws_eqFrackp laws_eqFracc Go.Proofs.Try.f58.results.toList laws_eqFracrs laws_eqFracsp laws_eqFracbs (a0, (a1, ())) () = laws_eqFrac_t n a0 a1 := by kernel_rfl
  rw [h]
  rfl

theorem laws_eqFrac_ok (n : Nat) : FunOk P (laws_eqFracF n) :=
  funOk_mk (C := []) (N := 15) (kp := laws_eqFrackp) (c := laws_eqFracc) (n := n) (G := fun x y => laws_eqFrac n x.1 x.2.1) follows (AllOk.mem (trivial : AllOk P ([]))) (by kernel_rfl : P.funcs[58]? = some Go.Proofs.Try.f58) (by kernel_rfl) (by kernel_rfl) (by kernel_rfl)
    (fun x y => laws_eqFrac_eq n x.1 x.2.1) (fun _ _ => map_same (fun _ => rfl) _) (fun _ _ _ _ => rfl)

abbrev laws_eqInt16Ssp : List Sp := [.v false (.list (.int .i16)), .v false (.list (.int .i16))]
abbrev laws_eqInt16Sbs : List (Bs × Bool) := []
abbrev laws_eqInt16Srs : List (Bool × List Rp) := [(false, [.v false .bool])]
noncomputable def laws_eqInt16Skp : Keep := { loop := fun id => match id with | 4 => [5, 1, 0] | _ => [], join := fun id => match id with | _ => none }
noncomputable def laws_eqInt16Sc : Code := bodyOf Go.Proofs.Try.f140
noncomputable def laws_eqInt16SF (n : Nat) : Fun := { id := 140, sp := laws_eqInt16Ssp, bs := laws_eqInt16Sbs, rs := laws_eqInt16Srs, f := fun x y => laws_eqInt16S n x.1 x.2.1 }

theorem laws_eqInt16S_l4_eq (n : Nat) : ∀ (k : Nat) (v5 : Int) (v1 : List (Int)) (v0 : List (Int)), iter (interp ([]) ty 26 0 n laws_eqInt16Skp (codeAt laws_eqInt16Sc [1, 1, 0, 1, 0, 0])) (canon 0 (laws_eqInt16Skp.loop 4)) (kAt ([]) ty 26 0 n laws_eqInt16Skp laws_eqInt16Sc [1, 1, 0, 1, 0] [] (ending ty 0 Go.Proofs.Try.f140.results.toList laws_eqInt16Srs laws_eqInt16Sbs)) k { env := [(5, .one (.sc (.int .i64 v5))), (1, .one (.list true (.int .i16) v1)), (0, .one (.list true (.int .i16) v0))], bx := [], nx := 0 } = laws_eqInt16S_l4 n k v5 v1 v0
  | 0, _, _, _ => by kernel_rfl
  | k + 1, v5, v1, v0 => by
    have h : iter (interp ([]) ty 26 0 n laws_eqInt16Skp (codeAt laws_eqInt16Sc [1, 1, 0, 1, 0, 0])) (canon 0 (laws_eqInt16Skp.loop 4)) (kAt ([]) ty 26 0 n laws_eqInt16Skp laws_eqInt16Sc [1, 1, 0, 1, 0] [] (ending ty 0 Go.Proofs.Try.f140.results.toList laws_eqInt16Srs laws_eqInt16Sbs)) (k + 1) { env := [(5, .one (.sc (.int .i64 v5))), (1, .one (.list true (.int .i16) v1)), (0, .one (.list true (.int .i16) v0))], bx := [], nx := 0 } = laws_eqInt16S_t4 n (fun v5 v1 v0 => iter (interp ([]) ty 26 0 n laws_eqInt16Skp (codeAt laws_eqInt16Sc [1, 1, 0, 1, 0, 0])) (canon 0 (laws_eqInt16Skp.loop 4)) (kAt ([]) ty 26 0 n laws_eqInt16Skp laws_eqInt16Sc [1, 1, 0, 1, 0] [] (ending ty 0 Go.Proofs.Try.f140.results.toList laws_eqInt16Srs laws_eqInt16Sbs)) k { env := [(5, .one (.sc (.int .i64 v5))), (1, .one (.list true (.int .i16) v1)), (0, .one (.list true (.int .i16) v0))], bx := [], nx := 0 }) v5 v1 v0 := by kernel_rfl
    rw [h]
    have e := congrArg (fun g => laws_eqInt16S_t4 n g v5 v1 v0) (funext fun v5 => funext fun v1 => funext fun v0 => laws_eqInt16S_l4_eq n k v5 v1 v0)
    exact e

theorem laws_eqInt16S_eq (n : Nat) (a0 : List (Int)) (a1 : List (Int)) : runBody ([]) ty 26 n laws_eqInt16Skp laws_eqInt16Sc Go.Proofs.Try.f140.results.toList laws_eqInt16Srs laws_eqInt16Ssp laws_eqInt16Sbs (a0, (a1, ())) () = laws_eqInt16S n a0 a1 := by
  have h : runBody ([]) ty 26 n laws_eqInt16Skp laws_eqInt16Sc Go.Proofs.Try.f140.results.toList laws_eqInt16Srs laws_eqInt16Ssp laws_eqInt16Sbs (a0, (a1, ())) () = laws_eqInt16S_t n (fun k v5 v1 v0 => iter (interp ([]) ty 26 0 n laws_eqInt16Skp (codeAt laws_eqInt16Sc [1, 1, 0, 1, 0, 0])) (canon 0 (laws_eqInt16Skp.loop 4)) (kAt ([]) ty 26 0 n laws_eqInt16Skp laws_eqInt16Sc [1, 1, 0, 1, 0] [] (ending ty 0 Go.Proofs.Try.f140.results.toList laws_eqInt16Srs laws_eqInt16Sbs)) k { env := [(5, .one (.sc (.int .i64 v5))), (1, .one (.list true (.int .i16) v1)), (0, .one (.list true (.int .i16) v0))], bx := [], nx := 0 }) a0 a1 := by kernel_rfl
  rw [h]
  have e := congrArg (fun h4 => laws_eqInt16S_t n h4 a0 a1) (funext fun k => funext fun v5 => funext fun v1 => funext fun v0 => laws_eqInt16S_l4_eq n k v5 v1 v0)
  exact e

theorem laws_eqInt16S_ok (n : Nat) : FunOk P (laws_eqInt16SF n) :=
  funOk_mk (C := []) (N := 26) (kp := laws_eqInt16Skp) (c := laws_eqInt16Sc) (n := n) (G := fun x y => laws_eqInt16S n x.1 x.2.1) follows (AllOk.mem (trivial : AllOk P ([]))) (by kernel_rfl : P.funcs[140]? = some Go.Proofs.Try.f140) (by kernel_rfl) (by kernel_rfl) (by kernel_rfl)
    (fun x y => laws_eqInt16S_eq n x.1 x.2.1) (fun _ _ => map_same (fun _ => rfl) _) (fun _ _ _ _ => rfl)

abbrev laws_eqDisksp : List Sp := [.v true (.pair (.list (.int .i16)) (.pair (.int .i64) (.int .i64))), .v true (.pair (.list (.int .i16)) (.pair (.int .i64) (.int .i64)))]
abbrev laws_eqDiskbs : List (Bs × Bool) := []
abbrev laws_eqDiskrs : List (Bool × List Rp) := [(false, [.v false .bool])]
noncomputable def laws_eqDiskkp : Keep := { loop := fun id => match id with | _ => [], join := fun id => match id with | _ => none }
noncomputable def laws_eqDiskc : Code := bodyOf Go.Proofs.Try.f59
noncomputable def laws_eqDiskF (n : Nat) : Fun := { id := 59, sp := laws_eqDisksp, bs := laws_eqDiskbs, rs := laws_eqDiskrs, f := fun x y => laws_eqDisk n x.1 x.2.1 }

theorem laws_eqDisk_eq (n : Nat) (a0 : (List (Int)) × ((Int) × (Int))) (a1 : (List (Int)) × ((Int) × (Int))) : runBody ([laws_eqInt16SF n]) ty 21 n laws_eqDiskkp laws_eqDiskc Go.Proofs.Try.f59.results.toList laws_eqDiskrs laws_eqDisksp laws_eqDiskbs (a0, (a1, ())) () = laws_eqDisk n a0 a1 := by
  have h : runBody ([laws_eqInt16SF n]) ty 21 n laws_eqDiskkp laws_eqDiskc Go.Proofs.Try.f59.results.toList laws_eqDiskrs laws_eqDisksp laws_eqDiskbs (a0, (a1, ())) () = laws_eqDisk_t n a0 a1 := by kernel_rfl
  rw [h]
  rfl

theorem laws_eqDisk_ok (n : Nat) : FunOk P (laws_eqDiskF n) :=
  funOk_mk (C := [laws_eqInt16SF n]) (N := 21) (kp := laws_eqDiskkp) (c := laws_eqDiskc) (n := n) (G := fun x y => laws_eqDisk n x.1 x.2.1) follows (AllOk.mem (⟨laws_eqInt16S_ok n, trivial⟩ : AllOk P ([laws_eqInt16SF n]))) (by kernel_rfl : P.funcs[59]? = some Go.Proofs.Try.f59) (by kernel_rfl) (by kernel_rfl) (by kernel_rfl)
    (fun x y => laws_eqDisk_eq n x.1 x.2.1) (fun _ _ => map_same (fun _ => rfl) _) (fun _ _ _ _ => rfl)

abbrev laws_FnExactBestRepeatssp : List Sp := [.v true (.pair (.list (.int .i16)) (.pair (.int .i64) (.int .i64))), .v false (.int .i64), .v false (.int .i64), .v false (.int .i64), .v false (.int .i64)]
abbrev laws_FnExactBestRepeatsbs : List (Bs × Bool) := []
abbrev laws_FnExactBestRepeatsrs : List (Bool × List Rp) := [(false, [.v false .bool])]
noncomputable def laws_FnExactBestRepeatskp : Keep := { loop := fun id => match id with | _ => [], join := fun id => match id with | _ => none }
noncomputable def laws_FnExactBestRepeatsc : Code := bodyOf Go.Proofs.Try.f9
noncomputable def laws_FnExactBestRepeatsF (n : Nat) : Fun := { id := 9, sp := laws_FnExactBestRepeatssp, bs := laws_FnExactBestRepeatsbs, rs := laws_FnExactBestRepeatsrs, f := fun x y => laws_FnExactBestRepeats n x.1 x.2.1 x.2.2.1 x.2.2.2.1 x.2.2.2.2.1 }

theorem laws_FnExactBestRepeats_eq (n : Nat) (a0 : (List (Int)) × ((Int) × (Int))) (a1 : Int) (a2 : Int) (a3 : Int) (a4 : Int) : runBody ([laws_szDiskF n, laws_toDiskF n, spec_BestRepeatsF n, impl_BestRepeatsF n, laws_eqFracF n, laws_eqDiskF n]) ty 66 n laws_FnExactBestRepeatskp laws_FnExactBestRepeatsc Go.Proofs.Try.f9.results.toList laws_FnExactBestRepeatsrs laws_FnExactBestRepeatssp laws_FnExactBestRepeatsbs (a0, (a1, (a2, (a3, (a4, ()))))) () = laws_FnExactBestRepeats n a0 a1 a2 a3 a4 := by
  have h : runBody ([laws_szDiskF n, laws_toDiskF n, spec_BestRepeatsF n, impl_BestRepeatsF n, laws_eqFracF n, laws_eqDiskF n]) ty 66 n laws_FnExactBestRepeatskp laws_FnExactBestRepeatsc Go.Proofs.Try.f9.results.toList laws_FnExactBestRepeatsrs laws_FnExactBestRepeatssp laws_FnExactBestRepeatsbs (a0, (a1, (a2, (a3, (a4, ()))))) () = laws_FnExactBestRepeats_t n a0 a1 a2 a3 a4 := by kernel_rfl
  rw [h]
  rfl

theorem laws_FnExactBestRepeats_ok (n : Nat) : FunOk P (laws_FnExactBestRepeatsF n) :=
  funOk_mk (C := [laws_szDiskF n, laws_toDiskF n, spec_BestRepeatsF n, impl_BestRepeatsF n, laws_eqFracF n, laws_eqDiskF n]) (N := 66) (kp := laws_FnExactBestRepeatskp) (c := laws_FnExactBestRepeatsc) (n := n) (G := fun x y => laws_FnExactBestRepeats n x.1 x.2.1 x.2.2.1 x.2.2.2.1 x.2.2.2.2.1) follows (AllOk.mem (⟨laws_szDisk_ok n, ⟨laws_toDisk_ok n, ⟨spec_BestRepeats_ok n, ⟨impl_BestRepeats_ok n, ⟨laws_eqFrac_ok n, ⟨laws_eqDisk_ok n, trivial⟩⟩⟩⟩⟩⟩ : AllOk P ([laws_szDiskF n, laws_toDiskF n, spec_BestRepeatsF n, impl_BestRepeatsF n, laws_eqFracF n, laws_eqDiskF n]))) (by kernel_rfl : P.funcs[9]? = some Go.Proofs.Try.f9) (by kernel_rfl) (by kernel_rfl) (by kernel_rfl)
    (fun x y => laws_FnExactBestRepeats_eq n x.1 x.2.1 x.2.2.1 x.2.2.2.1 x.2.2.2.2.1) (fun _ _ => map_same (fun _ => rfl) _) (fun _ _ _ _ => rfl)

end Go.Abs
