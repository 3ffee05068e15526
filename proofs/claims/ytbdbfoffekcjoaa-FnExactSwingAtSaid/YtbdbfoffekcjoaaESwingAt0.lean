import Derived.Test.YtbdbfoffekcjoaaDSwingAt0
import Derived.Test.YtbdbfoffekcjoaaProg
import Derived.Test.YtbdbfoffekcjoaaRow
import Derived.KernelRfl
namespace Go.Abs
open Go.Proofs
set_option maxRecDepth 100000
set_option linter.unusedVariables false

noncomputable abbrev P : Program := Try.prog
noncomputable abbrev ty : Nat → Option TyI := tyOf P
def bodyOf (f : Func) : Code := match f.body with | some c => c | none => .skip
theorem follows : P.follows .mixedOrders = true := by kernel_rfl

abbrev laws_szInt16Ssp : List Sp := [.v false (.list (.int .i16)), .v false (.int .i64)]
abbrev laws_szInt16Sbs : List (Bs × Bool) := []
abbrev laws_szInt16Srs : List (Bool × List Rp) := [(false, [.v false (.int .i64)])]
noncomputable def laws_szInt16Skp : Keep := { loop := fun id => match id with | _ => [], join := fun id => match id with | _ => none }
noncomputable def laws_szInt16Sc : Code := bodyOf Go.Proofs.Try.f121
noncomputable def laws_szInt16SF (n : Nat) : Fun := { id := 121, sp := laws_szInt16Ssp, bs := laws_szInt16Sbs, rs := laws_szInt16Srs, f := fun x y => laws_szInt16S n x.1 x.2.1 }

theorem laws_szInt16S_eq (n : Nat) (a0 : List (Int)) (a1 : Int) : runBody ([]) ty 12 n laws_szInt16Skp laws_szInt16Sc Go.Proofs.Try.f121.results.toList laws_szInt16Srs laws_szInt16Ssp laws_szInt16Sbs (a0, (a1, ())) () = laws_szInt16S n a0 a1 := by
  have h : runBody ([]) ty 12 n laws_szInt16Skp laws_szInt16Sc Go.Proofs.Try.f121.results.toList laws_szInt16Srs laws_szInt16Ssp laws_szInt16Sbs (a0, (a1, ())) () = laws_szInt16S_t n a0 a1 := by kernel_rfl
  rw [h]
  rfl

theorem laws_szInt16S_ok (n : Nat) : FunOk P (laws_szInt16SF n) :=
  funOk_mk (C := []) (N := 12) (kp := laws_szInt16Skp) (c := laws_szInt16Sc) (n := n) (G := fun x y => laws_szInt16S n x.1 x.2.1) follows (AllOk.mem (trivial : AllOk P ([]))) (by kernel_rfl : P.funcs[121]? = some Go.Proofs.Try.f121) (by kernel_rfl) (by kernel_rfl) (by kernel_rfl)
    (fun x y => laws_szInt16S_eq n x.1 x.2.1) (fun _ _ => map_same (fun _ => rfl) _) (fun _ _ _ _ => rfl)

abbrev laws_szDisksp : List Sp := [.v true (.pair (.list (.int .i16)) (.pair (.int .i64) (.int .i64))), .v false (.int .i64)]
abbrev laws_szDiskbs : List (Bs × Bool) := []
abbrev laws_szDiskrs : List (Bool × List Rp) := [(false, [.v false (.int .i64)])]
noncomputable def laws_szDiskkp : Keep := { loop := fun id => match id with | _ => [], join := fun id => match id with | _ => none }
noncomputable def laws_szDiskc : Code := bodyOf Go.Proofs.Try.f55
noncomputable def laws_szDiskF (n : Nat) : Fun := { id := 55, sp := laws_szDisksp, bs := laws_szDiskbs, rs := laws_szDiskrs, f := fun x y => laws_szDisk n x.1 x.2.1 }

theorem laws_szDisk_eq (n : Nat) (a0 : (List (Int)) × ((Int) × (Int))) (a1 : Int) : runBody ([laws_szInt16SF n]) ty 12 n laws_szDiskkp laws_szDiskc Go.Proofs.Try.f55.results.toList laws_szDiskrs laws_szDisksp laws_szDiskbs (a0, (a1, ())) () = laws_szDisk n a0 a1 := by
  have h : runBody ([laws_szInt16SF n]) ty 12 n laws_szDiskkp laws_szDiskc Go.Proofs.Try.f55.results.toList laws_szDiskrs laws_szDisksp laws_szDiskbs (a0, (a1, ())) () = laws_szDisk_t n a0 a1 := by kernel_rfl
  rw [h]
  rfl

theorem laws_szDisk_ok (n : Nat) : FunOk P (laws_szDiskF n) :=
  funOk_mk (C := [laws_szInt16SF n]) (N := 12) (kp := laws_szDiskkp) (c := laws_szDiskc) (n := n) (G := fun x y => laws_szDisk n x.1 x.2.1) follows (AllOk.mem (⟨laws_szInt16S_ok n, trivial⟩ : AllOk P ([laws_szInt16SF n]))) (by kernel_rfl : P.funcs[55]? = some Go.Proofs.Try.f55) (by kernel_rfl) (by kernel_rfl) (by kernel_rfl)
    (fun x y => laws_szDisk_eq n x.1 x.2.1) (fun _ _ => map_same (fun _ => rfl) _) (fun _ _ _ _ => rfl)

abbrev laws_toInt16Ssp : List Sp := [.v false (.list (.int .i16))]
abbrev laws_toInt16Sbs : List (Bs × Bool) := []
abbrev laws_toInt16Srs : List (Bool × List Rp) := [(false, [.new  (.int .i16)])]
noncomputable def laws_toInt16Skp : Keep := { loop := fun id => match id with | 3 => [4, 0, 3] | _ => [], join := fun id => match id with | _ => none }
noncomputable def laws_toInt16Sc : Code := bodyOf Go.Proofs.Try.f124
noncomputable def laws_toInt16SF (n : Nat) : Fun := { id := 124, sp := laws_toInt16Ssp, bs := laws_toInt16Sbs, rs := laws_toInt16Srs, f := fun x y => laws_toInt16S n x.1 }

theorem laws_toInt16S_l3_eq (n : Nat) : ∀ (k : Nat) (v4 : Int) (v0 : List (Int)) (b0 : List (Int)), iter (interp ([]) ty 22 0 n laws_toInt16Skp (codeAt laws_toInt16Sc [1, 1, 0, 1, 0, 0])) (canon 0 (laws_toInt16Skp.loop 3)) (kAt ([]) ty 22 0 n laws_toInt16Skp laws_toInt16Sc [1, 1, 0, 1, 0] [] (ending ty 0 Go.Proofs.Try.f124.results.toList laws_toInt16Srs laws_toInt16Sbs)) k { env := [(4, .one (.sc (.int .i64 v4))), (0, .one (.list true (.int .i16) v0)), (3, .one (.slice 0 0 none))], bx := [(0, .row 0 (.int .i16) b0)], nx := 1 } = laws_toInt16S_l3 n k v4 v0 b0
  | 0, _, _, _ => by kernel_rfl
  | k + 1, v4, v0, b0 => by
    have h : iter (interp ([]) ty 22 0 n laws_toInt16Skp (codeAt laws_toInt16Sc [1, 1, 0, 1, 0, 0])) (canon 0 (laws_toInt16Skp.loop 3)) (kAt ([]) ty 22 0 n laws_toInt16Skp laws_toInt16Sc [1, 1, 0, 1, 0] [] (ending ty 0 Go.Proofs.Try.f124.results.toList laws_toInt16Srs laws_toInt16Sbs)) (k + 1) { env := [(4, .one (.sc (.int .i64 v4))), (0, .one (.list true (.int .i16) v0)), (3, .one (.slice 0 0 none))], bx := [(0, .row 0 (.int .i16) b0)], nx := 1 } = laws_toInt16S_t3 n (fun v4 v0 b0 => iter (interp ([]) ty 22 0 n laws_toInt16Skp (codeAt laws_toInt16Sc [1, 1, 0, 1, 0, 0])) (canon 0 (laws_toInt16Skp.loop 3)) (kAt ([]) ty 22 0 n laws_toInt16Skp laws_toInt16Sc [1, 1, 0, 1, 0] [] (ending ty 0 Go.Proofs.Try.f124.results.toList laws_toInt16Srs laws_toInt16Sbs)) k { env := [(4, .one (.sc (.int .i64 v4))), (0, .one (.list true (.int .i16) v0)), (3, .one (.slice 0 0 none))], bx := [(0, .row 0 (.int .i16) b0)], nx := 1 }) v4 v0 b0 := by kernel_rfl
    rw [h]
    have e := congrArg (fun g => laws_toInt16S_t3 n g v4 v0 b0) (funext fun v4 => funext fun v0 => funext fun b0 => laws_toInt16S_l3_eq n k v4 v0 b0)
    exact e

theorem laws_toInt16S_eq (n : Nat) (a0 : List (Int)) : runBody ([]) ty 22 n laws_toInt16Skp laws_toInt16Sc Go.Proofs.Try.f124.results.toList laws_toInt16Srs laws_toInt16Ssp laws_toInt16Sbs (a0, ()) () = laws_toInt16S n a0 := by
  have h : runBody ([]) ty 22 n laws_toInt16Skp laws_toInt16Sc Go.Proofs.Try.f124.results.toList laws_toInt16Srs laws_toInt16Ssp laws_toInt16Sbs (a0, ()) () = laws_toInt16S_t n (fun k v4 v0 b0 => iter (interp ([]) ty 22 0 n laws_toInt16Skp (codeAt laws_toInt16Sc [1, 1, 0, 1, 0, 0])) (canon 0 (laws_toInt16Skp.loop 3)) (kAt ([]) ty 22 0 n laws_toInt16Skp laws_toInt16Sc [1, 1, 0, 1, 0] [] (ending ty 0 Go.Proofs.Try.f124.results.toList laws_toInt16Srs laws_toInt16Sbs)) k { env := [(4, .one (.sc (.int .i64 v4))), (0, .one (.list true (.int .i16) v0)), (3, .one (.slice 0 0 none))], bx := [(0, .row 0 (.int .i16) b0)], nx := 1 }) a0 := by kernel_rfl
  rw [h]
  have e := congrArg (fun h3 => laws_toInt16S_t n h3 a0) (funext fun k => funext fun v4 => funext fun v0 => funext fun b0 => laws_toInt16S_l3_eq n k v4 v0 b0)
  exact e

theorem laws_toInt16S_ok (n : Nat) : FunOk P (laws_toInt16SF n) :=
  funOk_mk (C := []) (N := 22) (kp := laws_toInt16Skp) (c := laws_toInt16Sc) (n := n) (G := fun x y => laws_toInt16S n x.1) follows (AllOk.mem (trivial : AllOk P ([]))) (by kernel_rfl : P.funcs[124]? = some Go.Proofs.Try.f124) (by kernel_rfl) (by kernel_rfl) (by kernel_rfl)
    (fun x y => laws_toInt16S_eq n x.1) (fun _ _ => map_same (fun _ => rfl) _) (fun _ _ _ _ => rfl)

abbrev laws_toDisksp : List Sp := [.v true (.pair (.list (.int .i16)) (.pair (.int .i64) (.int .i64)))]
abbrev laws_toDiskbs : List (Bs × Bool) := []
abbrev laws_toDiskrs : List (Bool × List Rp) := [(true, [.v false (.pair (.list (.int .i16)) (.pair (.int .i64) (.int .i64)))])]
noncomputable def laws_toDiskkp : Keep := { loop := fun id => match id with | _ => [], join := fun id => match id with | _ => none }
noncomputable def laws_toDiskc : Code := bodyOf Go.Proofs.Try.f57
noncomputable def laws_toDiskF (n : Nat) : Fun := { id := 57, sp := laws_toDisksp, bs := laws_toDiskbs, rs := laws_toDiskrs, f := fun x y => laws_toDisk n x.1 }

theorem laws_toDisk_eq (n : Nat) (a0 : (List (Int)) × ((Int) × (Int))) : runBody ([laws_toInt16SF n]) ty 15 n laws_toDiskkp laws_toDiskc Go.Proofs.Try.f57.results.toList laws_toDiskrs laws_toDisksp laws_toDiskbs (a0, ()) () = laws_toDisk n a0 := by
  have h : runBody ([laws_toInt16SF n]) ty 15 n laws_toDiskkp laws_toDiskc Go.Proofs.Try.f57.results.toList laws_toDiskrs laws_toDisksp laws_toDiskbs (a0, ()) () = laws_toDisk_t n a0 := by kernel_rfl
  rw [h]
  rfl

theorem laws_toDisk_ok (n : Nat) : FunOk P (laws_toDiskF n) :=
  funOk_mk (C := [laws_toInt16SF n]) (N := 15) (kp := laws_toDiskkp) (c := laws_toDiskc) (n := n) (G := fun x y => laws_toDisk n x.1) follows (AllOk.mem (⟨laws_toInt16S_ok n, trivial⟩ : AllOk P ([laws_toInt16SF n]))) (by kernel_rfl : P.funcs[57]? = some Go.Proofs.Try.f57) (by kernel_rfl) (by kernel_rfl) (by kernel_rfl)
    (fun x y => laws_toDisk_eq n x.1) (fun _ _ => map_same (fun _ => rfl) _) (fun _ _ _ _ => rfl)

abbrev spec_l00Insp : List Sp := [.v false (.int .i64), .v false (.int .i64), .v false (.int .i64)]
abbrev spec_l00Inbs : List (Bs × Bool) := []
abbrev spec_l00Inrs : List (Bool × List Rp) := [(false, [.v false .bool])]
noncomputable def spec_l00Inkp : Keep := { loop := fun id => match id with | _ => [], join := fun id => match id with | _ => none }
noncomputable def spec_l00Inc : Code := bodyOf Go.Proofs.Try.f66
noncomputable def spec_l00InF (n : Nat) : Fun := { id := 66, sp := spec_l00Insp, bs := spec_l00Inbs, rs := spec_l00Inrs, f := fun x y => spec_l00In n x.1 x.2.1 x.2.2.1 }

theorem spec_l00In_eq (n : Nat) (a0 : Int) (a1 : Int) (a2 : Int) : runBody ([]) ty 15 n spec_l00Inkp spec_l00Inc Go.Proofs.Try.f66.results.toList spec_l00Inrs spec_l00Insp spec_l00Inbs (a0, (a1, (a2, ()))) () = spec_l00In n a0 a1 a2 := by
  have h : runBody ([]) ty 15 n spec_l00Inkp spec_l00Inc Go.Proofs.Try.f66.results.toList spec_l00Inrs spec_l00Insp spec_l00Inbs (a0, (a1, (a2, ()))) () = spec_l00In_t n a0 a1 a2 := by kernel_rfl
  rw [h]
  rfl

theorem spec_l00In_ok (n : Nat) : FunOk P (spec_l00InF n) :=
  funOk_mk (C := []) (N := 15) (kp := spec_l00Inkp) (c := spec_l00Inc) (n := n) (G := fun x y => spec_l00In n x.1 x.2.1 x.2.2.1) follows (AllOk.mem (trivial : AllOk P ([]))) (by kernel_rfl : P.funcs[66]? = some Go.Proofs.Try.f66) (by kernel_rfl) (by kernel_rfl) (by kernel_rfl)
    (fun x y => spec_l00In_eq n x.1 x.2.1 x.2.2.1) (fun _ _ => map_same (fun _ => rfl) _) (fun _ _ _ _ => rfl)

abbrev spec_l03Oksp : List Sp := [.ref 0]
abbrev spec_l03Okbs : List (Bs × Bool) := [(.var 83 (.pair (.list (.int .i16)) (.pair (.int .i64) (.int .i64))), true)]
abbrev spec_l03Okrs : List (Bool × List Rp) := [(false, [.v false .bool])]
noncomputable def spec_l03Okkp : Keep := { loop := fun id => match id with | 5 => [4, 0] | _ => [], join := fun id => match id with | _ => none }
noncomputable def spec_l03Okc : Code := bodyOf Go.Proofs.Try.f167
noncomputable def spec_l03OkF (n : Nat) : Fun := { id := 167, sp := spec_l03Oksp, bs := spec_l03Okbs, rs := spec_l03Okrs, f := fun x y => spec_l03Ok n y.1 }

theorem spec_l03Ok_l5_eq (n : Nat) : ∀ (k : Nat) (v4 : Int) (b0_0 : List (Int)) (b0_1 : Int) (b0_2 : Int), iter (interp ([spec_l00InF n]) ty 49 1 n spec_l03Okkp (codeAt spec_l03Okc [1, 1, 1, 0, 1, 0, 0])) (canon 1 (spec_l03Okkp.loop 5)) (kAt ([spec_l00InF n]) ty 49 1 n spec_l03Okkp spec_l03Okc [1, 1, 1, 0, 1, 0] [] (ending ty 1 Go.Proofs.Try.f167.results.toList spec_l03Okrs spec_l03Okbs)) k { env := [(4, .one (.sc (.int .i64 v4))), (0, .one (.ref 0 0 0 0 0 0))], bx := [(0, .var 83 [.list true (.int .i16) b0_0, .sc (.int .i64 b0_1), .sc (.int .i64 b0_2)])], nx := 1 } = spec_l03Ok_l5 n k v4 b0_0 b0_1 b0_2
  | 0, _, _, _, _ => by kernel_rfl
  | k + 1, v4, b0_0, b0_1, b0_2 => by
    have h : iter (interp ([spec_l00InF n]) ty 49 1 n spec_l03Okkp (codeAt spec_l03Okc [1, 1, 1, 0, 1, 0, 0])) (canon 1 (spec_l03Okkp.loop 5)) (kAt ([spec_l00InF n]) ty 49 1 n spec_l03Okkp spec_l03Okc [1, 1, 1, 0, 1, 0] [] (ending ty 1 Go.Proofs.Try.f167.results.toList spec_l03Okrs spec_l03Okbs)) (k + 1) { env := [(4, .one (.sc (.int .i64 v4))), (0, .one (.ref 0 0 0 0 0 0))], bx := [(0, .var 83 [.list true (.int .i16) b0_0, .sc (.int .i64 b0_1), .sc (.int .i64 b0_2)])], nx := 1 } = spec_l03Ok_t5 n (fun v4 b0_0 b0_1 b0_2 => iter (interp ([spec_l00InF n]) ty 49 1 n spec_l03Okkp (codeAt spec_l03Okc [1, 1, 1, 0, 1, 0, 0])) (canon 1 (spec_l03Okkp.loop 5)) (kAt ([spec_l00InF n]) ty 49 1 n spec_l03Okkp spec_l03Okc [1, 1, 1, 0, 1, 0] [] (ending ty 1 Go.Proofs.Try.f167.results.toList spec_l03Okrs spec_l03Okbs)) k { env := [(4, .one (.sc (.int .i64 v4))), (0, .one (.ref 0 0 0 0 0 0))], bx := [(0, .var 83 [.list true (.int .i16) b0_0, .sc (.int .i64 b0_1), .sc (.int .i64 b0_2)])], nx := 1 }) v4 b0_0 b0_1 b0_2 := by kernel_rfl
    rw [h]
    have e := congrArg (fun g => spec_l03Ok_t5 n g v4 b0_0 b0_1 b0_2) (funext fun v4 => funext fun b0_0 => funext fun b0_1 => funext fun b0_2 => spec_l03Ok_l5_eq n k v4 b0_0 b0_1 b0_2)
    exact e

theorem spec_l03Ok_eq (n : Nat) (b0 : (List (Int)) × ((Int) × (Int))) : runBody ([spec_l00InF n]) ty 49 n spec_l03Okkp spec_l03Okc Go.Proofs.Try.f167.results.toList spec_l03Okrs spec_l03Oksp spec_l03Okbs ((), ()) (b0, ()) = spec_l03Ok n b0 := by
  have h : runBody ([spec_l00InF n]) ty 49 n spec_l03Okkp spec_l03Okc Go.Proofs.Try.f167.results.toList spec_l03Okrs spec_l03Oksp spec_l03Okbs ((), ()) (b0, ()) = spec_l03Ok_t n (fun k v4 b0_0 b0_1 b0_2 => iter (interp ([spec_l00InF n]) ty 49 1 n spec_l03Okkp (codeAt spec_l03Okc [1, 1, 1, 0, 1, 0, 0])) (canon 1 (spec_l03Okkp.loop 5)) (kAt ([spec_l00InF n]) ty 49 1 n spec_l03Okkp spec_l03Okc [1, 1, 1, 0, 1, 0] [] (ending ty 1 Go.Proofs.Try.f167.results.toList spec_l03Okrs spec_l03Okbs)) k { env := [(4, .one (.sc (.int .i64 v4))), (0, .one (.ref 0 0 0 0 0 0))], bx := [(0, .var 83 [.list true (.int .i16) b0_0, .sc (.int .i64 b0_1), .sc (.int .i64 b0_2)])], nx := 1 }) b0 := by kernel_rfl
  rw [h]
  have e := congrArg (fun h5 => spec_l03Ok_t n h5 b0) (funext fun k => funext fun v4 => funext fun b0_0 => funext fun b0_1 => funext fun b0_2 => spec_l03Ok_l5_eq n k v4 b0_0 b0_1 b0_2)
  exact e

theorem spec_l03Ok_ok (n : Nat) : FunOk P (spec_l03OkF n) :=
  funOk_mk (C := [spec_l00InF n]) (N := 49) (kp := spec_l03Okkp) (c := spec_l03Okc) (n := n) (G := fun x y => spec_l03Ok n y.1) follows (AllOk.mem (⟨spec_l00In_ok n, trivial⟩ : AllOk P ([spec_l00InF n]))) (by kernel_rfl : P.funcs[167]? = some Go.Proofs.Try.f167) (by kernel_rfl) (by kernel_rfl) (by kernel_rfl)
    (fun x y => spec_l03Ok_eq n y.1) (fun _ _ => map_same (fun _ => rfl) _) (fun _ _ _ _ => rfl)

abbrev spec_l03Anglesp : List Sp := [.v false (.int .i64)]
abbrev spec_l03Anglebs : List (Bs × Bool) := []
abbrev spec_l03Anglers : List (Bool × List Rp) := [(false, [.v false .bool])]
noncomputable def spec_l03Anglekp : Keep := { loop := fun id => match id with | _ => [], join := fun id => match id with | _ => none }
noncomputable def spec_l03Anglec : Code := bodyOf Go.Proofs.Try.f72
noncomputable def spec_l03AngleF (n : Nat) : Fun := { id := 72, sp := spec_l03Anglesp, bs := spec_l03Anglebs, rs := spec_l03Anglers, f := fun x y => spec_l03Angle n x.1 }

theorem spec_l03Angle_eq (n : Nat) (a0 : Int) : runBody ([spec_l00InF n]) ty 5 n spec_l03Anglekp spec_l03Anglec Go.Proofs.Try.f72.results.toList spec_l03Anglers spec_l03Anglesp spec_l03Anglebs (a0, ()) () = spec_l03Angle n a0 := by
  have h : runBody ([spec_l00InF n]) ty 5 n spec_l03Anglekp spec_l03Anglec Go.Proofs.Try.f72.results.toList spec_l03Anglers spec_l03Anglesp spec_l03Anglebs (a0, ()) () = spec_l03Angle_t n a0 := by kernel_rfl
  rw [h]
  rfl

theorem spec_l03Angle_ok (n : Nat) : FunOk P (spec_l03AngleF n) :=
  funOk_mk (C := [spec_l00InF n]) (N := 5) (kp := spec_l03Anglekp) (c := spec_l03Anglec) (n := n) (G := fun x y => spec_l03Angle n x.1) follows (AllOk.mem (⟨spec_l00In_ok n, trivial⟩ : AllOk P ([spec_l00InF n]))) (by kernel_rfl : P.funcs[72]? = some Go.Proofs.Try.f72) (by kernel_rfl) (by kernel_rfl) (by kernel_rfl)
    (fun x y => spec_l03Angle_eq n x.1) (fun _ _ => map_same (fun _ => rfl) _) (fun _ _ _ _ => rfl)

abbrev spec_l03Askedsp : List Sp := [.ref 0, .v false (.int .i64)]
abbrev spec_l03Askedbs : List (Bs × Bool) := [(.var 83 (.pair (.list (.int .i16)) (.pair (.int .i64) (.int .i64))), true)]
abbrev spec_l03Askedrs : List (Bool × List Rp) := [(false, [.v false (.int .i64)])]
noncomputable def spec_l03Askedkp : Keep := { loop := fun id => match id with | _ => [], join := fun id => match id with | _ => none }
noncomputable def spec_l03Askedc : Code := bodyOf Go.Proofs.Try.f122
noncomputable def spec_l03AskedF (n : Nat) : Fun := { id := 122, sp := spec_l03Askedsp, bs := spec_l03Askedbs, rs := spec_l03Askedrs, f := fun x y => spec_l03Asked n x.2.1 y.1 }

theorem spec_l03Asked_eq (n : Nat) (a1 : Int) (b0 : (List (Int)) × ((Int) × (Int))) : runBody ([spec_l03OkF n, spec_l03AngleF n]) ty 13 n spec_l03Askedkp spec_l03Askedc Go.Proofs.Try.f122.results.toList spec_l03Askedrs spec_l03Askedsp spec_l03Askedbs ((), (a1, ())) (b0, ()) = spec_l03Asked n a1 b0 := by
  have h : runBody ([spec_l03OkF n, spec_l03AngleF n]) ty 13 n spec_l03Askedkp spec_l03Askedc Go.Proofs.Try.f122.results.toList spec_l03Askedrs spec_l03Askedsp spec_l03Askedbs ((), (a1, ())) (b0, ()) = spec_l03Asked_t n a1 b0 := by kernel_rfl
  rw [h]
  rfl

theorem spec_l03Asked_ok (n : Nat) : FunOk P (spec_l03AskedF n) :=
  funOk_mk (C := [spec_l03OkF n, spec_l03AngleF n]) (N := 13) (kp := spec_l03Askedkp) (c := spec_l03Askedc) (n := n) (G := fun x y => spec_l03Asked n x.2.1 y.1) follows (AllOk.mem (⟨spec_l03Ok_ok n, ⟨spec_l03Angle_ok n, trivial⟩⟩ : AllOk P ([spec_l03OkF n, spec_l03AngleF n]))) (by kernel_rfl : P.funcs[122]? = some Go.Proofs.Try.f122) (by kernel_rfl) (by kernel_rfl) (by kernel_rfl)
    (fun x y => spec_l03Asked_eq n x.2.1 y.1) (fun _ _ => map_same (fun _ => rfl) _) (fun _ _ _ _ => rfl)

abbrev spec_l03Swingsp : List Sp := [.v false (.int .i64)]
abbrev spec_l03Swingbs : List (Bs × Bool) := []
abbrev spec_l03Swingrs : List (Bool × List Rp) := [(false, [.v false (.int .i64)])]
noncomputable def spec_l03Swingkp : Keep := { loop := fun id => match id with | _ => [], join := fun id => match id with | _ => none }
noncomputable def spec_l03Swingc : Code := bodyOf Go.Proofs.Try.f172
noncomputable def spec_l03SwingF (n : Nat) : Fun := { id := 172, sp := spec_l03Swingsp, bs := spec_l03Swingbs, rs := spec_l03Swingrs, f := fun x y => spec_l03Swing n x.1 }

theorem spec_l03Swing_eq (n : Nat) (a0 : Int) : runBody ([]) ty 12 n spec_l03Swingkp spec_l03Swingc Go.Proofs.Try.f172.results.toList spec_l03Swingrs spec_l03Swingsp spec_l03Swingbs (a0, ()) () = spec_l03Swing n a0 := by
  have h : runBody ([]) ty 12 n spec_l03Swingkp spec_l03Swingc Go.Proofs.Try.f172.results.toList spec_l03Swingrs spec_l03Swingsp spec_l03Swingbs (a0, ()) () = spec_l03Swing_t n a0 := by kernel_rfl
  rw [h]
  rfl

theorem spec_l03Swing_ok (n : Nat) : FunOk P (spec_l03SwingF n) :=
  funOk_mk (C := []) (N := 12) (kp := spec_l03Swingkp) (c := spec_l03Swingc) (n := n) (G := fun x y => spec_l03Swing n x.1) follows (AllOk.mem (trivial : AllOk P ([]))) (by kernel_rfl : P.funcs[172]? = some Go.Proofs.Try.f172) (by kernel_rfl) (by kernel_rfl) (by kernel_rfl)
    (fun x y => spec_l03Swing_eq n x.1) (fun _ _ => map_same (fun _ => rfl) _) (fun _ _ _ _ => rfl)

abbrev spec_l03Wrapsp : List Sp := [.v false (.int .i64)]
abbrev spec_l03Wrapbs : List (Bs × Bool) := []
abbrev spec_l03Wraprs : List (Bool × List Rp) := [(false, [.v false (.int .i64)])]
noncomputable def spec_l03Wrapkp : Keep := { loop := fun id => match id with | _ => [], join := fun id => match id with | _ => none }
noncomputable def spec_l03Wrapc : Code := bodyOf Go.Proofs.Try.f75
noncomputable def spec_l03WrapF (n : Nat) : Fun := { id := 75, sp := spec_l03Wrapsp, bs := spec_l03Wrapbs, rs := spec_l03Wraprs, f := fun x y => spec_l03Wrap n x.1 }

theorem spec_l03Wrap_eq (n : Nat) (a0 : Int) : runBody ([]) ty 10 n spec_l03Wrapkp spec_l03Wrapc Go.Proofs.Try.f75.results.toList spec_l03Wraprs spec_l03Wrapsp spec_l03Wrapbs (a0, ()) () = spec_l03Wrap n a0 := by
  have h : runBody ([]) ty 10 n spec_l03Wrapkp spec_l03Wrapc Go.Proofs.Try.f75.results.toList spec_l03Wraprs spec_l03Wrapsp spec_l03Wrapbs (a0, ()) () = spec_l03Wrap_t n a0 := by kernel_rfl
  rw [h]
  rfl

theorem spec_l03Wrap_ok (n : Nat) : FunOk P (spec_l03WrapF n) :=
  funOk_mk (C := []) (N := 10) (kp := spec_l03Wrapkp) (c := spec_l03Wrapc) (n := n) (G := fun x y => spec_l03Wrap n x.1) follows (AllOk.mem (trivial : AllOk P ([]))) (by kernel_rfl : P.funcs[75]? = some Go.Proofs.Try.f75) (by kernel_rfl) (by kernel_rfl) (by kernel_rfl)
    (fun x y => spec_l03Wrap_eq n x.1) (fun _ _ => map_same (fun _ => rfl) _) (fun _ _ _ _ => rfl)

abbrev spec_l03Offsp : List Sp := [.ref 0, .v false (.int .i64)]
abbrev spec_l03Offbs : List (Bs × Bool) := [(.var 83 (.pair (.list (.int .i16)) (.pair (.int .i64) (.int .i64))), true)]
abbrev spec_l03Offrs : List (Bool × List Rp) := [(false, [.v false (.int .i64)])]
noncomputable def spec_l03Offkp : Keep := { loop := fun id => match id with | _ => [], join := fun id => match id with | _ => none }
noncomputable def spec_l03Offc : Code := bodyOf Go.Proofs.Try.f132
noncomputable def spec_l03OffF (n : Nat) : Fun := { id := 132, sp := spec_l03Offsp, bs := spec_l03Offbs, rs := spec_l03Offrs, f := fun x y => spec_l03Off n x.2.1 y.1 }

theorem spec_l03Off_eq (n : Nat) (a1 : Int) (b0 : (List (Int)) × ((Int) × (Int))) : runBody ([spec_l03SwingF n, spec_l03WrapF n]) ty 22 n spec_l03Offkp spec_l03Offc Go.Proofs.Try.f132.results.toList spec_l03Offrs spec_l03Offsp spec_l03Offbs ((), (a1, ())) (b0, ()) = spec_l03Off n a1 b0 := by
  have h : runBody ([spec_l03SwingF n, spec_l03WrapF n]) ty 22 n spec_l03Offkp spec_l03Offc Go.Proofs.Try.f132.results.toList spec_l03Offrs spec_l03Offsp spec_l03Offbs ((), (a1, ())) (b0, ()) = spec_l03Off_t n a1 b0 := by kernel_rfl
  rw [h]
  rfl

theorem spec_l03Off_ok (n : Nat) : FunOk P (spec_l03OffF n) :=
  funOk_mk (C := [spec_l03SwingF n, spec_l03WrapF n]) (N := 22) (kp := spec_l03Offkp) (c := spec_l03Offc) (n := n) (G := fun x y => spec_l03Off n x.2.1 y.1) follows (AllOk.mem (⟨spec_l03Swing_ok n, ⟨spec_l03Wrap_ok n, trivial⟩⟩ : AllOk P ([spec_l03SwingF n, spec_l03WrapF n]))) (by kernel_rfl : P.funcs[132]? = some Go.Proofs.Try.f132) (by kernel_rfl) (by kernel_rfl) (by kernel_rfl)
    (fun x y => spec_l03Off_eq n x.2.1 y.1) (fun _ _ => map_same (fun _ => rfl) _) (fun _ _ _ _ => rfl)

abbrev spec_l01Abssp : List Sp := [.v false (.int .i64)]
abbrev spec_l01Absbs : List (Bs × Bool) := []
abbrev spec_l01Absrs : List (Bool × List Rp) := [(false, [.v false (.int .i64)])]
noncomputable def spec_l01Abskp : Keep := { loop := fun id => match id with | _ => [], join := fun id => match id with | _ => none }
noncomputable def spec_l01Absc : Code := bodyOf Go.Proofs.Try.f136
noncomputable def spec_l01AbsF (n : Nat) : Fun := { id := 136, sp := spec_l01Abssp, bs := spec_l01Absbs, rs := spec_l01Absrs, f := fun x y => spec_l01Abs n x.1 }

theorem spec_l01Abs_eq (n : Nat) (a0 : Int) : runBody ([]) ty 8 n spec_l01Abskp spec_l01Absc Go.Proofs.Try.f136.results.toList spec_l01Absrs spec_l01Abssp spec_l01Absbs (a0, ()) () = spec_l01Abs n a0 := by
  have h : runBody ([]) ty 8 n spec_l01Abskp spec_l01Absc Go.Proofs.Try.f136.results.toList spec_l01Absrs spec_l01Abssp spec_l01Absbs (a0, ()) () = spec_l01Abs_t n a0 := by kernel_rfl
  rw [h]
  rfl

theorem spec_l01Abs_ok (n : Nat) : FunOk P (spec_l01AbsF n) :=
  funOk_mk (C := []) (N := 8) (kp := spec_l01Abskp) (c := spec_l01Absc) (n := n) (G := fun x y => spec_l01Abs n x.1) follows (AllOk.mem (trivial : AllOk P ([]))) (by kernel_rfl : P.funcs[136]? = some Go.Proofs.Try.f136) (by kernel_rfl) (by kernel_rfl) (by kernel_rfl)
    (fun x y => spec_l01Abs_eq n x.1) (fun _ _ => map_same (fun _ => rfl) _) (fun _ _ _ _ => rfl)

abbrev spec_l01Gcdsp : List Sp := [.v false (.int .i64), .v false (.int .i64)]
abbrev spec_l01Gcdbs : List (Bs × Bool) := []
abbrev spec_l01Gcdrs : List (Bool × List Rp) := [(false, [.v false (.int .i64)])]
noncomputable def spec_l01Gcdkp : Keep := { loop := fun id => match id with | 1 => [1, 0] | _ => [], join := fun id => match id with | _ => none }
noncomputable def spec_l01Gcdc : Code := bodyOf Go.Proofs.Try.f135
noncomputable def spec_l01GcdF (n : Nat) : Fun := { id := 135, sp := spec_l01Gcdsp, bs := spec_l01Gcdbs, rs := spec_l01Gcdrs, f := fun x y => spec_l01Gcd n x.1 x.2.1 }

theorem spec_l01Gcd_l1_eq (n : Nat) : ∀ (k : Nat) (v1 : Int) (v0 : Int), iter (interp ([]) ty 14 0 n spec_l01Gcdkp (codeAt spec_l01Gcdc [1, 0, 0, 0])) (canon 0 (spec_l01Gcdkp.loop 1)) (kAt ([]) ty 14 0 n spec_l01Gcdkp spec_l01Gcdc [1, 0, 0] [] (ending ty 0 Go.Proofs.Try.f135.results.toList spec_l01Gcdrs spec_l01Gcdbs)) k { env := [(1, .one (.sc (.int .i64 v1))), (0, .one (.sc (.int .i64 v0)))], bx := [], nx := 0 } = spec_l01Gcd_l1 n k v1 v0
  | 0, _, _ => by kernel_rfl
  | k + 1, v1, v0 => by
    have h : iter (interp ([]) ty 14 0 n spec_l01Gcdkp (codeAt spec_l01Gcdc [1, 0, 0, 0])) (canon 0 (spec_l01Gcdkp.loop 1)) (kAt ([]) ty 14 0 n spec_l01Gcdkp spec_l01Gcdc [1, 0, 0] [] (ending ty 0 Go.Proofs.Try.f135.results.toList spec_l01Gcdrs spec_l01Gcdbs)) (k + 1) { env := [(1, .one (.sc (.int .i64 v1))), (0, .one (.sc (.int .i64 v0)))], bx := [], nx := 0 } = spec_l01Gcd_t1 n (fun v1 v0 => iter (interp ([]) ty 14 0 n spec_l01Gcdkp (codeAt spec_l01Gcdc [1, 0, 0, 0])) (canon 0 (spec_l01Gcdkp.loop 1)) (kAt ([]) ty 14 0 n spec_l01Gcdkp spec_l01Gcdc [1, 0, 0] [] (ending ty 0 Go.Proofs.Try.f135.results.toList spec_l01Gcdrs spec_l01Gcdbs)) k { env := [(1, .one (.sc (.int .i64 v1))), (0, .one (.sc (.int .i64 v0)))], bx := [], nx := 0 }) v1 v0 := by kernel_rfl
    rw [h]
    have e := congrArg (fun g => spec_l01Gcd_t1 n g v1 v0) (funext fun v1 => funext fun v0 => spec_l01Gcd_l1_eq n k v1 v0)
    exact e

theorem spec_l01Gcd_eq (n : Nat) (a0 : Int) (a1 : Int) : runBody ([]) ty 14 n spec_l01Gcdkp spec_l01Gcdc Go.Proofs.Try.f135.results.toList spec_l01Gcdrs spec_l01Gcdsp spec_l01Gcdbs (a0, (a1, ())) () = spec_l01Gcd n a0 a1 := by
  have h : runBody ([]) ty 14 n spec_l01Gcdkp spec_l01Gcdc Go.Proofs.Try.f135.results.toList spec_l01Gcdrs spec_l01Gcdsp spec_l01Gcdbs (a0, (a1, ())) () = spec_l01Gcd_t n (fun k v1 v0 => iter (interp ([]) ty 14 0 n spec_l01Gcdkp (codeAt spec_l01Gcdc [1, 0, 0, 0])) (canon 0 (spec_l01Gcdkp.loop 1)) (kAt ([]) ty 14 0 n spec_l01Gcdkp spec_l01Gcdc [1, 0, 0] [] (ending ty 0 Go.Proofs.Try.f135.results.toList spec_l01Gcdrs spec_l01Gcdbs)) k { env := [(1, .one (.sc (.int .i64 v1))), (0, .one (.sc (.int .i64 v0)))], bx := [], nx := 0 }) a0 a1 := by kernel_rfl
  rw [h]
  have e := congrArg (fun h1 => spec_l01Gcd_t n h1 a0 a1) (funext fun k => funext fun v1 => funext fun v0 => spec_l01Gcd_l1_eq n k v1 v0)
  exact e

theorem spec_l01Gcd_ok (n : Nat) : FunOk P (spec_l01GcdF n) :=
  funOk_mk (C := []) (N := 14) (kp := spec_l01Gcdkp) (c := spec_l01Gcdc) (n := n) (G := fun x y => spec_l01Gcd n x.1 x.2.1) follows (AllOk.mem (trivial : AllOk P ([]))) (by kernel_rfl : P.funcs[135]? = some Go.Proofs.Try.f135) (by kernel_rfl) (by kernel_rfl) (by kernel_rfl)
    (fun x y => spec_l01Gcd_eq n x.1 x.2.1) (fun _ _ => map_same (fun _ => rfl) _) (fun _ _ _ _ => rfl)

abbrev spec_l01Oksp : List Sp := [.v true (.pair (.int .i64) (.int .i64))]
abbrev spec_l01Okbs : List (Bs × Bool) := []
abbrev spec_l01Okrs : List (Bool × List Rp) := [(false, [.v false .bool])]
noncomputable def spec_l01Okkp : Keep := { loop := fun id => match id with | _ => [], join := fun id => match id with | _ => none }
noncomputable def spec_l01Okc : Code := bodyOf Go.Proofs.Try.f137
noncomputable def spec_l01OkF (n : Nat) : Fun := { id := 137, sp := spec_l01Oksp, bs := spec_l01Okbs, rs := spec_l01Okrs, f := fun x y => spec_l01Ok n x.1 }

theorem spec_l01Ok_eq (n : Nat) (a0 : (Int) × (Int)) : runBody ([spec_l00InF n, spec_l01AbsF n, spec_l01GcdF n]) ty 20 n spec_l01Okkp spec_l01Okc Go.Proofs.Try.f137.results.toList spec_l01Okrs spec_l01Oksp spec_l01Okbs (a0, ()) () = spec_l01Ok n a0 := by
  have h : runBody ([spec_l00InF n, spec_l01AbsF n, spec_l01GcdF n]) ty 20 n spec_l01Okkp spec_l01Okc Go.Proofs.Try.f137.results.toList spec_l01Okrs spec_l01Oksp spec_l01Okbs (a0, ()) () = spec_l01Ok_t n a0 := by kernel_rfl
  rw [h]
  rfl

theorem spec_l01Ok_ok (n : Nat) : FunOk P (spec_l01OkF n) :=
  funOk_mk (C := [spec_l00InF n, spec_l01AbsF n, spec_l01GcdF n]) (N := 20) (kp := spec_l01Okkp) (c := spec_l01Okc) (n := n) (G := fun x y => spec_l01Ok n x.1) follows (AllOk.mem (⟨spec_l00In_ok n, ⟨spec_l01Abs_ok n, ⟨spec_l01Gcd_ok n, trivial⟩⟩⟩ : AllOk P ([spec_l00InF n, spec_l01AbsF n, spec_l01GcdF n]))) (by kernel_rfl : P.funcs[137]? = some Go.Proofs.Try.f137) (by kernel_rfl) (by kernel_rfl) (by kernel_rfl)
    (fun x y => spec_l01Ok_eq n x.1) (fun _ _ => map_same (fun _ => rfl) _) (fun _ _ _ _ => rfl)

abbrev spec_l01Reducedsp : List Sp := [.v false (.int .i64), .v false (.int .i64)]
abbrev spec_l01Reducedbs : List (Bs × Bool) := []
abbrev spec_l01Reducedrs : List (Bool × List Rp) := [(true, [.v false (.pair (.int .i64) (.int .i64))]), (false, [.v false (.int .i64)])]
noncomputable def spec_l01Reducedkp : Keep := { loop := fun id => match id with | _ => [], join := fun id => match id with | _ => none }
noncomputable def spec_l01Reducedc : Code := bodyOf Go.Proofs.Try.f73
noncomputable def spec_l01ReducedF (n : Nat) : Fun := { id := 73, sp := spec_l01Reducedsp, bs := spec_l01Reducedbs, rs := spec_l01Reducedrs, f := fun x y => spec_l01Reduced n x.1 x.2.1 }

theorem spec_l01Reduced_eq (n : Nat) (a0 : Int) (a1 : Int) : runBody ([spec_l01AbsF n, spec_l01GcdF n, spec_l01OkF n]) ty 33 n spec_l01Reducedkp spec_l01Reducedc Go.Proofs.Try.f73.results.toList spec_l01Reducedrs spec_l01Reducedsp spec_l01Reducedbs (a0, (a1, ())) () = spec_l01Reduced n a0 a1 := by
  have h : runBody ([spec_l01AbsF n, spec_l01GcdF n, spec_l01OkF n]) ty 33 n spec_l01Reducedkp spec_l01Reducedc Go.Proofs.Try.f73.results.toList spec_l01Reducedrs spec_l01Reducedsp spec_l01Reducedbs (a0, (a1, ())) () = spec_l01Reduced_t n a0 a1 := by kernel_rfl
  rw [h]
  rfl

theorem spec_l01Reduced_ok (n : Nat) : FunOk P (spec_l01ReducedF n) :=
  funOk_mk (C := [spec_l01AbsF n, spec_l01GcdF n, spec_l01OkF n]) (N := 33) (kp := spec_l01Reducedkp) (c := spec_l01Reducedc) (n := n) (G := fun x y => spec_l01Reduced n x.1 x.2.1) follows (AllOk.mem (⟨spec_l01Abs_ok n, ⟨spec_l01Gcd_ok n, ⟨spec_l01Ok_ok n, trivial⟩⟩⟩ : AllOk P ([spec_l01AbsF n, spec_l01GcdF n, spec_l01OkF n]))) (by kernel_rfl : P.funcs[73]? = some Go.Proofs.Try.f73) (by kernel_rfl) (by kernel_rfl) (by kernel_rfl)
    (fun x y => spec_l01Reduced_eq n x.1 x.2.1) (fun _ _ => map_same (fun _ => rfl) _) (fun _ _ _ _ => rfl)

abbrev spec_SwingAtsp : List Sp := [.v true (.pair (.list (.int .i16)) (.pair (.int .i64) (.int .i64))), .v false (.int .i64)]
abbrev spec_SwingAtbs : List (Bs × Bool) := []
abbrev spec_SwingAtrs : List (Bool × List Rp) := [(true, [.v false (.pair (.int .i64) (.int .i64))]), (false, [.v false (.int .i64)])]
noncomputable def spec_SwingAtkp : Keep := { loop := fun id => match id with | _ => [], join := fun id => match id with | _ => none }
noncomputable def spec_SwingAtc : Code := bodyOf Go.Proofs.Try.f64
noncomputable def spec_SwingAtF (n : Nat) : Fun := { id := 64, sp := spec_SwingAtsp, bs := spec_SwingAtbs, rs := spec_SwingAtrs, f := fun x y => spec_SwingAt n x.1 x.2.1 }

theorem spec_SwingAt_eq (n : Nat) (a0 : (List (Int)) × ((Int) × (Int))) (a1 : Int) : runBody ([spec_l03AskedF n, spec_l03OffF n, spec_l01ReducedF n]) ty 18 n spec_SwingAtkp spec_SwingAtc Go.Proofs.Try.f64.results.toList spec_SwingAtrs spec_SwingAtsp spec_SwingAtbs (a0, (a1, ())) () = spec_SwingAt n a0 a1 := by
  have h : runBody ([spec_l03AskedF n, spec_l03OffF n, spec_l01ReducedF n]) ty 18 n spec_SwingAtkp spec_SwingAtc Go.Proofs.Try.f64.results.toList spec_SwingAtrs spec_SwingAtsp spec_SwingAtbs (a0, (a1, ())) () = spec_SwingAt_t n a0 a1 := by kernel_rfl
  rw [h]
  rfl

theorem spec_SwingAt_ok (n : Nat) : FunOk P (spec_SwingAtF n) :=
  funOk_mk (C := [spec_l03AskedF n, spec_l03OffF n, spec_l01ReducedF n]) (N := 18) (kp := spec_SwingAtkp) (c := spec_SwingAtc) (n := n) (G := fun x y => spec_SwingAt n x.1 x.2.1) follows (AllOk.mem (⟨spec_l03Asked_ok n, ⟨spec_l03Off_ok n, ⟨spec_l01Reduced_ok n, trivial⟩⟩⟩ : AllOk P ([spec_l03AskedF n, spec_l03OffF n, spec_l01ReducedF n]))) (by kernel_rfl : P.funcs[64]? = some Go.Proofs.Try.f64) (by kernel_rfl) (by kernel_rfl) (by kernel_rfl)
    (fun x y => spec_SwingAt_eq n x.1 x.2.1) (fun _ _ => map_same (fun _ => rfl) _) (fun _ _ _ _ => rfl)

abbrev impl_withinsp : List Sp := [.v false (.int .i64), .v false (.int .i64), .v false (.int .i64)]
abbrev impl_withinbs : List (Bs × Bool) := []
abbrev impl_withinrs : List (Bool × List Rp) := [(false, [.v false .bool])]
noncomputable def impl_withinkp : Keep := { loop := fun id => match id with | _ => [], join := fun id => match id with | _ => none }
noncomputable def impl_withinc : Code := bodyOf Go.Proofs.Try.f70
noncomputable def impl_withinF (n : Nat) : Fun := { id := 70, sp := impl_withinsp, bs := impl_withinbs, rs := impl_withinrs, f := fun x y => impl_within n x.1 x.2.1 x.2.2.1 }

theorem impl_within_eq (n : Nat) (a0 : Int) (a1 : Int) (a2 : Int) : runBody ([]) ty 15 n impl_withinkp impl_withinc Go.Proofs.Try.f70.results.toList impl_withinrs impl_withinsp impl_withinbs (a0, (a1, (a2, ()))) () = impl_within n a0 a1 a2 := by
  have h : runBody ([]) ty 15 n impl_withinkp impl_withinc Go.Proofs.Try.f70.results.toList impl_withinrs impl_withinsp impl_withinbs (a0, (a1, (a2, ()))) () = impl_within_t n a0 a1 a2 := by kernel_rfl
  rw [h]
  rfl

theorem impl_within_ok (n : Nat) : FunOk P (impl_withinF n) :=
  funOk_mk (C := []) (N := 15) (kp := impl_withinkp) (c := impl_withinc) (n := n) (G := fun x y => impl_within n x.1 x.2.1 x.2.2.1) follows (AllOk.mem (trivial : AllOk P ([]))) (by kernel_rfl : P.funcs[70]? = some Go.Proofs.Try.f70) (by kernel_rfl) (by kernel_rfl) (by kernel_rfl)
    (fun x y => impl_within_eq n x.1 x.2.1 x.2.2.1) (fun _ _ => map_same (fun _ => rfl) _) (fun _ _ _ _ => rfl)

abbrev impl_ValidDisk_1sp : List Sp := [.v false (.int .i16)]
abbrev impl_ValidDisk_1bs : List (Bs × Bool) := []
abbrev impl_ValidDisk_1rs : List (Bool × List Rp) := [(false, [.v false .bool])]
noncomputable def impl_ValidDisk_1kp : Keep := { loop := fun id => match id with | _ => [], join := fun id => match id with | _ => none }
noncomputable def impl_ValidDisk_1c : Code := bodyOf Go.Proofs.Try.f169
noncomputable def impl_ValidDisk_1F (n : Nat) : Fun := { id := 169, sp := impl_ValidDisk_1sp, bs := impl_ValidDisk_1bs, rs := impl_ValidDisk_1rs, f := fun x y => impl_ValidDisk_1 n x.1 }

theorem impl_ValidDisk_1_eq (n : Nat) (a0 : Int) : runBody ([impl_withinF n]) ty 7 n impl_ValidDisk_1kp impl_ValidDisk_1c Go.Proofs.Try.f169.results.toList impl_ValidDisk_1rs impl_ValidDisk_1sp impl_ValidDisk_1bs (a0, ()) () = impl_ValidDisk_1 n a0 := by
  have h : runBody ([impl_withinF n]) ty 7 n impl_ValidDisk_1kp impl_ValidDisk_1c Go.Proofs.Try.f169.results.toList impl_ValidDisk_1rs impl_ValidDisk_1sp impl_ValidDisk_1bs (a0, ()) () = impl_ValidDisk_1_t n a0 := by kernel_rfl
  rw [h]
  rfl

theorem impl_ValidDisk_1_ok (n : Nat) : FunOk P (impl_ValidDisk_1F n) :=
  funOk_mk (C := [impl_withinF n]) (N := 7) (kp := impl_ValidDisk_1kp) (c := impl_ValidDisk_1c) (n := n) (G := fun x y => impl_ValidDisk_1 n x.1) follows (AllOk.mem (⟨impl_within_ok n, trivial⟩ : AllOk P ([impl_withinF n]))) (by kernel_rfl : P.funcs[169]? = some Go.Proofs.Try.f169) (by kernel_rfl) (by kernel_rfl) (by kernel_rfl)
    (fun x y => impl_ValidDisk_1_eq n x.1) (fun _ _ => map_same (fun _ => rfl) _) (fun _ _ _ _ => rfl)

abbrev slices_IndexFunc_int16_int16_at_impl_ValidDisk_1sp : List Sp := [.v false (.list (.int .i16)), .cl 169 []]
abbrev slices_IndexFunc_int16_int16_at_impl_ValidDisk_1bs : List (Bs × Bool) := []
abbrev slices_IndexFunc_int16_int16_at_impl_ValidDisk_1rs : List (Bool × List Rp) := [(false, [.v false (.int .i64)])]
noncomputable def slices_IndexFunc_int16_int16_at_impl_ValidDisk_1kp : Keep := { loop := fun id => match id with | 2 => [8, 0, 1, 7] | _ => [], join := fun id => match id with | _ => none }
noncomputable def slices_IndexFunc_int16_int16_at_impl_ValidDisk_1c : Code := bodyOf Go.Proofs.Try.f181
noncomputable def slices_IndexFunc_int16_int16_at_impl_ValidDisk_1F (n : Nat) : Fun := { id := 181, sp := slices_IndexFunc_int16_int16_at_impl_ValidDisk_1sp, bs := slices_IndexFunc_int16_int16_at_impl_ValidDisk_1bs, rs := slices_IndexFunc_int16_int16_at_impl_ValidDisk_1rs, f := fun x y => slices_IndexFunc_int16_int16_at_impl_ValidDisk_1 n x.1 }

theorem slices_IndexFunc_int16_int16_at_impl_ValidDisk_1_l2_eq (n : Nat) : ∀ (k : Nat) (v8 : Int) (v0 : List (Int)) (v7 : Int), iter (interp ([impl_ValidDisk_1F n]) ty 19 0 n slices_IndexFunc_int16_int16_at_impl_ValidDisk_1kp (codeAt slices_IndexFunc_int16_int16_at_impl_ValidDisk_1c [1, 0, 1, 0, 0])) (canon 0 (slices_IndexFunc_int16_int16_at_impl_ValidDisk_1kp.loop 2)) (kAt ([impl_ValidDisk_1F n]) ty 19 0 n slices_IndexFunc_int16_int16_at_impl_ValidDisk_1kp slices_IndexFunc_int16_int16_at_impl_ValidDisk_1c [1, 0, 1, 0] [] (ending ty 0 Go.Proofs.Try.f181.results.toList slices_IndexFunc_int16_int16_at_impl_ValidDisk_1rs slices_IndexFunc_int16_int16_at_impl_ValidDisk_1bs)) k { env := [(8, .one (.sc (.int .i64 v8))), (0, .one (.list true (.int .i16) v0)), (1, .one (.clos 169 [])), (7, .one (.sc (.int .i64 v7)))], bx := [], nx := 0 } = slices_IndexFunc_int16_int16_at_impl_ValidDisk_1_l2 n k v8 v0 v7
  | 0, _, _, _ => by kernel_rfl
  | k + 1, v8, v0, v7 => by
    have h : iter (interp ([impl_ValidDisk_1F n]) ty 19 0 n slices_IndexFunc_int16_int16_at_impl_ValidDisk_1kp (codeAt slices_IndexFunc_int16_int16_at_impl_ValidDisk_1c [1, 0, 1, 0, 0])) (canon 0 (slices_IndexFunc_int16_int16_at_impl_ValidDisk_1kp.loop 2)) (kAt ([impl_ValidDisk_1F n]) ty 19 0 n slices_IndexFunc_int16_int16_at_impl_ValidDisk_1kp slices_IndexFunc_int16_int16_at_impl_ValidDisk_1c [1, 0, 1, 0] [] (ending ty 0 Go.Proofs.Try.f181.results.toList slices_IndexFunc_int16_int16_at_impl_ValidDisk_1rs slices_IndexFunc_int16_int16_at_impl_ValidDisk_1bs)) (k + 1) { env := [(8, .one (.sc (.int .i64 v8))), (0, .one (.list true (.int .i16) v0)), (1, .one (.clos 169 [])), (7, .one (.sc (.int .i64 v7)))], bx := [], nx := 0 } = slices_IndexFunc_int16_int16_at_impl_ValidDisk_1_t2 n (fun v8 v0 v7 => iter (interp ([impl_ValidDisk_1F n]) ty 19 0 n slices_IndexFunc_int16_int16_at_impl_ValidDisk_1kp (codeAt slices_IndexFunc_int16_int16_at_impl_ValidDisk_1c [1, 0, 1, 0, 0])) (canon 0 (slices_IndexFunc_int16_int16_at_impl_ValidDisk_1kp.loop 2)) (kAt ([impl_ValidDisk_1F n]) ty 19 0 n slices_IndexFunc_int16_int16_at_impl_ValidDisk_1kp slices_IndexFunc_int16_int16_at_impl_ValidDisk_1c [1, 0, 1, 0] [] (ending ty 0 Go.Proofs.Try.f181.results.toList slices_IndexFunc_int16_int16_at_impl_ValidDisk_1rs slices_IndexFunc_int16_int16_at_impl_ValidDisk_1bs)) k { env := [(8, .one (.sc (.int .i64 v8))), (0, .one (.list true (.int .i16) v0)), (1, .one (.clos 169 [])), (7, .one (.sc (.int .i64 v7)))], bx := [], nx := 0 }) v8 v0 v7 := by kernel_rfl
    rw [h]
    have e := congrArg (fun g => slices_IndexFunc_int16_int16_at_impl_ValidDisk_1_t2 n g v8 v0 v7) (funext fun v8 => funext fun v0 => funext fun v7 => slices_IndexFunc_int16_int16_at_impl_ValidDisk_1_l2_eq n k v8 v0 v7)
    exact e

theorem slices_IndexFunc_int16_int16_at_impl_ValidDisk_1_eq (n : Nat) (a0 : List (Int)) : runBody ([impl_ValidDisk_1F n]) ty 19 n slices_IndexFunc_int16_int16_at_impl_ValidDisk_1kp slices_IndexFunc_int16_int16_at_impl_ValidDisk_1c Go.Proofs.Try.f181.results.toList slices_IndexFunc_int16_int16_at_impl_ValidDisk_1rs slices_IndexFunc_int16_int16_at_impl_ValidDisk_1sp slices_IndexFunc_int16_int16_at_impl_ValidDisk_1bs (a0, ((), ())) () = slices_IndexFunc_int16_int16_at_impl_ValidDisk_1 n a0 := by
  have h : runBody ([impl_ValidDisk_1F n]) ty 19 n slices_IndexFunc_int16_int16_at_impl_ValidDisk_1kp slices_IndexFunc_int16_int16_at_impl_ValidDisk_1c Go.Proofs.Try.f181.results.toList slices_IndexFunc_int16_int16_at_impl_ValidDisk_1rs slices_IndexFunc_int16_int16_at_impl_ValidDisk_1sp slices_IndexFunc_int16_int16_at_impl_ValidDisk_1bs (a0, ((), ())) () = slices_IndexFunc_int16_int16_at_impl_ValidDisk_1_t n (fun k v8 v0 v7 => iter (interp ([impl_ValidDisk_1F n]) ty 19 0 n slices_IndexFunc_int16_int16_at_impl_ValidDisk_1kp (codeAt slices_IndexFunc_int16_int16_at_impl_ValidDisk_1c [1, 0, 1, 0, 0])) (canon 0 (slices_IndexFunc_int16_int16_at_impl_ValidDisk_1kp.loop 2)) (kAt ([impl_ValidDisk_1F n]) ty 19 0 n slices_IndexFunc_int16_int16_at_impl_ValidDisk_1kp slices_IndexFunc_int16_int16_at_impl_ValidDisk_1c [1, 0, 1, 0] [] (ending ty 0 Go.Proofs.Try.f181.results.toList slices_IndexFunc_int16_int16_at_impl_ValidDisk_1rs slices_IndexFunc_int16_int16_at_impl_ValidDisk_1bs)) k { env := [(8, .one (.sc (.int .i64 v8))), (0, .one (.list true (.int .i16) v0)), (1, .one (.clos 169 [])), (7, .one (.sc (.int .i64 v7)))], bx := [], nx := 0 }) a0 := by kernel_rfl
  rw [h]
  have e := congrArg (fun h2 => slices_IndexFunc_int16_int16_at_impl_ValidDisk_1_t n h2 a0) (funext fun k => funext fun v8 => funext fun v0 => funext fun v7 => slices_IndexFunc_int16_int16_at_impl_ValidDisk_1_l2_eq n k v8 v0 v7)
  exact e

theorem slices_IndexFunc_int16_int16_at_impl_ValidDisk_1_ok (n : Nat) : FunOk P (slices_IndexFunc_int16_int16_at_impl_ValidDisk_1F n) :=
  funOk_mk (C := [impl_ValidDisk_1F n]) (N := 19) (kp := slices_IndexFunc_int16_int16_at_impl_ValidDisk_1kp) (c := slices_IndexFunc_int16_int16_at_impl_ValidDisk_1c) (n := n) (G := fun x y => slices_IndexFunc_int16_int16_at_impl_ValidDisk_1 n x.1) follows (AllOk.mem (⟨impl_ValidDisk_1_ok n, trivial⟩ : AllOk P ([impl_ValidDisk_1F n]))) (by kernel_rfl : P.funcs[181]? = some Go.Proofs.Try.f181) (by kernel_rfl) (by kernel_rfl) (by kernel_rfl)
    (fun x y => slices_IndexFunc_int16_int16_at_impl_ValidDisk_1_eq n x.1) (fun _ _ => map_same (fun _ => rfl) _) (fun _ _ _ _ => rfl)

abbrev slices_ContainsFunc_int16_int16_at_impl_ValidDisk_1sp : List Sp := [.v false (.list (.int .i16)), .cl 169 []]
abbrev slices_ContainsFunc_int16_int16_at_impl_ValidDisk_1bs : List (Bs × Bool) := []
abbrev slices_ContainsFunc_int16_int16_at_impl_ValidDisk_1rs : List (Bool × List Rp) := [(false, [.v false .bool])]
noncomputable def slices_ContainsFunc_int16_int16_at_impl_ValidDisk_1kp : Keep := { loop := fun id => match id with | _ => [], join := fun id => match id with | _ => none }
noncomputable def slices_ContainsFunc_int16_int16_at_impl_ValidDisk_1c : Code := bodyOf Go.Proofs.Try.f168
noncomputable def slices_ContainsFunc_int16_int16_at_impl_ValidDisk_1F (n : Nat) : Fun := { id := 168, sp := slices_ContainsFunc_int16_int16_at_impl_ValidDisk_1sp, bs := slices_ContainsFunc_int16_int16_at_impl_ValidDisk_1bs, rs := slices_ContainsFunc_int16_int16_at_impl_ValidDisk_1rs, f := fun x y => slices_ContainsFunc_int16_int16_at_impl_ValidDisk_1 n x.1 }

theorem slices_ContainsFunc_int16_int16_at_impl_ValidDisk_1_eq (n : Nat) (a0 : List (Int)) : runBody ([slices_IndexFunc_int16_int16_at_impl_ValidDisk_1F n, impl_ValidDisk_1F n]) ty 9 n slices_ContainsFunc_int16_int16_at_impl_ValidDisk_1kp slices_ContainsFunc_int16_int16_at_impl_ValidDisk_1c Go.Proofs.Try.f168.results.toList slices_ContainsFunc_int16_int16_at_impl_ValidDisk_1rs slices_ContainsFunc_int16_int16_at_impl_ValidDisk_1sp slices_ContainsFunc_int16_int16_at_impl_ValidDisk_1bs (a0, ((), ())) () = slices_ContainsFunc_int16_int16_at_impl_ValidDisk_1 n a0 := by
  have h : runBody ([slices_IndexFunc_int16_int16_at_impl_ValidDisk_1F n, impl_ValidDisk_1F n]) ty 9 n slices_ContainsFunc_int16_int16_at_impl_ValidDisk_1kp slices_ContainsFunc_int16_int16_at_impl_ValidDisk_1c Go.Proofs.Try.f168.results.toList slices_ContainsFunc_int16_int16_at_impl_ValidDisk_1rs slices_ContainsFunc_int16_int16_at_impl_ValidDisk_1sp slices_ContainsFunc_int16_int16_at_impl_ValidDisk_1bs (a0, ((), ())) () = slices_ContainsFunc_int16_int16_at_impl_ValidDisk_1_t n a0 := by kernel_rfl
  rw [h]
  rfl

theorem slices_ContainsFunc_int16_int16_at_impl_ValidDisk_1_ok (n : Nat) : FunOk P (slices_ContainsFunc_int16_int16_at_impl_ValidDisk_1F n) :=
  funOk_mk (C := [slices_IndexFunc_int16_int16_at_impl_ValidDisk_1F n, impl_ValidDisk_1F n]) (N := 9) (kp := slices_ContainsFunc_int16_int16_at_impl_ValidDisk_1kp) (c := slices_ContainsFunc_int16_int16_at_impl_ValidDisk_1c) (n := n) (G := fun x y => slices_ContainsFunc_int16_int16_at_impl_ValidDisk_1 n x.1) follows (AllOk.mem (⟨slices_IndexFunc_int16_int16_at_impl_ValidDisk_1_ok n, ⟨impl_ValidDisk_1_ok n, trivial⟩⟩ : AllOk P ([slices_IndexFunc_int16_int16_at_impl_ValidDisk_1F n, impl_ValidDisk_1F n]))) (by kernel_rfl : P.funcs[168]? = some Go.Proofs.Try.f168) (by kernel_rfl) (by kernel_rfl) (by kernel_rfl)
    (fun x y => slices_ContainsFunc_int16_int16_at_impl_ValidDisk_1_eq n x.1) (fun _ _ => map_same (fun _ => rfl) _) (fun _ _ _ _ => rfl)

abbrev impl_ValidDisksp : List Sp := [.v true (.pair (.list (.int .i16)) (.pair (.int .i64) (.int .i64)))]
abbrev impl_ValidDiskbs : List (Bs × Bool) := []
abbrev impl_ValidDiskrs : List (Bool × List Rp) := [(false, [.v false .bool])]
noncomputable def impl_ValidDiskkp : Keep := { loop := fun id => match id with | _ => [], join := fun id => match id with | _ => none }
noncomputable def impl_ValidDiskc : Code := bodyOf Go.Proofs.Try.f125
noncomputable def impl_ValidDiskF (n : Nat) : Fun := { id := 125, sp := impl_ValidDisksp, bs := impl_ValidDiskbs, rs := impl_ValidDiskrs, f := fun x y => impl_ValidDisk n x.1 }

theorem impl_ValidDisk_eq (n : Nat) (a0 : (List (Int)) × ((Int) × (Int))) : runBody ([impl_withinF n, slices_ContainsFunc_int16_int16_at_impl_ValidDisk_1F n]) ty 30 n impl_ValidDiskkp impl_ValidDiskc Go.Proofs.Try.f125.results.toList impl_ValidDiskrs impl_ValidDisksp impl_ValidDiskbs (a0, ()) () = impl_ValidDisk n a0 := by
  have h : runBody ([impl_withinF n, slices_ContainsFunc_int16_int16_at_impl_ValidDisk_1F n]) ty 30 n impl_ValidDiskkp impl_ValidDiskc Go.Proofs.Try.f125.results.toList impl_ValidDiskrs impl_ValidDisksp impl_ValidDiskbs (a0, ()) () = impl_ValidDisk_t n a0 := by kernel_rfl
  rw [h]
  rfl

theorem impl_ValidDisk_ok (n : Nat) : FunOk P (impl_ValidDiskF n) :=
  funOk_mk (C := [impl_withinF n, slices_ContainsFunc_int16_int16_at_impl_ValidDisk_1F n]) (N := 30) (kp := impl_ValidDiskkp) (c := impl_ValidDiskc) (n := n) (G := fun x y => impl_ValidDisk n x.1) follows (AllOk.mem (⟨impl_within_ok n, ⟨slices_ContainsFunc_int16_int16_at_impl_ValidDisk_1_ok n, trivial⟩⟩ : AllOk P ([impl_withinF n, slices_ContainsFunc_int16_int16_at_impl_ValidDisk_1F n]))) (by kernel_rfl : P.funcs[125]? = some Go.Proofs.Try.f125) (by kernel_rfl) (by kernel_rfl) (by kernel_rfl)
    (fun x y => impl_ValidDisk_eq n x.1) (fun _ _ => map_same (fun _ => rfl) _) (fun _ _ _ _ => rfl)

abbrev impl_isAnglesp : List Sp := [.v false (.int .i64)]
abbrev impl_isAnglebs : List (Bs × Bool) := []
abbrev impl_isAnglers : List (Bool × List Rp) := [(false, [.v false .bool])]
noncomputable def impl_isAnglekp : Keep := { loop := fun id => match id with | _ => [], join := fun id => match id with | _ => none }
noncomputable def impl_isAnglec : Code := bodyOf Go.Proofs.Try.f76
noncomputable def impl_isAngleF (n : Nat) : Fun := { id := 76, sp := impl_isAnglesp, bs := impl_isAnglebs, rs := impl_isAnglers, f := fun x y => impl_isAngle n x.1 }

theorem impl_isAngle_eq (n : Nat) (a0 : Int) : runBody ([impl_withinF n]) ty 5 n impl_isAnglekp impl_isAnglec Go.Proofs.Try.f76.results.toList impl_isAnglers impl_isAnglesp impl_isAnglebs (a0, ()) () = impl_isAngle n a0 := by
  have h : runBody ([impl_withinF n]) ty 5 n impl_isAnglekp impl_isAnglec Go.Proofs.Try.f76.results.toList impl_isAnglers impl_isAnglesp impl_isAnglebs (a0, ()) () = impl_isAngle_t n a0 := by kernel_rfl
  rw [h]
  rfl

theorem impl_isAngle_ok (n : Nat) : FunOk P (impl_isAngleF n) :=
  funOk_mk (C := [impl_withinF n]) (N := 5) (kp := impl_isAnglekp) (c := impl_isAnglec) (n := n) (G := fun x y => impl_isAngle n x.1) follows (AllOk.mem (⟨impl_within_ok n, trivial⟩ : AllOk P ([impl_withinF n]))) (by kernel_rfl : P.funcs[76]? = some Go.Proofs.Try.f76) (by kernel_rfl) (by kernel_rfl) (by kernel_rfl)
    (fun x y => impl_isAngle_eq n x.1) (fun _ _ => map_same (fun _ => rfl) _) (fun _ _ _ _ => rfl)

abbrev impl_swingsp : List Sp := [.v false (.int .i64)]
abbrev impl_swingbs : List (Bs × Bool) := []
abbrev impl_swingrs : List (Bool × List Rp) := [(false, [.v false (.int .i64)])]
noncomputable def impl_swingkp : Keep := { loop := fun id => match id with | _ => [], join := fun id => match id with | _ => none }
noncomputable def impl_swingc : Code := bodyOf Go.Proofs.Try.f173
noncomputable def impl_swingF (n : Nat) : Fun := { id := 173, sp := impl_swingsp, bs := impl_swingbs, rs := impl_swingrs, f := fun x y => impl_swing n x.1 }

theorem impl_swing_eq (n : Nat) (a0 : Int) : runBody ([]) ty 14 n impl_swingkp impl_swingc Go.Proofs.Try.f173.results.toList impl_swingrs impl_swingsp impl_swingbs (a0, ()) () = impl_swing n a0 := by
  have h : runBody ([]) ty 14 n impl_swingkp impl_swingc Go.Proofs.Try.f173.results.toList impl_swingrs impl_swingsp impl_swingbs (a0, ()) () = impl_swing_t n a0 := by kernel_rfl
  rw [h]
  rfl

theorem impl_swing_ok (n : Nat) : FunOk P (impl_swingF n) :=
  funOk_mk (C := []) (N := 14) (kp := impl_swingkp) (c := impl_swingc) (n := n) (G := fun x y => impl_swing n x.1) follows (AllOk.mem (trivial : AllOk P ([]))) (by kernel_rfl : P.funcs[173]? = some Go.Proofs.Try.f173) (by kernel_rfl) (by kernel_rfl) (by kernel_rfl)
    (fun x y => impl_swing_eq n x.1) (fun _ _ => map_same (fun _ => rfl) _) (fun _ _ _ _ => rfl)

abbrev impl_wrapsp : List Sp := [.v false (.int .i64)]
abbrev impl_wrapbs : List (Bs × Bool) := []
abbrev impl_wraprs : List (Bool × List Rp) := [(false, [.v false (.int .i64)])]
noncomputable def impl_wrapkp : Keep := { loop := fun id => match id with | _ => [], join := fun id => match id with | _ => none }
noncomputable def impl_wrapc : Code := bodyOf Go.Proofs.Try.f80
noncomputable def impl_wrapF (n : Nat) : Fun := { id := 80, sp := impl_wrapsp, bs := impl_wrapbs, rs := impl_wraprs, f := fun x y => impl_wrap n x.1 }

theorem impl_wrap_eq (n : Nat) (a0 : Int) : runBody ([]) ty 7 n impl_wrapkp impl_wrapc Go.Proofs.Try.f80.results.toList impl_wraprs impl_wrapsp impl_wrapbs (a0, ()) () = impl_wrap n a0 := by
  have h : runBody ([]) ty 7 n impl_wrapkp impl_wrapc Go.Proofs.Try.f80.results.toList impl_wraprs impl_wrapsp impl_wrapbs (a0, ()) () = impl_wrap_t n a0 := by kernel_rfl
  rw [h]
  rfl

theorem impl_wrap_ok (n : Nat) : FunOk P (impl_wrapF n) :=
  funOk_mk (C := []) (N := 7) (kp := impl_wrapkp) (c := impl_wrapc) (n := n) (G := fun x y => impl_wrap n x.1) follows (AllOk.mem (trivial : AllOk P ([]))) (by kernel_rfl : P.funcs[80]? = some Go.Proofs.Try.f80) (by kernel_rfl) (by kernel_rfl) (by kernel_rfl)
    (fun x y => impl_wrap_eq n x.1) (fun _ _ => map_same (fun _ => rfl) _) (fun _ _ _ _ => rfl)

abbrev impl_swingAtsp : List Sp := [.v true (.pair (.list (.int .i16)) (.pair (.int .i64) (.int .i64))), .v false (.int .i64)]
abbrev impl_swingAtbs : List (Bs × Bool) := []
abbrev impl_swingAtrs : List (Bool × List Rp) := [(false, [.v false (.int .i64)]), (false, [.v false (.int .i64)])]
noncomputable def impl_swingAtkp : Keep := { loop := fun id => match id with | _ => [], join := fun id => match id with | _ => none }
noncomputable def impl_swingAtc : Code := bodyOf Go.Proofs.Try.f133
noncomputable def impl_swingAtF (n : Nat) : Fun := { id := 133, sp := impl_swingAtsp, bs := impl_swingAtbs, rs := impl_swingAtrs, f := fun x y => impl_swingAt n x.1 x.2.1 }

theorem impl_swingAt_eq (n : Nat) (a0 : (List (Int)) × ((Int) × (Int))) (a1 : Int) : runBody ([impl_swingF n, impl_wrapF n]) ty 19 n impl_swingAtkp impl_swingAtc Go.Proofs.Try.f133.results.toList impl_swingAtrs impl_swingAtsp impl_swingAtbs (a0, (a1, ())) () = impl_swingAt n a0 a1 := by
  have h : runBody ([impl_swingF n, impl_wrapF n]) ty 19 n impl_swingAtkp impl_swingAtc Go.Proofs.Try.f133.results.toList impl_swingAtrs impl_swingAtsp impl_swingAtbs (a0, (a1, ())) () = impl_swingAt_t n a0 a1 := by kernel_rfl
  rw [h]
  rfl

theorem impl_swingAt_ok (n : Nat) : FunOk P (impl_swingAtF n) :=
  funOk_mk (C := [impl_swingF n, impl_wrapF n]) (N := 19) (kp := impl_swingAtkp) (c := impl_swingAtc) (n := n) (G := fun x y => impl_swingAt n x.1 x.2.1) follows (AllOk.mem (⟨impl_swing_ok n, ⟨impl_wrap_ok n, trivial⟩⟩ : AllOk P ([impl_swingF n, impl_wrapF n]))) (by kernel_rfl : P.funcs[133]? = some Go.Proofs.Try.f133) (by kernel_rfl) (by kernel_rfl) (by kernel_rfl)
    (fun x y => impl_swingAt_eq n x.1 x.2.1) (fun _ _ => map_same (fun _ => rfl) _) (fun _ _ _ _ => rfl)

abbrev impl_gcdsp : List Sp := [.v false (.int .i64), .v false (.int .i64)]
abbrev impl_gcdbs : List (Bs × Bool) := []
abbrev impl_gcdrs : List (Bool × List Rp) := [(false, [.v false (.int .i64)])]
noncomputable def impl_gcdkp : Keep := { loop := fun id => match id with | 1 => [1, 0] | _ => [], join := fun id => match id with | _ => none }
noncomputable def impl_gcdc : Code := bodyOf Go.Proofs.Try.f147
noncomputable def impl_gcdF (n : Nat) : Fun := { id := 147, sp := impl_gcdsp, bs := impl_gcdbs, rs := impl_gcdrs, f := fun x y => impl_gcd n x.1 x.2.1 }

theorem impl_gcd_l1_eq (n : Nat) : ∀ (k : Nat) (v1 : Int) (v0 : Int), iter (interp ([]) ty 15 0 n impl_gcdkp (codeAt impl_gcdc [1, 0, 0, 0])) (canon 0 (impl_gcdkp.loop 1)) (kAt ([]) ty 15 0 n impl_gcdkp impl_gcdc [1, 0, 0] [] (ending ty 0 Go.Proofs.Try.f147.results.toList impl_gcdrs impl_gcdbs)) k { env := [(1, .one (.sc (.int .i64 v1))), (0, .one (.sc (.int .i64 v0)))], bx := [], nx := 0 } = impl_gcd_l1 n k v1 v0
  | 0, _, _ => by kernel_rfl
  | k + 1, v1, v0 => by
    have h : iter (interp ([]) ty 15 0 n impl_gcdkp (codeAt impl_gcdc [1, 0, 0, 0])) (canon 0 (impl_gcdkp.loop 1)) (kAt ([]) ty 15 0 n impl_gcdkp impl_gcdc [1, 0, 0] [] (ending ty 0 Go.Proofs.Try.f147.results.toList impl_gcdrs impl_gcdbs)) (k + 1) { env := [(1, .one (.sc (.int .i64 v1))), (0, .one (.sc (.int .i64 v0)))], bx := [], nx := 0 } = impl_gcd_t1 n (fun v1 v0 => iter (interp ([]) ty 15 0 n impl_gcdkp (codeAt impl_gcdc [1, 0, 0, 0])) (canon 0 (impl_gcdkp.loop 1)) (kAt ([]) ty 15 0 n impl_gcdkp impl_gcdc [1, 0, 0] [] (ending ty 0 Go.Proofs.Try.f147.results.toList impl_gcdrs impl_gcdbs)) k { env := [(1, .one (.sc (.int .i64 v1))), (0, .one (.sc (.int .i64 v0)))], bx := [], nx := 0 }) v1 v0 := by kernel_rfl
    rw [h]
    have e := congrArg (fun g => impl_gcd_t1 n g v1 v0) (funext fun v1 => funext fun v0 => impl_gcd_l1_eq n k v1 v0)
    exact e

theorem impl_gcd_eq (n : Nat) (a0 : Int) (a1 : Int) : runBody ([]) ty 15 n impl_gcdkp impl_gcdc Go.Proofs.Try.f147.results.toList impl_gcdrs impl_gcdsp impl_gcdbs (a0, (a1, ())) () = impl_gcd n a0 a1 := by
  have h : runBody ([]) ty 15 n impl_gcdkp impl_gcdc Go.Proofs.Try.f147.results.toList impl_gcdrs impl_gcdsp impl_gcdbs (a0, (a1, ())) () = impl_gcd_t n (fun k v1 v0 => iter (interp ([]) ty 15 0 n impl_gcdkp (codeAt impl_gcdc [1, 0, 0, 0])) (canon 0 (impl_gcdkp.loop 1)) (kAt ([]) ty 15 0 n impl_gcdkp impl_gcdc [1, 0, 0] [] (ending ty 0 Go.Proofs.Try.f147.results.toList impl_gcdrs impl_gcdbs)) k { env := [(1, .one (.sc (.int .i64 v1))), (0, .one (.sc (.int .i64 v0)))], bx := [], nx := 0 }) a0 a1 := by kernel_rfl
  rw [h]
  have e := congrArg (fun h1 => impl_gcd_t n h1 a0 a1) (funext fun k => funext fun v1 => funext fun v0 => impl_gcd_l1_eq n k v1 v0)
  exact e

theorem impl_gcd_ok (n : Nat) : FunOk P (impl_gcdF n) :=
  funOk_mk (C := []) (N := 15) (kp := impl_gcdkp) (c := impl_gcdc) (n := n) (G := fun x y => impl_gcd n x.1 x.2.1) follows (AllOk.mem (trivial : AllOk P ([]))) (by kernel_rfl : P.funcs[147]? = some Go.Proofs.Try.f147) (by kernel_rfl) (by kernel_rfl) (by kernel_rfl)
    (fun x y => impl_gcd_eq n x.1 x.2.1) (fun _ _ => map_same (fun _ => rfl) _) (fun _ _ _ _ => rfl)

abbrev impl_ValidFracsp : List Sp := [.v true (.pair (.int .i64) (.int .i64))]
abbrev impl_ValidFracbs : List (Bs × Bool) := []
abbrev impl_ValidFracrs : List (Bool × List Rp) := [(false, [.v false .bool])]
noncomputable def impl_ValidFrackp : Keep := { loop := fun id => match id with | _ => [], join := fun id => match id with | _ => none }
noncomputable def impl_ValidFracc : Code := bodyOf Go.Proofs.Try.f94
noncomputable def impl_ValidFracF (n : Nat) : Fun := { id := 94, sp := impl_ValidFracsp, bs := impl_ValidFracbs, rs := impl_ValidFracrs, f := fun x y => impl_ValidFrac n x.1 }

theorem impl_ValidFrac_eq (n : Nat) (a0 : (Int) × (Int)) : runBody ([impl_withinF n, impl_gcdF n]) ty 19 n impl_ValidFrackp impl_ValidFracc Go.Proofs.Try.f94.results.toList impl_ValidFracrs impl_ValidFracsp impl_ValidFracbs (a0, ()) () = impl_ValidFrac n a0 := by
  have h : runBody ([impl_withinF n, impl_gcdF n]) ty 19 n impl_ValidFrackp impl_ValidFracc Go.Proofs.Try.f94.results.toList impl_ValidFracrs impl_ValidFracsp impl_ValidFracbs (a0, ()) () = impl_ValidFrac_t n a0 := by kernel_rfl
  rw [h]
  rfl

theorem impl_ValidFrac_ok (n : Nat) : FunOk P (impl_ValidFracF n) :=
  funOk_mk (C := [impl_withinF n, impl_gcdF n]) (N := 19) (kp := impl_ValidFrackp) (c := impl_ValidFracc) (n := n) (G := fun x y => impl_ValidFrac n x.1) follows (AllOk.mem (⟨impl_within_ok n, ⟨impl_gcd_ok n, trivial⟩⟩ : AllOk P ([impl_withinF n, impl_gcdF n]))) (by kernel_rfl : P.funcs[94]? = some Go.Proofs.Try.f94) (by kernel_rfl) (by kernel_rfl) (by kernel_rfl)
    (fun x y => impl_ValidFrac_eq n x.1) (fun _ _ => map_same (fun _ => rfl) _) (fun _ _ _ _ => rfl)

abbrev impl_fracOfsp : List Sp := [.v false (.int .i64), .v false (.int .i64)]
abbrev impl_fracOfbs : List (Bs × Bool) := []
abbrev impl_fracOfrs : List (Bool × List Rp) := [(true, [.v false (.pair (.int .i64) (.int .i64))]), (false, [.v false .bool])]
noncomputable def impl_fracOfkp : Keep := { loop := fun id => match id with | _ => [], join := fun id => match id with | _ => none }
noncomputable def impl_fracOfc : Code := bodyOf Go.Proofs.Try.f138
noncomputable def impl_fracOfF (n : Nat) : Fun := { id := 138, sp := impl_fracOfsp, bs := impl_fracOfbs, rs := impl_fracOfrs, f := fun x y => impl_fracOf n x.1 x.2.1 }

theorem impl_fracOf_eq (n : Nat) (a0 : Int) (a1 : Int) : runBody ([impl_gcdF n, impl_ValidFracF n]) ty 29 n impl_fracOfkp impl_fracOfc Go.Proofs.Try.f138.results.toList impl_fracOfrs impl_fracOfsp impl_fracOfbs (a0, (a1, ())) () = impl_fracOf n a0 a1 := by
  have h : runBody ([impl_gcdF n, impl_ValidFracF n]) ty 29 n impl_fracOfkp impl_fracOfc Go.Proofs.Try.f138.results.toList impl_fracOfrs impl_fracOfsp impl_fracOfbs (a0, (a1, ())) () = impl_fracOf_t n a0 a1 := by kernel_rfl
  rw [h]
  rfl

theorem impl_fracOf_ok (n : Nat) : FunOk P (impl_fracOfF n) :=
  funOk_mk (C := [impl_gcdF n, impl_ValidFracF n]) (N := 29) (kp := impl_fracOfkp) (c := impl_fracOfc) (n := n) (G := fun x y => impl_fracOf n x.1 x.2.1) follows (AllOk.mem (⟨impl_gcd_ok n, ⟨impl_ValidFrac_ok n, trivial⟩⟩ : AllOk P ([impl_gcdF n, impl_ValidFracF n]))) (by kernel_rfl : P.funcs[138]? = some Go.Proofs.Try.f138) (by kernel_rfl) (by kernel_rfl) (by kernel_rfl)
    (fun x y => impl_fracOf_eq n x.1 x.2.1) (fun _ _ => map_same (fun _ => rfl) _) (fun _ _ _ _ => rfl)

abbrev impl_zerosp : List Sp := []
abbrev impl_zerobs : List (Bs × Bool) := []
abbrev impl_zerors : List (Bool × List Rp) := [(true, [.v false (.pair (.int .i64) (.int .i64))])]
noncomputable def impl_zerokp : Keep := { loop := fun id => match id with | _ => [], join := fun id => match id with | _ => none }
noncomputable def impl_zeroc : Code := bodyOf Go.Proofs.Try.f139
noncomputable def impl_zeroF (n : Nat) : Fun := { id := 139, sp := impl_zerosp, bs := impl_zerobs, rs := impl_zerors, f := fun x y => impl_zero n }

theorem impl_zero_eq (n : Nat) : runBody ([]) ty 2 n impl_zerokp impl_zeroc Go.Proofs.Try.f139.results.toList impl_zerors impl_zerosp impl_zerobs () () = impl_zero n := by
  have h : runBody ([]) ty 2 n impl_zerokp impl_zeroc Go.Proofs.Try.f139.results.toList impl_zerors impl_zerosp impl_zerobs () () = impl_zero_t n := by kernel_rfl
  rw [h]
  rfl

theorem impl_zero_ok (n : Nat) : FunOk P (impl_zeroF n) :=
  funOk_mk (C := []) (N := 2) (kp := impl_zerokp) (c := impl_zeroc) (n := n) (G := fun x y => impl_zero n) follows (AllOk.mem (trivial : AllOk P ([]))) (by kernel_rfl : P.funcs[139]? = some Go.Proofs.Try.f139) (by kernel_rfl) (by kernel_rfl) (by kernel_rfl)
    (fun x y => impl_zero_eq n) (fun _ _ => map_same (fun _ => rfl) _) (fun _ _ _ _ => rfl)

abbrev impl_calc_toldsp : List Sp := [.ref 0, .v false (.int .i64), .v false (.int .i64)]
abbrev impl_calc_toldbs : List (Bs × Bool) := [(.var 99 .bool, true)]
abbrev impl_calc_toldrs : List (Bool × List Rp) := [(true, [.v false (.pair (.int .i64) (.int .i64))])]
noncomputable def impl_calc_toldkp : Keep := { loop := fun id => match id with | _ => [], join := fun id => match id with | _ => none }
noncomputable def impl_calc_toldc : Code := bodyOf Go.Proofs.Try.f78
noncomputable def impl_calc_toldF (n : Nat) : Fun := { id := 78, sp := impl_calc_toldsp, bs := impl_calc_toldbs, rs := impl_calc_toldrs, f := fun x y => impl_calc_told n x.2.1 x.2.2.1 y.1 }

theorem impl_calc_told_eq (n : Nat) (a1 : Int) (a2 : Int) (b0 : Bool) : runBody ([impl_fracOfF n, impl_zeroF n]) ty 22 n impl_calc_toldkp impl_calc_toldc Go.Proofs.Try.f78.results.toList impl_calc_toldrs impl_calc_toldsp impl_calc_toldbs ((), (a1, (a2, ()))) (b0, ()) = impl_calc_told n a1 a2 b0 := by
  have h : runBody ([impl_fracOfF n, impl_zeroF n]) ty 22 n impl_calc_toldkp impl_calc_toldc Go.Proofs.Try.f78.results.toList impl_calc_toldrs impl_calc_toldsp impl_calc_toldbs ((), (a1, (a2, ()))) (b0, ()) = impl_calc_told_t n a1 a2 b0 := by kernel_rfl
  rw [h]
  rfl

theorem impl_calc_told_ok (n : Nat) : FunOk P (impl_calc_toldF n) :=
  funOk_mk (C := [impl_fracOfF n, impl_zeroF n]) (N := 22) (kp := impl_calc_toldkp) (c := impl_calc_toldc) (n := n) (G := fun x y => impl_calc_told n x.2.1 x.2.2.1 y.1) follows (AllOk.mem (⟨impl_fracOf_ok n, ⟨impl_zero_ok n, trivial⟩⟩ : AllOk P ([impl_fracOfF n, impl_zeroF n]))) (by kernel_rfl : P.funcs[78]? = some Go.Proofs.Try.f78) (by kernel_rfl) (by kernel_rfl) (by kernel_rfl)
    (fun x y => impl_calc_told_eq n x.2.1 x.2.2.1 y.1) (fun _ _ => map_same (fun _ => rfl) _) (fun _ _ _ _ => rfl)

abbrev impl_calc_onesp : List Sp := [.ref 0, .v true (.pair (.int .i64) (.int .i64))]
abbrev impl_calc_onebs : List (Bs × Bool) := [(.var 99 .bool, true)]
abbrev impl_calc_oners : List (Bool × List Rp) := [(true, [.v false (.pair (.int .i64) (.int .i64))]), (false, [.v false (.int .i64)])]
noncomputable def impl_calc_onekp : Keep := { loop := fun id => match id with | _ => [], join := fun id => match id with | _ => none }
noncomputable def impl_calc_onec : Code := bodyOf Go.Proofs.Try.f77
noncomputable def impl_calc_oneF (n : Nat) : Fun := { id := 77, sp := impl_calc_onesp, bs := impl_calc_onebs, rs := impl_calc_oners, f := fun x y => impl_calc_one n x.2.1 y.1 }

theorem impl_calc_one_eq (n : Nat) (a1 : (Int) × (Int)) (b0 : Bool) : runBody ([]) ty 12 n impl_calc_onekp impl_calc_onec Go.Proofs.Try.f77.results.toList impl_calc_oners impl_calc_onesp impl_calc_onebs ((), (a1, ())) (b0, ()) = impl_calc_one n a1 b0 := by
  have h : runBody ([]) ty 12 n impl_calc_onekp impl_calc_onec Go.Proofs.Try.f77.results.toList impl_calc_oners impl_calc_onesp impl_calc_onebs ((), (a1, ())) (b0, ()) = impl_calc_one_t n a1 b0 := by kernel_rfl
  rw [h]
  rfl

theorem impl_calc_one_ok (n : Nat) : FunOk P (impl_calc_oneF n) :=
  funOk_mk (C := []) (N := 12) (kp := impl_calc_onekp) (c := impl_calc_onec) (n := n) (G := fun x y => impl_calc_one n x.2.1 y.1) follows (AllOk.mem (trivial : AllOk P ([]))) (by kernel_rfl : P.funcs[77]? = some Go.Proofs.Try.f77) (by kernel_rfl) (by kernel_rfl) (by kernel_rfl)
    (fun x y => impl_calc_one_eq n x.2.1 y.1) (fun _ _ => map_same (fun _ => rfl) _) (fun _ _ _ _ => rfl)

abbrev impl_SwingAtsp : List Sp := [.v true (.pair (.list (.int .i16)) (.pair (.int .i64) (.int .i64))), .v false (.int .i64)]
abbrev impl_SwingAtbs : List (Bs × Bool) := []
abbrev impl_SwingAtrs : List (Bool × List Rp) := [(true, [.v false (.pair (.int .i64) (.int .i64))]), (false, [.v false (.int .i64)])]
noncomputable def impl_SwingAtkp : Keep := { loop := fun id => match id with | _ => [], join := fun id => match id with | _ => none }
noncomputable def impl_SwingAtc : Code := bodyOf Go.Proofs.Try.f65
noncomputable def impl_SwingAtF (n : Nat) : Fun := { id := 65, sp := impl_SwingAtsp, bs := impl_SwingAtbs, rs := impl_SwingAtrs, f := fun x y => impl_SwingAt n x.1 x.2.1 }

theorem impl_SwingAt_eq (n : Nat) (a0 : (List (Int)) × ((Int) × (Int))) (a1 : Int) : runBody ([impl_ValidDiskF n, impl_isAngleF n, impl_swingAtF n, impl_calc_toldF n, impl_calc_oneF n]) ty 29 n impl_SwingAtkp impl_SwingAtc Go.Proofs.Try.f65.results.toList impl_SwingAtrs impl_SwingAtsp impl_SwingAtbs (a0, (a1, ())) () = impl_SwingAt n a0 a1 := by
  have h : runBody ([impl_ValidDiskF n, impl_isAngleF n, impl_swingAtF n, impl_calc_toldF n, impl_calc_oneF n]) ty 29 n impl_SwingAtkp impl_SwingAtc Go.Proofs.Try.f65.results.toList impl_SwingAtrs impl_SwingAtsp impl_SwingAtbs (a0, (a1, ())) () = impl_SwingAt_t n a0 a1 := by kernel_rfl
  rw [h]
  rfl

theorem impl_SwingAt_ok (n : Nat) : FunOk P (impl_SwingAtF n) :=
  funOk_mk (C := [impl_ValidDiskF n, impl_isAngleF n, impl_swingAtF n, impl_calc_toldF n, impl_calc_oneF n]) (N := 29) (kp := impl_SwingAtkp) (c := impl_SwingAtc) (n := n) (G := fun x y => impl_SwingAt n x.1 x.2.1) follows (AllOk.mem (⟨impl_ValidDisk_ok n, ⟨impl_isAngle_ok n, ⟨impl_swingAt_ok n, ⟨impl_calc_told_ok n, ⟨impl_calc_one_ok n, trivial⟩⟩⟩⟩⟩ : AllOk P ([impl_ValidDiskF n, impl_isAngleF n, impl_swingAtF n, impl_calc_toldF n, impl_calc_oneF n]))) (by kernel_rfl : P.funcs[65]? = some Go.Proofs.Try.f65) (by kernel_rfl) (by kernel_rfl) (by kernel_rfl)
    (fun x y => impl_SwingAt_eq n x.1 x.2.1) (fun _ _ => map_same (fun _ => rfl) _) (fun _ _ _ _ => rfl)

abbrev laws_eqFracsp : List Sp := [.v true (.pair (.int .i64) (.int .i64)), .v true (.pair (.int .i64) (.int .i64))]
abbrev laws_eqFracbs : List (Bs × Bool) := []
abbrev laws_eqFracrs : List (Bool × List Rp) := [(false, [.v false .bool])]
noncomputable def laws_eqFrackp : Keep := { loop := fun id => match id with | _ => [], join := fun id => match id with | _ => none }
noncomputable def laws_eqFracc : Code := bodyOf Go.Proofs.Try.f23
noncomputable def laws_eqFracF (n : Nat) : Fun := { id := 23, sp := laws_eqFracsp, bs := laws_eqFracbs, rs := laws_eqFracrs, f := fun x y => laws_eqFrac n x.1 x.2.1 }

theorem laws_eqFrac_eq (n : Nat) (a0 : (Int) × (Int)) (a1 : (Int) × (Int)) : runBody ([]) ty 15 n laws_eqFrackp laws_eqFracc Go.Proofs.Try.f23.results.toList laws_eqFracrs laws_eqFracsp laws_eqFracbs (a0, (a1, ())) () = laws_eqFrac n a0 a1 := by
  have h : runBody ([]) ty 15 n laws_eqFrackp laws_eqFracc Go.Proofs.Try.f23.results.toList laws_eqFracrs laws_eqFracsp laws_eqFracbs (a0, (a1, ())) () = laws_eqFrac_t n a0 a1 := by kernel_rfl
  rw [h]
  rfl

theorem laws_eqFrac_ok (n : Nat) : FunOk P (laws_eqFracF n) :=
  funOk_mk (C := []) (N := 15) (kp := laws_eqFrackp) (c := laws_eqFracc) (n := n) (G := fun x y => laws_eqFrac n x.1 x.2.1) follows (AllOk.mem (trivial : AllOk P ([]))) (by kernel_rfl : P.funcs[23]? = some Go.Proofs.Try.f23) (by kernel_rfl) (by kernel_rfl) (by kernel_rfl)
    (fun x y => laws_eqFrac_eq n x.1 x.2.1) (fun _ _ => map_same (fun _ => rfl) _) (fun _ _ _ _ => rfl)

abbrev laws_eqInt16Ssp : List Sp := [.v false (.list (.int .i16)), .v false (.list (.int .i16))]
abbrev laws_eqInt16Sbs : List (Bs × Bool) := []
abbrev laws_eqInt16Srs : List (Bool × List Rp) := [(false, [.v false .bool])]
noncomputable def laws_eqInt16Skp : Keep := { loop := fun id => match id with | 4 => [5, 1, 0] | _ => [], join := fun id => match id with | _ => none }
noncomputable def laws_eqInt16Sc : Code := bodyOf Go.Proofs.Try.f127
noncomputable def laws_eqInt16SF (n : Nat) : Fun := { id := 127, sp := laws_eqInt16Ssp, bs := laws_eqInt16Sbs, rs := laws_eqInt16Srs, f := fun x y => laws_eqInt16S n x.1 x.2.1 }

theorem laws_eqInt16S_l4_eq (n : Nat) : ∀ (k : Nat) (v5 : Int) (v1 : List (Int)) (v0 : List (Int)), iter (interp ([]) ty 26 0 n laws_eqInt16Skp (codeAt laws_eqInt16Sc [1, 1, 0, 1, 0, 0])) (canon 0 (laws_eqInt16Skp.loop 4)) (kAt ([]) ty 26 0 n laws_eqInt16Skp laws_eqInt16Sc [1, 1, 0, 1, 0] [] (ending ty 0 Go.Proofs.Try.f127.results.toList laws_eqInt16Srs laws_eqInt16Sbs)) k { env := [(5, .one (.sc (.int .i64 v5))), (1, .one (.list true (.int .i16) v1)), (0, .one (.list true (.int .i16) v0))], bx := [], nx := 0 } = laws_eqInt16S_l4 n k v5 v1 v0
  | 0, _, _, _ => by kernel_rfl
  | k + 1, v5, v1, v0 => by
    have h : iter (interp ([]) ty 26 0 n laws_eqInt16Skp (codeAt laws_eqInt16Sc [1, 1, 0, 1, 0, 0])) (canon 0 (laws_eqInt16Skp.loop 4)) (kAt ([]) ty 26 0 n laws_eqInt16Skp laws_eqInt16Sc [1, 1, 0, 1, 0] [] (ending ty 0 Go.Proofs.Try.f127.results.toList laws_eqInt16Srs laws_eqInt16Sbs)) (k + 1) { env := [(5, .one (.sc (.int .i64 v5))), (1, .one (.list true (.int .i16) v1)), (0, .one (.list true (.int .i16) v0))], bx := [], nx := 0 } = laws_eqInt16S_t4 n (fun v5 v1 v0 => iter (interp ([]) ty 26 0 n laws_eqInt16Skp (codeAt laws_eqInt16Sc [1, 1, 0, 1, 0, 0])) (canon 0 (laws_eqInt16Skp.loop 4)) (kAt ([]) ty 26 0 n laws_eqInt16Skp laws_eqInt16Sc [1, 1, 0, 1, 0] [] (ending ty 0 Go.Proofs.Try.f127.results.toList laws_eqInt16Srs laws_eqInt16Sbs)) k { env := [(5, .one (.sc (.int .i64 v5))), (1, .one (.list true (.int .i16) v1)), (0, .one (.list true (.int .i16) v0))], bx := [], nx := 0 }) v5 v1 v0 := by kernel_rfl
    rw [h]
    have e := congrArg (fun g => laws_eqInt16S_t4 n g v5 v1 v0) (funext fun v5 => funext fun v1 => funext fun v0 => laws_eqInt16S_l4_eq n k v5 v1 v0)
    exact e

theorem laws_eqInt16S_eq (n : Nat) (a0 : List (Int)) (a1 : List (Int)) : runBody ([]) ty 26 n laws_eqInt16Skp laws_eqInt16Sc Go.Proofs.Try.f127.results.toList laws_eqInt16Srs laws_eqInt16Ssp laws_eqInt16Sbs (a0, (a1, ())) () = laws_eqInt16S n a0 a1 := by
  have h : runBody ([]) ty 26 n laws_eqInt16Skp laws_eqInt16Sc Go.Proofs.Try.f127.results.toList laws_eqInt16Srs laws_eqInt16Ssp laws_eqInt16Sbs (a0, (a1, ())) () = laws_eqInt16S_t n (fun k v5 v1 v0 => iter (interp ([]) ty 26 0 n laws_eqInt16Skp (codeAt laws_eqInt16Sc [1, 1, 0, 1, 0, 0])) (canon 0 (laws_eqInt16Skp.loop 4)) (kAt ([]) ty 26 0 n laws_eqInt16Skp laws_eqInt16Sc [1, 1, 0, 1, 0] [] (ending ty 0 Go.Proofs.Try.f127.results.toList laws_eqInt16Srs laws_eqInt16Sbs)) k { env := [(5, .one (.sc (.int .i64 v5))), (1, .one (.list true (.int .i16) v1)), (0, .one (.list true (.int .i16) v0))], bx := [], nx := 0 }) a0 a1 := by kernel_rfl
  rw [h]
  have e := congrArg (fun h4 => laws_eqInt16S_t n h4 a0 a1) (funext fun k => funext fun v5 => funext fun v1 => funext fun v0 => laws_eqInt16S_l4_eq n k v5 v1 v0)
  exact e

theorem laws_eqInt16S_ok (n : Nat) : FunOk P (laws_eqInt16SF n) :=
  funOk_mk (C := []) (N := 26) (kp := laws_eqInt16Skp) (c := laws_eqInt16Sc) (n := n) (G := fun x y => laws_eqInt16S n x.1 x.2.1) follows (AllOk.mem (trivial : AllOk P ([]))) (by kernel_rfl : P.funcs[127]? = some Go.Proofs.Try.f127) (by kernel_rfl) (by kernel_rfl) (by kernel_rfl)
    (fun x y => laws_eqInt16S_eq n x.1 x.2.1) (fun _ _ => map_same (fun _ => rfl) _) (fun _ _ _ _ => rfl)

abbrev laws_eqDisksp : List Sp := [.v true (.pair (.list (.int .i16)) (.pair (.int .i64) (.int .i64))), .v true (.pair (.list (.int .i16)) (.pair (.int .i64) (.int .i64)))]
abbrev laws_eqDiskbs : List (Bs × Bool) := []
abbrev laws_eqDiskrs : List (Bool × List Rp) := [(false, [.v false .bool])]
noncomputable def laws_eqDiskkp : Keep := { loop := fun id => match id with | _ => [], join := fun id => match id with | _ => none }
noncomputable def laws_eqDiskc : Code := bodyOf Go.Proofs.Try.f59
noncomputable def laws_eqDiskF (n : Nat) : Fun := { id := 59, sp := laws_eqDisksp, bs := laws_eqDiskbs, rs := laws_eqDiskrs, f := fun x y => laws_eqDisk n x.1 x.2.1 }

theorem laws_eqDisk_eq (n : Nat) (a0 : (List (Int)) × ((Int) × (Int))) (a1 : (List (Int)) × ((Int) × (Int))) : runBody ([laws_eqInt16SF n]) ty 21 n laws_eqDiskkp laws_eqDiskc Go.Proofs.Try.f59.results.toList laws_eqDiskrs laws_eqDisksp laws_eqDiskbs (a0, (a1, ())) () = laws_eqDisk n a0 a1 := by
  have h : runBody ([laws_eqInt16SF n]) ty 21 n laws_eqDiskkp laws_eqDiskc Go.Proofs.Try.f59.results.toList laws_eqDiskrs laws_eqDisksp laws_eqDiskbs (a0, (a1, ())) () = laws_eqDisk_t n a0 a1 := by kernel_rfl
  rw [h]
  rfl

theorem laws_eqDisk_ok (n : Nat) : FunOk P (laws_eqDiskF n) :=
  funOk_mk (C := [laws_eqInt16SF n]) (N := 21) (kp := laws_eqDiskkp) (c := laws_eqDiskc) (n := n) (G := fun x y => laws_eqDisk n x.1 x.2.1) follows (AllOk.mem (⟨laws_eqInt16S_ok n, trivial⟩ : AllOk P ([laws_eqInt16SF n]))) (by kernel_rfl : P.funcs[59]? = some Go.Proofs.Try.f59) (by kernel_rfl) (by kernel_rfl) (by kernel_rfl)
    (fun x y => laws_eqDisk_eq n x.1 x.2.1) (fun _ _ => map_same (fun _ => rfl) _) (fun _ _ _ _ => rfl)

abbrev laws_FnExactSwingAtsp : List Sp := [.v true (.pair (.list (.int .i16)) (.pair (.int .i64) (.int .i64))), .v false (.int .i64)]
abbrev laws_FnExactSwingAtbs : List (Bs × Bool) := []
abbrev laws_FnExactSwingAtrs : List (Bool × List Rp) := [(false, [.v false .bool])]
noncomputable def laws_FnExactSwingAtkp : Keep := { loop := fun id => match id with | _ => [], join := fun id => match id with | _ => none }
noncomputable def laws_FnExactSwingAtc : Code := bodyOf Go.Proofs.Try.f14
noncomputable def laws_FnExactSwingAtF (n : Nat) : Fun := { id := 14, sp := laws_FnExactSwingAtsp, bs := laws_FnExactSwingAtbs, rs := laws_FnExactSwingAtrs, f := fun x y => laws_FnExactSwingAt n x.1 x.2.1 }

theorem laws_FnExactSwingAt_eq (n : Nat) (a0 : (List (Int)) × ((Int) × (Int))) (a1 : Int) : runBody ([laws_szDiskF n, laws_toDiskF n, spec_SwingAtF n, impl_SwingAtF n, laws_eqFracF n, laws_eqDiskF n]) ty 45 n laws_FnExactSwingAtkp laws_FnExactSwingAtc Go.Proofs.Try.f14.results.toList laws_FnExactSwingAtrs laws_FnExactSwingAtsp laws_FnExactSwingAtbs (a0, (a1, ())) () = laws_FnExactSwingAt n a0 a1 := by
  have h : runBody ([laws_szDiskF n, laws_toDiskF n, spec_SwingAtF n, impl_SwingAtF n, laws_eqFracF n, laws_eqDiskF n]) ty 45 n laws_FnExactSwingAtkp laws_FnExactSwingAtc Go.Proofs.Try.f14.results.toList laws_FnExactSwingAtrs laws_FnExactSwingAtsp laws_FnExactSwingAtbs (a0, (a1, ())) () = laws_FnExactSwingAt_t n a0 a1 := by kernel_rfl
  rw [h]
  rfl

theorem laws_FnExactSwingAt_ok (n : Nat) : FunOk P (laws_FnExactSwingAtF n) :=
  funOk_mk (C := [laws_szDiskF n, laws_toDiskF n, spec_SwingAtF n, impl_SwingAtF n, laws_eqFracF n, laws_eqDiskF n]) (N := 45) (kp := laws_FnExactSwingAtkp) (c := laws_FnExactSwingAtc) (n := n) (G := fun x y => laws_FnExactSwingAt n x.1 x.2.1) follows (AllOk.mem (⟨laws_szDisk_ok n, ⟨laws_toDisk_ok n, ⟨spec_SwingAt_ok n, ⟨impl_SwingAt_ok n, ⟨laws_eqFrac_ok n, ⟨laws_eqDisk_ok n, trivial⟩⟩⟩⟩⟩⟩ : AllOk P ([laws_szDiskF n, laws_toDiskF n, spec_SwingAtF n, impl_SwingAtF n, laws_eqFracF n, laws_eqDiskF n]))) (by kernel_rfl : P.funcs[14]? = some Go.Proofs.Try.f14) (by kernel_rfl) (by kernel_rfl) (by kernel_rfl)
    (fun x y => laws_FnExactSwingAt_eq n x.1 x.2.1) (fun _ _ => map_same (fun _ => rfl) _) (fun _ _ _ _ => rfl)

end Go.Abs
