import Derived.Test.YtmkhdpdepomohaaDSectorsOf0
import Derived.Test.YtmkhdpdepomohaaProg
import Derived.Test.YtmkhdpdepomohaaRow
import Derived.KernelRfl
namespace Go.Abs
open Go.Proofs
set_option maxRecDepth 100000
set_option linter.unusedVariables false

noncomputable abbrev P : Program := Try.prog
noncomputable abbrev ty : Nat → Option TyI := tyOf P
def bodyOf (f : Func) : Code := match f.body with | some c => c | none => .skip
theorem follows : P.follows .mixedOrders = true := by kernel_rfl

abbrev laws_szInt16Ssp : List Sp := [.v false (.list (.int .i16)), .v false (.int .i64)]
abbrev laws_szInt16Sbs : List (Bs × Bool) := []
abbrev laws_szInt16Srs : List (Bool × List Rp) := [(false, [.v false (.int .i64)])]
noncomputable def laws_szInt16Skp : Keep := { loop := fun id => match id with | _ => ([], []), join := fun id => match id with | _ => none }
noncomputable def laws_szInt16Sc : Code := bodyOf Go.Proofs.Try.f103
noncomputable def laws_szInt16SF (n : Nat) : Fun := { id := 103, sp := laws_szInt16Ssp, bs := laws_szInt16Sbs, rs := laws_szInt16Srs, f := fun x y => laws_szInt16S n x.1 x.2.1 }

theorem laws_szInt16S_eq (n : Nat) (a0 : List (Int)) (a1 : Int) : runBody ([]) ty 12 n laws_szInt16Skp laws_szInt16Sc Go.Proofs.Try.f103.results.toList laws_szInt16Srs laws_szInt16Ssp laws_szInt16Sbs (a0, (a1, ())) () = laws_szInt16S n a0 a1 := by
  have h : runBody ([]) ty 12 n laws_szInt16Skp laws_szInt16Sc Go.Proofs.Try.f103.results.toList laws_szInt16Srs laws_szInt16Ssp laws_szInt16Sbs (a0, (a1, ())) () = laws_szInt16S_t n a0 a1 := by kernel_rfl
  rw [h]
  rfl

theorem laws_szInt16S_ok (n : Nat) : FunOk P (laws_szInt16SF n) :=
  funOk_mk (C := []) (N := 12) (kp := laws_szInt16Skp) (c := laws_szInt16Sc) (n := n) (G := fun x y => laws_szInt16S n x.1 x.2.1) follows (AllOk.mem (trivial : AllOk P ([]))) (by kernel_rfl : P.funcs[103]? = some Go.Proofs.Try.f103) (by kernel_rfl) (by kernel_rfl) (by kernel_rfl)
    (fun x y => laws_szInt16S_eq n x.1 x.2.1) (fun _ _ => map_same (fun _ => rfl) _) (fun _ _ _ _ => rfl)

abbrev laws_szDisksp : List Sp := [.v true (.pair (.list (.int .i16)) (.pair (.int .i64) (.int .i64))), .v false (.int .i64)]
abbrev laws_szDiskbs : List (Bs × Bool) := []
abbrev laws_szDiskrs : List (Bool × List Rp) := [(false, [.v false (.int .i64)])]
noncomputable def laws_szDiskkp : Keep := { loop := fun id => match id with | _ => ([], []), join := fun id => match id with | _ => none }
noncomputable def laws_szDiskc : Code := bodyOf Go.Proofs.Try.f48
noncomputable def laws_szDiskF (n : Nat) : Fun := { id := 48, sp := laws_szDisksp, bs := laws_szDiskbs, rs := laws_szDiskrs, f := fun x y => laws_szDisk n x.1 x.2.1 }

theorem laws_szDisk_eq (n : Nat) (a0 : (List (Int)) × ((Int) × (Int))) (a1 : Int) : runBody ([laws_szInt16SF n]) ty 12 n laws_szDiskkp laws_szDiskc Go.Proofs.Try.f48.results.toList laws_szDiskrs laws_szDisksp laws_szDiskbs (a0, (a1, ())) () = laws_szDisk n a0 a1 := by
  have h : runBody ([laws_szInt16SF n]) ty 12 n laws_szDiskkp laws_szDiskc Go.Proofs.Try.f48.results.toList laws_szDiskrs laws_szDisksp laws_szDiskbs (a0, (a1, ())) () = laws_szDisk_t n a0 a1 := by kernel_rfl
  rw [h]
  rfl

theorem laws_szDisk_ok (n : Nat) : FunOk P (laws_szDiskF n) :=
  funOk_mk (C := [laws_szInt16SF n]) (N := 12) (kp := laws_szDiskkp) (c := laws_szDiskc) (n := n) (G := fun x y => laws_szDisk n x.1 x.2.1) follows (AllOk.mem (⟨laws_szInt16S_ok n, trivial⟩ : AllOk P ([laws_szInt16SF n]))) (by kernel_rfl : P.funcs[48]? = some Go.Proofs.Try.f48) (by kernel_rfl) (by kernel_rfl) (by kernel_rfl)
    (fun x y => laws_szDisk_eq n x.1 x.2.1) (fun _ _ => map_same (fun _ => rfl) _) (fun _ _ _ _ => rfl)

abbrev laws_toInt16Ssp : List Sp := [.v false (.list (.int .i16))]
abbrev laws_toInt16Sbs : List (Bs × Bool) := []
abbrev laws_toInt16Srs : List (Bool × List Rp) := [(false, [.new  (.int .i16)])]
noncomputable def laws_toInt16Skp : Keep := { loop := fun id => match id with | 3 => ([4, 0, 3], []) | _ => ([], []), join := fun id => match id with | _ => none }
noncomputable def laws_toInt16Sc : Code := bodyOf Go.Proofs.Try.f108
noncomputable def laws_toInt16SF (n : Nat) : Fun := { id := 108, sp := laws_toInt16Ssp, bs := laws_toInt16Sbs, rs := laws_toInt16Srs, f := fun x y => laws_toInt16S n x.1 }

theorem laws_toInt16S_l3_eq (n : Nat) : ∀ (k : Nat) (v4 : Int) (v0 : List (Int)) (b0 : List (Int)), iter (interp ([]) ty 22 0 n laws_toInt16Skp (codeAt laws_toInt16Sc [1, 1, 0, 1, 0, 0])) (canon 0 (laws_toInt16Skp.loop 3)) (kAt ([]) ty 22 0 n laws_toInt16Skp laws_toInt16Sc [1, 1, 0, 1, 0] [] (ending ty 0 Go.Proofs.Try.f108.results.toList laws_toInt16Srs laws_toInt16Sbs)) k { env := [(4, .one (.sc (.int .i64 v4))), (0, .one (.list true (.int .i16) v0)), (3, .one (.slice 0 0 none))], bx := [(0, .row 0 (.int .i16) b0)], nx := 1 } = laws_toInt16S_l3 n k v4 v0 b0
  | 0, _, _, _ => by kernel_rfl
  | k + 1, v4, v0, b0 => by
    have h : iter (interp ([]) ty 22 0 n laws_toInt16Skp (codeAt laws_toInt16Sc [1, 1, 0, 1, 0, 0])) (canon 0 (laws_toInt16Skp.loop 3)) (kAt ([]) ty 22 0 n laws_toInt16Skp laws_toInt16Sc [1, 1, 0, 1, 0] [] (ending ty 0 Go.Proofs.Try.f108.results.toList laws_toInt16Srs laws_toInt16Sbs)) (k + 1) { env := [(4, .one (.sc (.int .i64 v4))), (0, .one (.list true (.int .i16) v0)), (3, .one (.slice 0 0 none))], bx := [(0, .row 0 (.int .i16) b0)], nx := 1 } = laws_toInt16S_t3 n (fun v4 v0 b0 => iter (interp ([]) ty 22 0 n laws_toInt16Skp (codeAt laws_toInt16Sc [1, 1, 0, 1, 0, 0])) (canon 0 (laws_toInt16Skp.loop 3)) (kAt ([]) ty 22 0 n laws_toInt16Skp laws_toInt16Sc [1, 1, 0, 1, 0] [] (ending ty 0 Go.Proofs.Try.f108.results.toList laws_toInt16Srs laws_toInt16Sbs)) k { env := [(4, .one (.sc (.int .i64 v4))), (0, .one (.list true (.int .i16) v0)), (3, .one (.slice 0 0 none))], bx := [(0, .row 0 (.int .i16) b0)], nx := 1 }) v4 v0 b0 := by kernel_rfl
    rw [h]
    have e := congrArg (fun g => laws_toInt16S_t3 n g v4 v0 b0) (funext fun v4 => funext fun v0 => funext fun b0 => laws_toInt16S_l3_eq n k v4 v0 b0)
    exact e

theorem laws_toInt16S_eq (n : Nat) (a0 : List (Int)) : runBody ([]) ty 22 n laws_toInt16Skp laws_toInt16Sc Go.Proofs.Try.f108.results.toList laws_toInt16Srs laws_toInt16Ssp laws_toInt16Sbs (a0, ()) () = laws_toInt16S n a0 := by
  have h : runBody ([]) ty 22 n laws_toInt16Skp laws_toInt16Sc Go.Proofs.Try.f108.results.toList laws_toInt16Srs laws_toInt16Ssp laws_toInt16Sbs (a0, ()) () = laws_toInt16S_t n (fun k v4 v0 b0 => iter (interp ([]) ty 22 0 n laws_toInt16Skp (codeAt laws_toInt16Sc [1, 1, 0, 1, 0, 0])) (canon 0 (laws_toInt16Skp.loop 3)) (kAt ([]) ty 22 0 n laws_toInt16Skp laws_toInt16Sc [1, 1, 0, 1, 0] [] (ending ty 0 Go.Proofs.Try.f108.results.toList laws_toInt16Srs laws_toInt16Sbs)) k { env := [(4, .one (.sc (.int .i64 v4))), (0, .one (.list true (.int .i16) v0)), (3, .one (.slice 0 0 none))], bx := [(0, .row 0 (.int .i16) b0)], nx := 1 }) a0 := by kernel_rfl
  rw [h]
  have e := congrArg (fun h3 => laws_toInt16S_t n h3 a0) (funext fun k => funext fun v4 => funext fun v0 => funext fun b0 => laws_toInt16S_l3_eq n k v4 v0 b0)
  exact e

theorem laws_toInt16S_ok (n : Nat) : FunOk P (laws_toInt16SF n) :=
  funOk_mk (C := []) (N := 22) (kp := laws_toInt16Skp) (c := laws_toInt16Sc) (n := n) (G := fun x y => laws_toInt16S n x.1) follows (AllOk.mem (trivial : AllOk P ([]))) (by kernel_rfl : P.funcs[108]? = some Go.Proofs.Try.f108) (by kernel_rfl) (by kernel_rfl) (by kernel_rfl)
    (fun x y => laws_toInt16S_eq n x.1) (fun _ _ => map_same (fun _ => rfl) _) (fun _ _ _ _ => rfl)

abbrev laws_toDisksp : List Sp := [.v true (.pair (.list (.int .i16)) (.pair (.int .i64) (.int .i64)))]
abbrev laws_toDiskbs : List (Bs × Bool) := []
abbrev laws_toDiskrs : List (Bool × List Rp) := [(true, [.new (.int .i16), .v false (.pair (.int .i64) (.int .i64))])]
noncomputable def laws_toDiskkp : Keep := { loop := fun id => match id with | _ => ([], []), join := fun id => match id with | _ => none }
noncomputable def laws_toDiskc : Code := bodyOf Go.Proofs.Try.f50
noncomputable def laws_toDiskF (n : Nat) : Fun := { id := 50, sp := laws_toDisksp, bs := laws_toDiskbs, rs := laws_toDiskrs, f := fun x y => laws_toDisk n x.1 }

theorem laws_toDisk_eq (n : Nat) (a0 : (List (Int)) × ((Int) × (Int))) : runBody ([laws_toInt16SF n]) ty 15 n laws_toDiskkp laws_toDiskc Go.Proofs.Try.f50.results.toList laws_toDiskrs laws_toDisksp laws_toDiskbs (a0, ()) () = laws_toDisk n a0 := by
  have h : runBody ([laws_toInt16SF n]) ty 15 n laws_toDiskkp laws_toDiskc Go.Proofs.Try.f50.results.toList laws_toDiskrs laws_toDisksp laws_toDiskbs (a0, ()) () = laws_toDisk_t n a0 := by kernel_rfl
  rw [h]
  rfl

theorem laws_toDisk_ok (n : Nat) : FunOk P (laws_toDiskF n) :=
  funOk_mk (C := [laws_toInt16SF n]) (N := 15) (kp := laws_toDiskkp) (c := laws_toDiskc) (n := n) (G := fun x y => laws_toDisk n x.1) follows (AllOk.mem (⟨laws_toInt16S_ok n, trivial⟩ : AllOk P ([laws_toInt16SF n]))) (by kernel_rfl : P.funcs[50]? = some Go.Proofs.Try.f50) (by kernel_rfl) (by kernel_rfl) (by kernel_rfl)
    (fun x y => laws_toDisk_eq n x.1) (fun _ _ => map_same (fun _ => rfl) _) (fun _ _ _ _ => rfl)

abbrev spec_l00Insp : List Sp := [.v false (.int .i64), .v false (.int .i64), .v false (.int .i64)]
abbrev spec_l00Inbs : List (Bs × Bool) := []
abbrev spec_l00Inrs : List (Bool × List Rp) := [(false, [.v false .bool])]
noncomputable def spec_l00Inkp : Keep := { loop := fun id => match id with | _ => ([], []), join := fun id => match id with | _ => none }
noncomputable def spec_l00Inc : Code := bodyOf Go.Proofs.Try.f94
noncomputable def spec_l00InF (n : Nat) : Fun := { id := 94, sp := spec_l00Insp, bs := spec_l00Inbs, rs := spec_l00Inrs, f := fun x y => spec_l00In n x.1 x.2.1 x.2.2.1 }

theorem spec_l00In_eq (n : Nat) (a0 : Int) (a1 : Int) (a2 : Int) : runBody ([]) ty 15 n spec_l00Inkp spec_l00Inc Go.Proofs.Try.f94.results.toList spec_l00Inrs spec_l00Insp spec_l00Inbs (a0, (a1, (a2, ()))) () = spec_l00In n a0 a1 a2 := by
  have h : runBody ([]) ty 15 n spec_l00Inkp spec_l00Inc Go.Proofs.Try.f94.results.toList spec_l00Inrs spec_l00Insp spec_l00Inbs (a0, (a1, (a2, ()))) () = spec_l00In_t n a0 a1 a2 := by kernel_rfl
  rw [h]
  rfl

theorem spec_l00In_ok (n : Nat) : FunOk P (spec_l00InF n) :=
  funOk_mk (C := []) (N := 15) (kp := spec_l00Inkp) (c := spec_l00Inc) (n := n) (G := fun x y => spec_l00In n x.1 x.2.1 x.2.2.1) follows (AllOk.mem (trivial : AllOk P ([]))) (by kernel_rfl : P.funcs[94]? = some Go.Proofs.Try.f94) (by kernel_rfl) (by kernel_rfl) (by kernel_rfl)
    (fun x y => spec_l00In_eq n x.1 x.2.1 x.2.2.1) (fun _ _ => map_same (fun _ => rfl) _) (fun _ _ _ _ => rfl)

abbrev spec_l03Oksp : List Sp := [.ref 0]
abbrev spec_l03Okbs : List (Bs × Bool) := [(.var 75 (.pair (.list (.int .i16)) (.pair (.int .i64) (.int .i64))), true)]
abbrev spec_l03Okrs : List (Bool × List Rp) := [(false, [.v false .bool])]
noncomputable def spec_l03Okkp : Keep := { loop := fun id => match id with | 5 => ([4, 0], []) | _ => ([], []), join := fun id => match id with | _ => none }
noncomputable def spec_l03Okc : Code := bodyOf Go.Proofs.Try.f104
noncomputable def spec_l03OkF (n : Nat) : Fun := { id := 104, sp := spec_l03Oksp, bs := spec_l03Okbs, rs := spec_l03Okrs, f := fun x y => spec_l03Ok n y.1 }

theorem spec_l03Ok_l5_eq (n : Nat) : ∀ (k : Nat) (v4 : Int) (b0_0 : List (Int)) (b0_1 : Int) (b0_2 : Int), iter (interp ([spec_l00InF n]) ty 49 1 n spec_l03Okkp (codeAt spec_l03Okc [1, 1, 1, 0, 1, 0, 0])) (canon 1 (spec_l03Okkp.loop 5)) (kAt ([spec_l00InF n]) ty 49 1 n spec_l03Okkp spec_l03Okc [1, 1, 1, 0, 1, 0] [] (ending ty 1 Go.Proofs.Try.f104.results.toList spec_l03Okrs spec_l03Okbs)) k { env := [(4, .one (.sc (.int .i64 v4))), (0, .one (.ref 0 0 0 0 0 0))], bx := [(0, .var 75 [.list true (.int .i16) b0_0, .sc (.int .i64 b0_1), .sc (.int .i64 b0_2)])], nx := 1 } = spec_l03Ok_l5 n k v4 b0_0 b0_1 b0_2
  | 0, _, _, _, _ => by kernel_rfl
  | k + 1, v4, b0_0, b0_1, b0_2 => by
    have h : iter (interp ([spec_l00InF n]) ty 49 1 n spec_l03Okkp (codeAt spec_l03Okc [1, 1, 1, 0, 1, 0, 0])) (canon 1 (spec_l03Okkp.loop 5)) (kAt ([spec_l00InF n]) ty 49 1 n spec_l03Okkp spec_l03Okc [1, 1, 1, 0, 1, 0] [] (ending ty 1 Go.Proofs.Try.f104.results.toList spec_l03Okrs spec_l03Okbs)) (k + 1) { env := [(4, .one (.sc (.int .i64 v4))), (0, .one (.ref 0 0 0 0 0 0))], bx := [(0, .var 75 [.list true (.int .i16) b0_0, .sc (.int .i64 b0_1), .sc (.int .i64 b0_2)])], nx := 1 } = spec_l03Ok_t5 n (fun v4 b0_0 b0_1 b0_2 => iter (interp ([spec_l00InF n]) ty 49 1 n spec_l03Okkp (codeAt spec_l03Okc [1, 1, 1, 0, 1, 0, 0])) (canon 1 (spec_l03Okkp.loop 5)) (kAt ([spec_l00InF n]) ty 49 1 n spec_l03Okkp spec_l03Okc [1, 1, 1, 0, 1, 0] [] (ending ty 1 Go.Proofs.Try.f104.results.toList spec_l03Okrs spec_l03Okbs)) k { env := [(4, .one (.sc (.int .i64 v4))), (0, .one (.ref 0 0 0 0 0 0))], bx := [(0, .var 75 [.list true (.int .i16) b0_0, .sc (.int .i64 b0_1), .sc (.int .i64 b0_2)])], nx := 1 }) v4 b0_0 b0_1 b0_2 := by kernel_rfl
    rw [h]
    have e := congrArg (fun g => spec_l03Ok_t5 n g v4 b0_0 b0_1 b0_2) (funext fun v4 => funext fun b0_0 => funext fun b0_1 => funext fun b0_2 => spec_l03Ok_l5_eq n k v4 b0_0 b0_1 b0_2)
    exact e

theorem spec_l03Ok_eq (n : Nat) (b0 : (List (Int)) × ((Int) × (Int))) : runBody ([spec_l00InF n]) ty 49 n spec_l03Okkp spec_l03Okc Go.Proofs.Try.f104.results.toList spec_l03Okrs spec_l03Oksp spec_l03Okbs ((), ()) (b0, ()) = spec_l03Ok n b0 := by
  have h : runBody ([spec_l00InF n]) ty 49 n spec_l03Okkp spec_l03Okc Go.Proofs.Try.f104.results.toList spec_l03Okrs spec_l03Oksp spec_l03Okbs ((), ()) (b0, ()) = spec_l03Ok_t n (fun k v4 b0_0 b0_1 b0_2 => iter (interp ([spec_l00InF n]) ty 49 1 n spec_l03Okkp (codeAt spec_l03Okc [1, 1, 1, 0, 1, 0, 0])) (canon 1 (spec_l03Okkp.loop 5)) (kAt ([spec_l00InF n]) ty 49 1 n spec_l03Okkp spec_l03Okc [1, 1, 1, 0, 1, 0] [] (ending ty 1 Go.Proofs.Try.f104.results.toList spec_l03Okrs spec_l03Okbs)) k { env := [(4, .one (.sc (.int .i64 v4))), (0, .one (.ref 0 0 0 0 0 0))], bx := [(0, .var 75 [.list true (.int .i16) b0_0, .sc (.int .i64 b0_1), .sc (.int .i64 b0_2)])], nx := 1 }) b0 := by kernel_rfl
  rw [h]
  have e := congrArg (fun h5 => spec_l03Ok_t n h5 b0) (funext fun k => funext fun v4 => funext fun b0_0 => funext fun b0_1 => funext fun b0_2 => spec_l03Ok_l5_eq n k v4 b0_0 b0_1 b0_2)
  exact e

theorem spec_l03Ok_ok (n : Nat) : FunOk P (spec_l03OkF n) :=
  funOk_mk (C := [spec_l00InF n]) (N := 49) (kp := spec_l03Okkp) (c := spec_l03Okc) (n := n) (G := fun x y => spec_l03Ok n y.1) follows (AllOk.mem (⟨spec_l00In_ok n, trivial⟩ : AllOk P ([spec_l00InF n]))) (by kernel_rfl : P.funcs[104]? = some Go.Proofs.Try.f104) (by kernel_rfl) (by kernel_rfl) (by kernel_rfl)
    (fun x y => spec_l03Ok_eq n y.1) (fun _ _ => map_same (fun _ => rfl) _) (fun _ _ _ _ => rfl)

abbrev spec_l03Faultsp : List Sp := [.ref 0, .v false (.int .i64)]
abbrev spec_l03Faultbs : List (Bs × Bool) := [(.var 75 (.pair (.list (.int .i16)) (.pair (.int .i64) (.int .i64))), true)]
abbrev spec_l03Faultrs : List (Bool × List Rp) := [(false, [.v false (.int .i64)]), (false, [.v false (.int .i64)])]
noncomputable def spec_l03Faultkp : Keep := { loop := fun id => match id with | _ => ([], []), join := fun id => match id with | _ => none }
noncomputable def spec_l03Faultc : Code := bodyOf Go.Proofs.Try.f149
noncomputable def spec_l03FaultF (n : Nat) : Fun := { id := 149, sp := spec_l03Faultsp, bs := spec_l03Faultbs, rs := spec_l03Faultrs, f := fun x y => spec_l03Fault n x.2.1 y.1 }

theorem spec_l03Fault_eq (n : Nat) (a1 : Int) (b0 : (List (Int)) × ((Int) × (Int))) : runBody ([]) ty 54 n spec_l03Faultkp spec_l03Faultc Go.Proofs.Try.f149.results.toList spec_l03Faultrs spec_l03Faultsp spec_l03Faultbs ((), (a1, ())) (b0, ()) = spec_l03Fault n a1 b0 := by
  have h : runBody ([]) ty 54 n spec_l03Faultkp spec_l03Faultc Go.Proofs.Try.f149.results.toList spec_l03Faultrs spec_l03Faultsp spec_l03Faultbs ((), (a1, ())) (b0, ()) = spec_l03Fault_t n a1 b0 := by kernel_rfl
  rw [h]
  rfl

theorem spec_l03Fault_ok (n : Nat) : FunOk P (spec_l03FaultF n) :=
  funOk_mk (C := []) (N := 54) (kp := spec_l03Faultkp) (c := spec_l03Faultc) (n := n) (G := fun x y => spec_l03Fault n x.2.1 y.1) follows (AllOk.mem (trivial : AllOk P ([]))) (by kernel_rfl : P.funcs[149]? = some Go.Proofs.Try.f149) (by kernel_rfl) (by kernel_rfl) (by kernel_rfl)
    (fun x y => spec_l03Fault_eq n x.2.1 y.1) (fun _ _ => map_same (fun _ => rfl) _) (fun _ _ _ _ => rfl)

abbrev spec_l03Swingsp : List Sp := [.v false (.int .i64)]
abbrev spec_l03Swingbs : List (Bs × Bool) := []
abbrev spec_l03Swingrs : List (Bool × List Rp) := [(false, [.v false (.int .i64)])]
noncomputable def spec_l03Swingkp : Keep := { loop := fun id => match id with | _ => ([], []), join := fun id => match id with | _ => none }
noncomputable def spec_l03Swingc : Code := bodyOf Go.Proofs.Try.f176
noncomputable def spec_l03SwingF (n : Nat) : Fun := { id := 176, sp := spec_l03Swingsp, bs := spec_l03Swingbs, rs := spec_l03Swingrs, f := fun x y => spec_l03Swing n x.1 }

theorem spec_l03Swing_eq (n : Nat) (a0 : Int) : runBody ([]) ty 12 n spec_l03Swingkp spec_l03Swingc Go.Proofs.Try.f176.results.toList spec_l03Swingrs spec_l03Swingsp spec_l03Swingbs (a0, ()) () = spec_l03Swing n a0 := by
  have h : runBody ([]) ty 12 n spec_l03Swingkp spec_l03Swingc Go.Proofs.Try.f176.results.toList spec_l03Swingrs spec_l03Swingsp spec_l03Swingbs (a0, ()) () = spec_l03Swing_t n a0 := by kernel_rfl
  rw [h]
  rfl

theorem spec_l03Swing_ok (n : Nat) : FunOk P (spec_l03SwingF n) :=
  funOk_mk (C := []) (N := 12) (kp := spec_l03Swingkp) (c := spec_l03Swingc) (n := n) (G := fun x y => spec_l03Swing n x.1) follows (AllOk.mem (trivial : AllOk P ([]))) (by kernel_rfl : P.funcs[176]? = some Go.Proofs.Try.f176) (by kernel_rfl) (by kernel_rfl) (by kernel_rfl)
    (fun x y => spec_l03Swing_eq n x.1) (fun _ _ => map_same (fun _ => rfl) _) (fun _ _ _ _ => rfl)

abbrev spec_l03Wrapsp : List Sp := [.v false (.int .i64)]
abbrev spec_l03Wrapbs : List (Bs × Bool) := []
abbrev spec_l03Wraprs : List (Bool × List Rp) := [(false, [.v false (.int .i64)])]
noncomputable def spec_l03Wrapkp : Keep := { loop := fun id => match id with | _ => ([], []), join := fun id => match id with | _ => none }
noncomputable def spec_l03Wrapc : Code := bodyOf Go.Proofs.Try.f106
noncomputable def spec_l03WrapF (n : Nat) : Fun := { id := 106, sp := spec_l03Wrapsp, bs := spec_l03Wrapbs, rs := spec_l03Wraprs, f := fun x y => spec_l03Wrap n x.1 }

theorem spec_l03Wrap_eq (n : Nat) (a0 : Int) : runBody ([]) ty 10 n spec_l03Wrapkp spec_l03Wrapc Go.Proofs.Try.f106.results.toList spec_l03Wraprs spec_l03Wrapsp spec_l03Wrapbs (a0, ()) () = spec_l03Wrap n a0 := by
  have h : runBody ([]) ty 10 n spec_l03Wrapkp spec_l03Wrapc Go.Proofs.Try.f106.results.toList spec_l03Wraprs spec_l03Wrapsp spec_l03Wrapbs (a0, ()) () = spec_l03Wrap_t n a0 := by kernel_rfl
  rw [h]
  rfl

theorem spec_l03Wrap_ok (n : Nat) : FunOk P (spec_l03WrapF n) :=
  funOk_mk (C := []) (N := 10) (kp := spec_l03Wrapkp) (c := spec_l03Wrapc) (n := n) (G := fun x y => spec_l03Wrap n x.1) follows (AllOk.mem (trivial : AllOk P ([]))) (by kernel_rfl : P.funcs[106]? = some Go.Proofs.Try.f106) (by kernel_rfl) (by kernel_rfl) (by kernel_rfl)
    (fun x y => spec_l03Wrap_eq n x.1) (fun _ _ => map_same (fun _ => rfl) _) (fun _ _ _ _ => rfl)

abbrev spec_l03Offsp : List Sp := [.ref 0, .v false (.int .i64)]
abbrev spec_l03Offbs : List (Bs × Bool) := [(.var 75 (.pair (.list (.int .i16)) (.pair (.int .i64) (.int .i64))), true)]
abbrev spec_l03Offrs : List (Bool × List Rp) := [(false, [.v false (.int .i64)])]
noncomputable def spec_l03Offkp : Keep := { loop := fun id => match id with | _ => ([], []), join := fun id => match id with | _ => none }
noncomputable def spec_l03Offc : Code := bodyOf Go.Proofs.Try.f150
noncomputable def spec_l03OffF (n : Nat) : Fun := { id := 150, sp := spec_l03Offsp, bs := spec_l03Offbs, rs := spec_l03Offrs, f := fun x y => spec_l03Off n x.2.1 y.1 }

theorem spec_l03Off_eq (n : Nat) (a1 : Int) (b0 : (List (Int)) × ((Int) × (Int))) : runBody ([spec_l03SwingF n, spec_l03WrapF n]) ty 22 n spec_l03Offkp spec_l03Offc Go.Proofs.Try.f150.results.toList spec_l03Offrs spec_l03Offsp spec_l03Offbs ((), (a1, ())) (b0, ()) = spec_l03Off n a1 b0 := by
  have h : runBody ([spec_l03SwingF n, spec_l03WrapF n]) ty 22 n spec_l03Offkp spec_l03Offc Go.Proofs.Try.f150.results.toList spec_l03Offrs spec_l03Offsp spec_l03Offbs ((), (a1, ())) (b0, ()) = spec_l03Off_t n a1 b0 := by kernel_rfl
  rw [h]
  rfl

theorem spec_l03Off_ok (n : Nat) : FunOk P (spec_l03OffF n) :=
  funOk_mk (C := [spec_l03SwingF n, spec_l03WrapF n]) (N := 22) (kp := spec_l03Offkp) (c := spec_l03Offc) (n := n) (G := fun x y => spec_l03Off n x.2.1 y.1) follows (AllOk.mem (⟨spec_l03Swing_ok n, ⟨spec_l03Wrap_ok n, trivial⟩⟩ : AllOk P ([spec_l03SwingF n, spec_l03WrapF n]))) (by kernel_rfl : P.funcs[150]? = some Go.Proofs.Try.f150) (by kernel_rfl) (by kernel_rfl) (by kernel_rfl)
    (fun x y => spec_l03Off_eq n x.2.1 y.1) (fun _ _ => map_same (fun _ => rfl) _) (fun _ _ _ _ => rfl)

abbrev spec_l01Downsp : List Sp := [.v false (.int .i64), .v false (.int .i64)]
abbrev spec_l01Downbs : List (Bs × Bool) := []
abbrev spec_l01Downrs : List (Bool × List Rp) := [(false, [.v false (.int .i64)])]
noncomputable def spec_l01Downkp : Keep := { loop := fun id => match id with | _ => ([], []), join := fun id => match id with | _ => none }
noncomputable def spec_l01Downc : Code := bodyOf Go.Proofs.Try.f151
noncomputable def spec_l01DownF (n : Nat) : Fun := { id := 151, sp := spec_l01Downsp, bs := spec_l01Downbs, rs := spec_l01Downrs, f := fun x y => spec_l01Down n x.1 x.2.1 }

theorem spec_l01Down_eq (n : Nat) (a0 : Int) (a1 : Int) : runBody ([]) ty 16 n spec_l01Downkp spec_l01Downc Go.Proofs.Try.f151.results.toList spec_l01Downrs spec_l01Downsp spec_l01Downbs (a0, (a1, ())) () = spec_l01Down n a0 a1 := by
  have h : runBody ([]) ty 16 n spec_l01Downkp spec_l01Downc Go.Proofs.Try.f151.results.toList spec_l01Downrs spec_l01Downsp spec_l01Downbs (a0, (a1, ())) () = spec_l01Down_t n a0 a1 := by kernel_rfl
  rw [h]
  rfl

theorem spec_l01Down_ok (n : Nat) : FunOk P (spec_l01DownF n) :=
  funOk_mk (C := []) (N := 16) (kp := spec_l01Downkp) (c := spec_l01Downc) (n := n) (G := fun x y => spec_l01Down n x.1 x.2.1) follows (AllOk.mem (trivial : AllOk P ([]))) (by kernel_rfl : P.funcs[151]? = some Go.Proofs.Try.f151) (by kernel_rfl) (by kernel_rfl) (by kernel_rfl)
    (fun x y => spec_l01Down_eq n x.1 x.2.1) (fun _ _ => map_same (fun _ => rfl) _) (fun _ _ _ _ => rfl)

abbrev spec_l03Headsp : List Sp := [.ref 0, .v false (.int .i64), .v false (.int .i64)]
abbrev spec_l03Headbs : List (Bs × Bool) := [(.var 75 (.pair (.list (.int .i16)) (.pair (.int .i64) (.int .i64))), true)]
abbrev spec_l03Headrs : List (Bool × List Rp) := [(false, [.v false (.int .i64)])]
noncomputable def spec_l03Headkp : Keep := { loop := fun id => match id with | _ => ([], []), join := fun id => match id with | _ => none }
noncomputable def spec_l03Headc : Code := bodyOf Go.Proofs.Try.f105
noncomputable def spec_l03HeadF (n : Nat) : Fun := { id := 105, sp := spec_l03Headsp, bs := spec_l03Headbs, rs := spec_l03Headrs, f := fun x y => spec_l03Head n x.2.1 x.2.2.1 y.1 }

theorem spec_l03Head_eq (n : Nat) (a1 : Int) (a2 : Int) (b0 : (List (Int)) × ((Int) × (Int))) : runBody ([spec_l03FaultF n, spec_l03OffF n, spec_l01DownF n, spec_l03WrapF n]) ty 44 n spec_l03Headkp spec_l03Headc Go.Proofs.Try.f105.results.toList spec_l03Headrs spec_l03Headsp spec_l03Headbs ((), (a1, (a2, ()))) (b0, ()) = spec_l03Head n a1 a2 b0 := by
  have h : runBody ([spec_l03FaultF n, spec_l03OffF n, spec_l01DownF n, spec_l03WrapF n]) ty 44 n spec_l03Headkp spec_l03Headc Go.Proofs.Try.f105.results.toList spec_l03Headrs spec_l03Headsp spec_l03Headbs ((), (a1, (a2, ()))) (b0, ()) = spec_l03Head_t n a1 a2 b0 := by kernel_rfl
  rw [h]
  rfl

theorem spec_l03Head_ok (n : Nat) : FunOk P (spec_l03HeadF n) :=
  funOk_mk (C := [spec_l03FaultF n, spec_l03OffF n, spec_l01DownF n, spec_l03WrapF n]) (N := 44) (kp := spec_l03Headkp) (c := spec_l03Headc) (n := n) (G := fun x y => spec_l03Head n x.2.1 x.2.2.1 y.1) follows (AllOk.mem (⟨spec_l03Fault_ok n, ⟨spec_l03Off_ok n, ⟨spec_l01Down_ok n, ⟨spec_l03Wrap_ok n, trivial⟩⟩⟩⟩ : AllOk P ([spec_l03FaultF n, spec_l03OffF n, spec_l01DownF n, spec_l03WrapF n]))) (by kernel_rfl : P.funcs[105]? = some Go.Proofs.Try.f105) (by kernel_rfl) (by kernel_rfl) (by kernel_rfl)
    (fun x y => spec_l03Head_eq n x.2.1 x.2.2.1 y.1) (fun _ _ => map_same (fun _ => rfl) _) (fun _ _ _ _ => rfl)

abbrev spec_l03Turnsp : List Sp := [.v false (.int .i64), .v false (.int .i64)]
abbrev spec_l03Turnbs : List (Bs × Bool) := []
abbrev spec_l03Turnrs : List (Bool × List Rp) := [(false, [.v false (.int .i64)])]
noncomputable def spec_l03Turnkp : Keep := { loop := fun id => match id with | _ => ([], []), join := fun id => match id with | _ => none }
noncomputable def spec_l03Turnc : Code := bodyOf Go.Proofs.Try.f107
noncomputable def spec_l03TurnF (n : Nat) : Fun := { id := 107, sp := spec_l03Turnsp, bs := spec_l03Turnbs, rs := spec_l03Turnrs, f := fun x y => spec_l03Turn n x.1 x.2.1 }

theorem spec_l03Turn_eq (n : Nat) (a0 : Int) (a1 : Int) : runBody ([spec_l03WrapF n]) ty 15 n spec_l03Turnkp spec_l03Turnc Go.Proofs.Try.f107.results.toList spec_l03Turnrs spec_l03Turnsp spec_l03Turnbs (a0, (a1, ())) () = spec_l03Turn n a0 a1 := by
  have h : runBody ([spec_l03WrapF n]) ty 15 n spec_l03Turnkp spec_l03Turnc Go.Proofs.Try.f107.results.toList spec_l03Turnrs spec_l03Turnsp spec_l03Turnbs (a0, (a1, ())) () = spec_l03Turn_t n a0 a1 := by kernel_rfl
  rw [h]
  rfl

theorem spec_l03Turn_ok (n : Nat) : FunOk P (spec_l03TurnF n) :=
  funOk_mk (C := [spec_l03WrapF n]) (N := 15) (kp := spec_l03Turnkp) (c := spec_l03Turnc) (n := n) (G := fun x y => spec_l03Turn n x.1 x.2.1) follows (AllOk.mem (⟨spec_l03Wrap_ok n, trivial⟩ : AllOk P ([spec_l03WrapF n]))) (by kernel_rfl : P.funcs[107]? = some Go.Proofs.Try.f107) (by kernel_rfl) (by kernel_rfl) (by kernel_rfl)
    (fun x y => spec_l03Turn_eq n x.1 x.2.1) (fun _ _ => map_same (fun _ => rfl) _) (fun _ _ _ _ => rfl)

abbrev spec_SectorsOfsp : List Sp := [.v true (.pair (.list (.int .i16)) (.pair (.int .i64) (.int .i64))), .v false (.int .i64), .v false (.int .i64)]
abbrev spec_SectorsOfbs : List (Bs × Bool) := []
abbrev spec_SectorsOfrs : List (Bool × List Rp) := [(false, [.new  (.int .i64)]), (false, [.v false (.int .i64)])]
noncomputable def spec_SectorsOfkp : Keep := { loop := fun id => match id with | 7 => ([9, 8, 3, 2, 1], []) | _ => ([], []), join := fun id => match id with | _ => none }
noncomputable def spec_SectorsOfc : Code := bodyOf Go.Proofs.Try.f49
noncomputable def spec_SectorsOfF (n : Nat) : Fun := { id := 49, sp := spec_SectorsOfsp, bs := spec_SectorsOfbs, rs := spec_SectorsOfrs, f := fun x y => spec_SectorsOf n x.1 x.2.1 x.2.2.1 }

theorem spec_SectorsOf_l7_eq (n : Nat) : ∀ (k : Nat) (v9 : Int) (v2 : Int) (v1 : Int) (b0 : List (Int)) (b1_0 : List (Int)) (b1_1 : Int) (b1_2 : Int), iter (interp ([spec_l03OkF n, spec_l00InF n, spec_l03HeadF n, spec_l03WrapF n, spec_l03TurnF n]) ty 62 0 n spec_SectorsOfkp (codeAt spec_SectorsOfc [1, 1, 1, 1, 0, 1, 0, 0])) (canon 0 (spec_SectorsOfkp.loop 7)) (kAt ([spec_l03OkF n, spec_l00InF n, spec_l03HeadF n, spec_l03WrapF n, spec_l03TurnF n]) ty 62 0 n spec_SectorsOfkp spec_SectorsOfc [1, 1, 1, 1, 0, 1, 0] [] (ending ty 0 Go.Proofs.Try.f49.results.toList spec_SectorsOfrs spec_SectorsOfbs)) k { env := [(9, .one (.sc (.int .i64 v9))), (8, .one (.slice 0 0 none)), (3, .one (.ref 1 0 0 0 0 0)), (2, .one (.sc (.int .i64 v2))), (1, .one (.sc (.int .i64 v1)))], bx := [(0, .row 0 (.int .i64) b0), (1, .var 75 [.list true (.int .i16) b1_0, .sc (.int .i64 b1_1), .sc (.int .i64 b1_2)])], nx := 2 } = spec_SectorsOf_l7 n k v9 v2 v1 b0 b1_0 b1_1 b1_2
  | 0, _, _, _, _, _, _, _ => by kernel_rfl
  | k + 1, v9, v2, v1, b0, b1_0, b1_1, b1_2 => by
    have h : iter (interp ([spec_l03OkF n, spec_l00InF n, spec_l03HeadF n, spec_l03WrapF n, spec_l03TurnF n]) ty 62 0 n spec_SectorsOfkp (codeAt spec_SectorsOfc [1, 1, 1, 1, 0, 1, 0, 0])) (canon 0 (spec_SectorsOfkp.loop 7)) (kAt ([spec_l03OkF n, spec_l00InF n, spec_l03HeadF n, spec_l03WrapF n, spec_l03TurnF n]) ty 62 0 n spec_SectorsOfkp spec_SectorsOfc [1, 1, 1, 1, 0, 1, 0] [] (ending ty 0 Go.Proofs.Try.f49.results.toList spec_SectorsOfrs spec_SectorsOfbs)) (k + 1) { env := [(9, .one (.sc (.int .i64 v9))), (8, .one (.slice 0 0 none)), (3, .one (.ref 1 0 0 0 0 0)), (2, .one (.sc (.int .i64 v2))), (1, .one (.sc (.int .i64 v1)))], bx := [(0, .row 0 (.int .i64) b0), (1, .var 75 [.list true (.int .i16) b1_0, .sc (.int .i64 b1_1), .sc (.int .i64 b1_2)])], nx := 2 } = spec_SectorsOf_t7 n (fun v9 v2 v1 b0 b1_0 b1_1 b1_2 => iter (interp ([spec_l03OkF n, spec_l00InF n, spec_l03HeadF n, spec_l03WrapF n, spec_l03TurnF n]) ty 62 0 n spec_SectorsOfkp (codeAt spec_SectorsOfc [1, 1, 1, 1, 0, 1, 0, 0])) (canon 0 (spec_SectorsOfkp.loop 7)) (kAt ([spec_l03OkF n, spec_l00InF n, spec_l03HeadF n, spec_l03WrapF n, spec_l03TurnF n]) ty 62 0 n spec_SectorsOfkp spec_SectorsOfc [1, 1, 1, 1, 0, 1, 0] [] (ending ty 0 Go.Proofs.Try.f49.results.toList spec_SectorsOfrs spec_SectorsOfbs)) k { env := [(9, .one (.sc (.int .i64 v9))), (8, .one (.slice 0 0 none)), (3, .one (.ref 1 0 0 0 0 0)), (2, .one (.sc (.int .i64 v2))), (1, .one (.sc (.int .i64 v1)))], bx := [(0, .row 0 (.int .i64) b0), (1, .var 75 [.list true (.int .i16) b1_0, .sc (.int .i64 b1_1), .sc (.int .i64 b1_2)])], nx := 2 }) v9 v2 v1 b0 b1_0 b1_1 b1_2 := by kernel_rfl
    rw [h]
    have e := congrArg (fun g => spec_SectorsOf_t7 n g v9 v2 v1 b0 b1_0 b1_1 b1_2) (funext fun v9 => funext fun v2 => funext fun v1 => funext fun b0 => funext fun b1_0 => funext fun b1_1 => funext fun b1_2 => spec_SectorsOf_l7_eq n k v9 v2 v1 b0 b1_0 b1_1 b1_2)
    exact e

theorem spec_SectorsOf_eq (n : Nat) (a0 : (List (Int)) × ((Int) × (Int))) (a1 : Int) (a2 : Int) : runBody ([spec_l03OkF n, spec_l00InF n, spec_l03HeadF n, spec_l03WrapF n, spec_l03TurnF n]) ty 62 n spec_SectorsOfkp spec_SectorsOfc Go.Proofs.Try.f49.results.toList spec_SectorsOfrs spec_SectorsOfsp spec_SectorsOfbs (a0, (a1, (a2, ()))) () = spec_SectorsOf n a0 a1 a2 := by
  have h : runBody ([spec_l03OkF n, spec_l00InF n, spec_l03HeadF n, spec_l03WrapF n, spec_l03TurnF n]) ty 62 n spec_SectorsOfkp spec_SectorsOfc Go.Proofs.Try.f49.results.toList spec_SectorsOfrs spec_SectorsOfsp spec_SectorsOfbs (a0, (a1, (a2, ()))) () = spec_SectorsOf_t n (fun k v9 v2 v1 b0 b1_0 b1_1 b1_2 => iter (interp ([spec_l03OkF n, spec_l00InF n, spec_l03HeadF n, spec_l03WrapF n, spec_l03TurnF n]) ty 62 0 n spec_SectorsOfkp (codeAt spec_SectorsOfc [1, 1, 1, 1, 0, 1, 0, 0])) (canon 0 (spec_SectorsOfkp.loop 7)) (kAt ([spec_l03OkF n, spec_l00InF n, spec_l03HeadF n, spec_l03WrapF n, spec_l03TurnF n]) ty 62 0 n spec_SectorsOfkp spec_SectorsOfc [1, 1, 1, 1, 0, 1, 0] [] (ending ty 0 Go.Proofs.Try.f49.results.toList spec_SectorsOfrs spec_SectorsOfbs)) k { env := [(9, .one (.sc (.int .i64 v9))), (8, .one (.slice 0 0 none)), (3, .one (.ref 1 0 0 0 0 0)), (2, .one (.sc (.int .i64 v2))), (1, .one (.sc (.int .i64 v1)))], bx := [(0, .row 0 (.int .i64) b0), (1, .var 75 [.list true (.int .i16) b1_0, .sc (.int .i64 b1_1), .sc (.int .i64 b1_2)])], nx := 2 }) a0 a1 a2 := by kernel_rfl
  rw [h]
  have e := congrArg (fun h7 => spec_SectorsOf_t n h7 a0 a1 a2) (funext fun k => funext fun v9 => funext fun v2 => funext fun v1 => funext fun b0 => funext fun b1_0 => funext fun b1_1 => funext fun b1_2 => spec_SectorsOf_l7_eq n k v9 v2 v1 b0 b1_0 b1_1 b1_2)
  exact e

theorem spec_SectorsOf_ok (n : Nat) : FunOk P (spec_SectorsOfF n) :=
  funOk_mk (C := [spec_l03OkF n, spec_l00InF n, spec_l03HeadF n, spec_l03WrapF n, spec_l03TurnF n]) (N := 62) (kp := spec_SectorsOfkp) (c := spec_SectorsOfc) (n := n) (G := fun x y => spec_SectorsOf n x.1 x.2.1 x.2.2.1) follows (AllOk.mem (⟨spec_l03Ok_ok n, ⟨spec_l00In_ok n, ⟨spec_l03Head_ok n, ⟨spec_l03Wrap_ok n, ⟨spec_l03Turn_ok n, trivial⟩⟩⟩⟩⟩ : AllOk P ([spec_l03OkF n, spec_l00InF n, spec_l03HeadF n, spec_l03WrapF n, spec_l03TurnF n]))) (by kernel_rfl : P.funcs[49]? = some Go.Proofs.Try.f49) (by kernel_rfl) (by kernel_rfl) (by kernel_rfl)
    (fun x y => spec_SectorsOf_eq n x.1 x.2.1 x.2.2.1) (fun _ _ => map_same (fun _ => rfl) _) (fun _ _ _ _ => rfl)

abbrev impl_withinsp : List Sp := [.v false (.int .i64), .v false (.int .i64), .v false (.int .i64)]
abbrev impl_withinbs : List (Bs × Bool) := []
abbrev impl_withinrs : List (Bool × List Rp) := [(false, [.v false .bool])]
noncomputable def impl_withinkp : Keep := { loop := fun id => match id with | _ => ([], []), join := fun id => match id with | _ => none }
noncomputable def impl_withinc : Code := bodyOf Go.Proofs.Try.f110
noncomputable def impl_withinF (n : Nat) : Fun := { id := 110, sp := impl_withinsp, bs := impl_withinbs, rs := impl_withinrs, f := fun x y => impl_within n x.1 x.2.1 x.2.2.1 }

theorem impl_within_eq (n : Nat) (a0 : Int) (a1 : Int) (a2 : Int) : runBody ([]) ty 15 n impl_withinkp impl_withinc Go.Proofs.Try.f110.results.toList impl_withinrs impl_withinsp impl_withinbs (a0, (a1, (a2, ()))) () = impl_within n a0 a1 a2 := by
  have h : runBody ([]) ty 15 n impl_withinkp impl_withinc Go.Proofs.Try.f110.results.toList impl_withinrs impl_withinsp impl_withinbs (a0, (a1, (a2, ()))) () = impl_within_t n a0 a1 a2 := by kernel_rfl
  rw [h]
  rfl

theorem impl_within_ok (n : Nat) : FunOk P (impl_withinF n) :=
  funOk_mk (C := []) (N := 15) (kp := impl_withinkp) (c := impl_withinc) (n := n) (G := fun x y => impl_within n x.1 x.2.1 x.2.2.1) follows (AllOk.mem (trivial : AllOk P ([]))) (by kernel_rfl : P.funcs[110]? = some Go.Proofs.Try.f110) (by kernel_rfl) (by kernel_rfl) (by kernel_rfl)
    (fun x y => impl_within_eq n x.1 x.2.1 x.2.2.1) (fun _ _ => map_same (fun _ => rfl) _) (fun _ _ _ _ => rfl)

abbrev impl_ValidDisk_1sp : List Sp := [.v false (.int .i16)]
abbrev impl_ValidDisk_1bs : List (Bs × Bool) := []
abbrev impl_ValidDisk_1rs : List (Bool × List Rp) := [(false, [.v false .bool])]
noncomputable def impl_ValidDisk_1kp : Keep := { loop := fun id => match id with | _ => ([], []), join := fun id => match id with | _ => none }
noncomputable def impl_ValidDisk_1c : Code := bodyOf Go.Proofs.Try.f178
noncomputable def impl_ValidDisk_1F (n : Nat) : Fun := { id := 178, sp := impl_ValidDisk_1sp, bs := impl_ValidDisk_1bs, rs := impl_ValidDisk_1rs, f := fun x y => impl_ValidDisk_1 n x.1 }

theorem impl_ValidDisk_1_eq (n : Nat) (a0 : Int) : runBody ([impl_withinF n]) ty 7 n impl_ValidDisk_1kp impl_ValidDisk_1c Go.Proofs.Try.f178.results.toList impl_ValidDisk_1rs impl_ValidDisk_1sp impl_ValidDisk_1bs (a0, ()) () = impl_ValidDisk_1 n a0 := by
  have h : runBody ([impl_withinF n]) ty 7 n impl_ValidDisk_1kp impl_ValidDisk_1c Go.Proofs.Try.f178.results.toList impl_ValidDisk_1rs impl_ValidDisk_1sp impl_ValidDisk_1bs (a0, ()) () = impl_ValidDisk_1_t n a0 := by kernel_rfl
  rw [h]
  rfl

theorem impl_ValidDisk_1_ok (n : Nat) : FunOk P (impl_ValidDisk_1F n) :=
  funOk_mk (C := [impl_withinF n]) (N := 7) (kp := impl_ValidDisk_1kp) (c := impl_ValidDisk_1c) (n := n) (G := fun x y => impl_ValidDisk_1 n x.1) follows (AllOk.mem (⟨impl_within_ok n, trivial⟩ : AllOk P ([impl_withinF n]))) (by kernel_rfl : P.funcs[178]? = some Go.Proofs.Try.f178) (by kernel_rfl) (by kernel_rfl) (by kernel_rfl)
    (fun x y => impl_ValidDisk_1_eq n x.1) (fun _ _ => map_same (fun _ => rfl) _) (fun _ _ _ _ => rfl)

abbrev slices_IndexFunc_int16_int16_at_impl_ValidDisk_1sp : List Sp := [.v false (.list (.int .i16)), .cl 178 []]
abbrev slices_IndexFunc_int16_int16_at_impl_ValidDisk_1bs : List (Bs × Bool) := []
abbrev slices_IndexFunc_int16_int16_at_impl_ValidDisk_1rs : List (Bool × List Rp) := [(false, [.v false (.int .i64)])]
noncomputable def slices_IndexFunc_int16_int16_at_impl_ValidDisk_1kp : Keep := { loop := fun id => match id with | 2 => ([8, 0, 1, 7], []) | _ => ([], []), join := fun id => match id with | _ => none }
noncomputable def slices_IndexFunc_int16_int16_at_impl_ValidDisk_1c : Code := bodyOf Go.Proofs.Try.f185
noncomputable def slices_IndexFunc_int16_int16_at_impl_ValidDisk_1F (n : Nat) : Fun := { id := 185, sp := slices_IndexFunc_int16_int16_at_impl_ValidDisk_1sp, bs := slices_IndexFunc_int16_int16_at_impl_ValidDisk_1bs, rs := slices_IndexFunc_int16_int16_at_impl_ValidDisk_1rs, f := fun x y => slices_IndexFunc_int16_int16_at_impl_ValidDisk_1 n x.1 }

theorem slices_IndexFunc_int16_int16_at_impl_ValidDisk_1_l2_eq (n : Nat) : ∀ (k : Nat) (v8 : Int) (v0 : List (Int)) (v7 : Int), iter (interp ([impl_ValidDisk_1F n]) ty 19 0 n slices_IndexFunc_int16_int16_at_impl_ValidDisk_1kp (codeAt slices_IndexFunc_int16_int16_at_impl_ValidDisk_1c [1, 0, 1, 0, 0])) (canon 0 (slices_IndexFunc_int16_int16_at_impl_ValidDisk_1kp.loop 2)) (kAt ([impl_ValidDisk_1F n]) ty 19 0 n slices_IndexFunc_int16_int16_at_impl_ValidDisk_1kp slices_IndexFunc_int16_int16_at_impl_ValidDisk_1c [1, 0, 1, 0] [] (ending ty 0 Go.Proofs.Try.f185.results.toList slices_IndexFunc_int16_int16_at_impl_ValidDisk_1rs slices_IndexFunc_int16_int16_at_impl_ValidDisk_1bs)) k { env := [(8, .one (.sc (.int .i64 v8))), (0, .one (.list true (.int .i16) v0)), (1, .one (.clos 178 [])), (7, .one (.sc (.int .i64 v7)))], bx := [], nx := 0 } = slices_IndexFunc_int16_int16_at_impl_ValidDisk_1_l2 n k v8 v0 v7
  | 0, _, _, _ => by kernel_rfl
  | k + 1, v8, v0, v7 => by
    have h : iter (interp ([impl_ValidDisk_1F n]) ty 19 0 n slices_IndexFunc_int16_int16_at_impl_ValidDisk_1kp (codeAt slices_IndexFunc_int16_int16_at_impl_ValidDisk_1c [1, 0, 1, 0, 0])) (canon 0 (slices_IndexFunc_int16_int16_at_impl_ValidDisk_1kp.loop 2)) (kAt ([impl_ValidDisk_1F n]) ty 19 0 n slices_IndexFunc_int16_int16_at_impl_ValidDisk_1kp slices_IndexFunc_int16_int16_at_impl_ValidDisk_1c [1, 0, 1, 0] [] (ending ty 0 Go.Proofs.Try.f185.results.toList slices_IndexFunc_int16_int16_at_impl_ValidDisk_1rs slices_IndexFunc_int16_int16_at_impl_ValidDisk_1bs)) (k + 1) { env := [(8, .one (.sc (.int .i64 v8))), (0, .one (.list true (.int .i16) v0)), (1, .one (.clos 178 [])), (7, .one (.sc (.int .i64 v7)))], bx := [], nx := 0 } = slices_IndexFunc_int16_int16_at_impl_ValidDisk_1_t2 n (fun v8 v0 v7 => iter (interp ([impl_ValidDisk_1F n]) ty 19 0 n slices_IndexFunc_int16_int16_at_impl_ValidDisk_1kp (codeAt slices_IndexFunc_int16_int16_at_impl_ValidDisk_1c [1, 0, 1, 0, 0])) (canon 0 (slices_IndexFunc_int16_int16_at_impl_ValidDisk_1kp.loop 2)) (kAt ([impl_ValidDisk_1F n]) ty 19 0 n slices_IndexFunc_int16_int16_at_impl_ValidDisk_1kp slices_IndexFunc_int16_int16_at_impl_ValidDisk_1c [1, 0, 1, 0] [] (ending ty 0 Go.Proofs.Try.f185.results.toList slices_IndexFunc_int16_int16_at_impl_ValidDisk_1rs slices_IndexFunc_int16_int16_at_impl_ValidDisk_1bs)) k { env := [(8, .one (.sc (.int .i64 v8))), (0, .one (.list true (.int .i16) v0)), (1, .one (.clos 178 [])), (7, .one (.sc (.int .i64 v7)))], bx := [], nx := 0 }) v8 v0 v7 := by kernel_rfl
    rw [h]
    have e := congrArg (fun g => slices_IndexFunc_int16_int16_at_impl_ValidDisk_1_t2 n g v8 v0 v7) (funext fun v8 => funext fun v0 => funext fun v7 => slices_IndexFunc_int16_int16_at_impl_ValidDisk_1_l2_eq n k v8 v0 v7)
    exact e

theorem slices_IndexFunc_int16_int16_at_impl_ValidDisk_1_eq (n : Nat) (a0 : List (Int)) : runBody ([impl_ValidDisk_1F n]) ty 19 n slices_IndexFunc_int16_int16_at_impl_ValidDisk_1kp slices_IndexFunc_int16_int16_at_impl_ValidDisk_1c Go.Proofs.Try.f185.results.toList slices_IndexFunc_int16_int16_at_impl_ValidDisk_1rs slices_IndexFunc_int16_int16_at_impl_ValidDisk_1sp slices_IndexFunc_int16_int16_at_impl_ValidDisk_1bs (a0, ((), ())) () = slices_IndexFunc_int16_int16_at_impl_ValidDisk_1 n a0 := by
  have h : runBody ([impl_ValidDisk_1F n]) ty 19 n slices_IndexFunc_int16_int16_at_impl_ValidDisk_1kp slices_IndexFunc_int16_int16_at_impl_ValidDisk_1c Go.Proofs.Try.f185.results.toList slices_IndexFunc_int16_int16_at_impl_ValidDisk_1rs slices_IndexFunc_int16_int16_at_impl_ValidDisk_1sp slices_IndexFunc_int16_int16_at_impl_ValidDisk_1bs (a0, ((), ())) () = slices_IndexFunc_int16_int16_at_impl_ValidDisk_1_t n (fun k v8 v0 v7 => iter (interp ([impl_ValidDisk_1F n]) ty 19 0 n slices_IndexFunc_int16_int16_at_impl_ValidDisk_1kp (codeAt slices_IndexFunc_int16_int16_at_impl_ValidDisk_1c [1, 0, 1, 0, 0])) (canon 0 (slices_IndexFunc_int16_int16_at_impl_ValidDisk_1kp.loop 2)) (kAt ([impl_ValidDisk_1F n]) ty 19 0 n slices_IndexFunc_int16_int16_at_impl_ValidDisk_1kp slices_IndexFunc_int16_int16_at_impl_ValidDisk_1c [1, 0, 1, 0] [] (ending ty 0 Go.Proofs.Try.f185.results.toList slices_IndexFunc_int16_int16_at_impl_ValidDisk_1rs slices_IndexFunc_int16_int16_at_impl_ValidDisk_1bs)) k { env := [(8, .one (.sc (.int .i64 v8))), (0, .one (.list true (.int .i16) v0)), (1, .one (.clos 178 [])), (7, .one (.sc (.int .i64 v7)))], bx := [], nx := 0 }) a0 := by kernel_rfl
  rw [h]
  have e := congrArg (fun h2 => slices_IndexFunc_int16_int16_at_impl_ValidDisk_1_t n h2 a0) (funext fun k => funext fun v8 => funext fun v0 => funext fun v7 => slices_IndexFunc_int16_int16_at_impl_ValidDisk_1_l2_eq n k v8 v0 v7)
  exact e

theorem slices_IndexFunc_int16_int16_at_impl_ValidDisk_1_ok (n : Nat) : FunOk P (slices_IndexFunc_int16_int16_at_impl_ValidDisk_1F n) :=
  funOk_mk (C := [impl_ValidDisk_1F n]) (N := 19) (kp := slices_IndexFunc_int16_int16_at_impl_ValidDisk_1kp) (c := slices_IndexFunc_int16_int16_at_impl_ValidDisk_1c) (n := n) (G := fun x y => slices_IndexFunc_int16_int16_at_impl_ValidDisk_1 n x.1) follows (AllOk.mem (⟨impl_ValidDisk_1_ok n, trivial⟩ : AllOk P ([impl_ValidDisk_1F n]))) (by kernel_rfl : P.funcs[185]? = some Go.Proofs.Try.f185) (by kernel_rfl) (by kernel_rfl) (by kernel_rfl)
    (fun x y => slices_IndexFunc_int16_int16_at_impl_ValidDisk_1_eq n x.1) (fun _ _ => map_same (fun _ => rfl) _) (fun _ _ _ _ => rfl)

abbrev slices_ContainsFunc_int16_int16_at_impl_ValidDisk_1sp : List Sp := [.v false (.list (.int .i16)), .cl 178 []]
abbrev slices_ContainsFunc_int16_int16_at_impl_ValidDisk_1bs : List (Bs × Bool) := []
abbrev slices_ContainsFunc_int16_int16_at_impl_ValidDisk_1rs : List (Bool × List Rp) := [(false, [.v false .bool])]
noncomputable def slices_ContainsFunc_int16_int16_at_impl_ValidDisk_1kp : Keep := { loop := fun id => match id with | _ => ([], []), join := fun id => match id with | _ => none }
noncomputable def slices_ContainsFunc_int16_int16_at_impl_ValidDisk_1c : Code := bodyOf Go.Proofs.Try.f177
noncomputable def slices_ContainsFunc_int16_int16_at_impl_ValidDisk_1F (n : Nat) : Fun := { id := 177, sp := slices_ContainsFunc_int16_int16_at_impl_ValidDisk_1sp, bs := slices_ContainsFunc_int16_int16_at_impl_ValidDisk_1bs, rs := slices_ContainsFunc_int16_int16_at_impl_ValidDisk_1rs, f := fun x y => slices_ContainsFunc_int16_int16_at_impl_ValidDisk_1 n x.1 }

theorem slices_ContainsFunc_int16_int16_at_impl_ValidDisk_1_eq (n : Nat) (a0 : List (Int)) : runBody ([slices_IndexFunc_int16_int16_at_impl_ValidDisk_1F n]) ty 9 n slices_ContainsFunc_int16_int16_at_impl_ValidDisk_1kp slices_ContainsFunc_int16_int16_at_impl_ValidDisk_1c Go.Proofs.Try.f177.results.toList slices_ContainsFunc_int16_int16_at_impl_ValidDisk_1rs slices_ContainsFunc_int16_int16_at_impl_ValidDisk_1sp slices_ContainsFunc_int16_int16_at_impl_ValidDisk_1bs (a0, ((), ())) () = slices_ContainsFunc_int16_int16_at_impl_ValidDisk_1 n a0 := by
  have h : runBody ([slices_IndexFunc_int16_int16_at_impl_ValidDisk_1F n]) ty 9 n slices_ContainsFunc_int16_int16_at_impl_ValidDisk_1kp slices_ContainsFunc_int16_int16_at_impl_ValidDisk_1c Go.Proofs.Try.f177.results.toList slices_ContainsFunc_int16_int16_at_impl_ValidDisk_1rs slices_ContainsFunc_int16_int16_at_impl_ValidDisk_1sp slices_ContainsFunc_int16_int16_at_impl_ValidDisk_1bs (a0, ((), ())) () = slices_ContainsFunc_int16_int16_at_impl_ValidDisk_1_t n a0 := by kernel_rfl
  rw [h]
  rfl

theorem slices_ContainsFunc_int16_int16_at_impl_ValidDisk_1_ok (n : Nat) : FunOk P (slices_ContainsFunc_int16_int16_at_impl_ValidDisk_1F n) :=
  funOk_mk (C := [slices_IndexFunc_int16_int16_at_impl_ValidDisk_1F n]) (N := 9) (kp := slices_ContainsFunc_int16_int16_at_impl_ValidDisk_1kp) (c := slices_ContainsFunc_int16_int16_at_impl_ValidDisk_1c) (n := n) (G := fun x y => slices_ContainsFunc_int16_int16_at_impl_ValidDisk_1 n x.1) follows (AllOk.mem (⟨slices_IndexFunc_int16_int16_at_impl_ValidDisk_1_ok n, trivial⟩ : AllOk P ([slices_IndexFunc_int16_int16_at_impl_ValidDisk_1F n]))) (by kernel_rfl : P.funcs[177]? = some Go.Proofs.Try.f177) (by kernel_rfl) (by kernel_rfl) (by kernel_rfl)
    (fun x y => slices_ContainsFunc_int16_int16_at_impl_ValidDisk_1_eq n x.1) (fun _ _ => map_same (fun _ => rfl) _) (fun _ _ _ _ => rfl)

abbrev impl_ValidDisksp : List Sp := [.v true (.pair (.list (.int .i16)) (.pair (.int .i64) (.int .i64)))]
abbrev impl_ValidDiskbs : List (Bs × Bool) := []
abbrev impl_ValidDiskrs : List (Bool × List Rp) := [(false, [.v false .bool])]
noncomputable def impl_ValidDiskkp : Keep := { loop := fun id => match id with | _ => ([], []), join := fun id => match id with | _ => none }
noncomputable def impl_ValidDiskc : Code := bodyOf Go.Proofs.Try.f152
noncomputable def impl_ValidDiskF (n : Nat) : Fun := { id := 152, sp := impl_ValidDisksp, bs := impl_ValidDiskbs, rs := impl_ValidDiskrs, f := fun x y => impl_ValidDisk n x.1 }

theorem impl_ValidDisk_eq (n : Nat) (a0 : (List (Int)) × ((Int) × (Int))) : runBody ([impl_withinF n, slices_ContainsFunc_int16_int16_at_impl_ValidDisk_1F n]) ty 30 n impl_ValidDiskkp impl_ValidDiskc Go.Proofs.Try.f152.results.toList impl_ValidDiskrs impl_ValidDisksp impl_ValidDiskbs (a0, ()) () = impl_ValidDisk n a0 := by
  have h : runBody ([impl_withinF n, slices_ContainsFunc_int16_int16_at_impl_ValidDisk_1F n]) ty 30 n impl_ValidDiskkp impl_ValidDiskc Go.Proofs.Try.f152.results.toList impl_ValidDiskrs impl_ValidDisksp impl_ValidDiskbs (a0, ()) () = impl_ValidDisk_t n a0 := by kernel_rfl
  rw [h]
  rfl

theorem impl_ValidDisk_ok (n : Nat) : FunOk P (impl_ValidDiskF n) :=
  funOk_mk (C := [impl_withinF n, slices_ContainsFunc_int16_int16_at_impl_ValidDisk_1F n]) (N := 30) (kp := impl_ValidDiskkp) (c := impl_ValidDiskc) (n := n) (G := fun x y => impl_ValidDisk n x.1) follows (AllOk.mem (⟨impl_within_ok n, ⟨slices_ContainsFunc_int16_int16_at_impl_ValidDisk_1_ok n, trivial⟩⟩ : AllOk P ([impl_withinF n, slices_ContainsFunc_int16_int16_at_impl_ValidDisk_1F n]))) (by kernel_rfl : P.funcs[152]? = some Go.Proofs.Try.f152) (by kernel_rfl) (by kernel_rfl) (by kernel_rfl)
    (fun x y => impl_ValidDisk_eq n x.1) (fun _ _ => map_same (fun _ => rfl) _) (fun _ _ _ _ => rfl)

abbrev impl_isAnglesp : List Sp := [.v false (.int .i64)]
abbrev impl_isAnglebs : List (Bs × Bool) := []
abbrev impl_isAnglers : List (Bool × List Rp) := [(false, [.v false .bool])]
noncomputable def impl_isAnglekp : Keep := { loop := fun id => match id with | _ => ([], []), join := fun id => match id with | _ => none }
noncomputable def impl_isAnglec : Code := bodyOf Go.Proofs.Try.f154
noncomputable def impl_isAngleF (n : Nat) : Fun := { id := 154, sp := impl_isAnglesp, bs := impl_isAnglebs, rs := impl_isAnglers, f := fun x y => impl_isAngle n x.1 }

theorem impl_isAngle_eq (n : Nat) (a0 : Int) : runBody ([impl_withinF n]) ty 5 n impl_isAnglekp impl_isAnglec Go.Proofs.Try.f154.results.toList impl_isAnglers impl_isAnglesp impl_isAnglebs (a0, ()) () = impl_isAngle n a0 := by
  have h : runBody ([impl_withinF n]) ty 5 n impl_isAnglekp impl_isAnglec Go.Proofs.Try.f154.results.toList impl_isAnglers impl_isAnglesp impl_isAnglebs (a0, ()) () = impl_isAngle_t n a0 := by kernel_rfl
  rw [h]
  rfl

theorem impl_isAngle_ok (n : Nat) : FunOk P (impl_isAngleF n) :=
  funOk_mk (C := [impl_withinF n]) (N := 5) (kp := impl_isAnglekp) (c := impl_isAnglec) (n := n) (G := fun x y => impl_isAngle n x.1) follows (AllOk.mem (⟨impl_within_ok n, trivial⟩ : AllOk P ([impl_withinF n]))) (by kernel_rfl : P.funcs[154]? = some Go.Proofs.Try.f154) (by kernel_rfl) (by kernel_rfl) (by kernel_rfl)
    (fun x y => impl_isAngle_eq n x.1) (fun _ _ => map_same (fun _ => rfl) _) (fun _ _ _ _ => rfl)

abbrev impl_headCode_1sp : List Sp := [.v false (.int .i64)]
abbrev impl_headCode_1bs : List (Bs × Bool) := []
abbrev impl_headCode_1rs : List (Bool × List Rp) := [(false, [.v false .bool])]
noncomputable def impl_headCode_1kp : Keep := { loop := fun id => match id with | _ => ([], []), join := fun id => match id with | _ => none }
noncomputable def impl_headCode_1c : Code := bodyOf Go.Proofs.Try.f153
noncomputable def impl_headCode_1F (n : Nat) : Fun := { id := 153, sp := impl_headCode_1sp, bs := impl_headCode_1bs, rs := impl_headCode_1rs, f := fun x y => impl_headCode_1 n x.1 }

theorem impl_headCode_1_eq (n : Nat) (a0 : Int) : runBody ([impl_isAngleF n]) ty 6 n impl_headCode_1kp impl_headCode_1c Go.Proofs.Try.f153.results.toList impl_headCode_1rs impl_headCode_1sp impl_headCode_1bs (a0, ()) () = impl_headCode_1 n a0 := by
  have h : runBody ([impl_isAngleF n]) ty 6 n impl_headCode_1kp impl_headCode_1c Go.Proofs.Try.f153.results.toList impl_headCode_1rs impl_headCode_1sp impl_headCode_1bs (a0, ()) () = impl_headCode_1_t n a0 := by kernel_rfl
  rw [h]
  rfl

theorem impl_headCode_1_ok (n : Nat) : FunOk P (impl_headCode_1F n) :=
  funOk_mk (C := [impl_isAngleF n]) (N := 6) (kp := impl_headCode_1kp) (c := impl_headCode_1c) (n := n) (G := fun x y => impl_headCode_1 n x.1) follows (AllOk.mem (⟨impl_isAngle_ok n, trivial⟩ : AllOk P ([impl_isAngleF n]))) (by kernel_rfl : P.funcs[153]? = some Go.Proofs.Try.f153) (by kernel_rfl) (by kernel_rfl) (by kernel_rfl)
    (fun x y => impl_headCode_1_eq n x.1) (fun _ _ => map_same (fun _ => rfl) _) (fun _ _ _ _ => rfl)

abbrev slices_IndexFunc_int64_int64_at_impl_headCode_1sp : List Sp := [.v false (.list (.int .i64)), .cl 153 []]
abbrev slices_IndexFunc_int64_int64_at_impl_headCode_1bs : List (Bs × Bool) := []
abbrev slices_IndexFunc_int64_int64_at_impl_headCode_1rs : List (Bool × List Rp) := [(false, [.v false (.int .i64)])]
noncomputable def slices_IndexFunc_int64_int64_at_impl_headCode_1kp : Keep := { loop := fun id => match id with | 2 => ([8, 0, 1, 7], []) | _ => ([], []), join := fun id => match id with | _ => none }
noncomputable def slices_IndexFunc_int64_int64_at_impl_headCode_1c : Code := bodyOf Go.Proofs.Try.f172
noncomputable def slices_IndexFunc_int64_int64_at_impl_headCode_1F (n : Nat) : Fun := { id := 172, sp := slices_IndexFunc_int64_int64_at_impl_headCode_1sp, bs := slices_IndexFunc_int64_int64_at_impl_headCode_1bs, rs := slices_IndexFunc_int64_int64_at_impl_headCode_1rs, f := fun x y => slices_IndexFunc_int64_int64_at_impl_headCode_1 n x.1 }

theorem slices_IndexFunc_int64_int64_at_impl_headCode_1_l2_eq (n : Nat) : ∀ (k : Nat) (v8 : Int) (v0 : List (Int)) (v7 : Int), iter (interp ([impl_headCode_1F n]) ty 19 0 n slices_IndexFunc_int64_int64_at_impl_headCode_1kp (codeAt slices_IndexFunc_int64_int64_at_impl_headCode_1c [1, 0, 1, 0, 0])) (canon 0 (slices_IndexFunc_int64_int64_at_impl_headCode_1kp.loop 2)) (kAt ([impl_headCode_1F n]) ty 19 0 n slices_IndexFunc_int64_int64_at_impl_headCode_1kp slices_IndexFunc_int64_int64_at_impl_headCode_1c [1, 0, 1, 0] [] (ending ty 0 Go.Proofs.Try.f172.results.toList slices_IndexFunc_int64_int64_at_impl_headCode_1rs slices_IndexFunc_int64_int64_at_impl_headCode_1bs)) k { env := [(8, .one (.sc (.int .i64 v8))), (0, .one (.list true (.int .i64) v0)), (1, .one (.clos 153 [])), (7, .one (.sc (.int .i64 v7)))], bx := [], nx := 0 } = slices_IndexFunc_int64_int64_at_impl_headCode_1_l2 n k v8 v0 v7
  | 0, _, _, _ => by kernel_rfl
  | k + 1, v8, v0, v7 => by
    have h : iter (interp ([impl_headCode_1F n]) ty 19 0 n slices_IndexFunc_int64_int64_at_impl_headCode_1kp (codeAt slices_IndexFunc_int64_int64_at_impl_headCode_1c [1, 0, 1, 0, 0])) (canon 0 (slices_IndexFunc_int64_int64_at_impl_headCode_1kp.loop 2)) (kAt ([impl_headCode_1F n]) ty 19 0 n slices_IndexFunc_int64_int64_at_impl_headCode_1kp slices_IndexFunc_int64_int64_at_impl_headCode_1c [1, 0, 1, 0] [] (ending ty 0 Go.Proofs.Try.f172.results.toList slices_IndexFunc_int64_int64_at_impl_headCode_1rs slices_IndexFunc_int64_int64_at_impl_headCode_1bs)) (k + 1) { env := [(8, .one (.sc (.int .i64 v8))), (0, .one (.list true (.int .i64) v0)), (1, .one (.clos 153 [])), (7, .one (.sc (.int .i64 v7)))], bx := [], nx := 0 } = slices_IndexFunc_int64_int64_at_impl_headCode_1_t2 n (fun v8 v0 v7 => iter (interp ([impl_headCode_1F n]) ty 19 0 n slices_IndexFunc_int64_int64_at_impl_headCode_1kp (codeAt slices_IndexFunc_int64_int64_at_impl_headCode_1c [1, 0, 1, 0, 0])) (canon 0 (slices_IndexFunc_int64_int64_at_impl_headCode_1kp.loop 2)) (kAt ([impl_headCode_1F n]) ty 19 0 n slices_IndexFunc_int64_int64_at_impl_headCode_1kp slices_IndexFunc_int64_int64_at_impl_headCode_1c [1, 0, 1, 0] [] (ending ty 0 Go.Proofs.Try.f172.results.toList slices_IndexFunc_int64_int64_at_impl_headCode_1rs slices_IndexFunc_int64_int64_at_impl_headCode_1bs)) k { env := [(8, .one (.sc (.int .i64 v8))), (0, .one (.list true (.int .i64) v0)), (1, .one (.clos 153 [])), (7, .one (.sc (.int .i64 v7)))], bx := [], nx := 0 }) v8 v0 v7 := by kernel_rfl
    rw [h]
    have e := congrArg (fun g => slices_IndexFunc_int64_int64_at_impl_headCode_1_t2 n g v8 v0 v7) (funext fun v8 => funext fun v0 => funext fun v7 => slices_IndexFunc_int64_int64_at_impl_headCode_1_l2_eq n k v8 v0 v7)
    exact e

theorem slices_IndexFunc_int64_int64_at_impl_headCode_1_eq (n : Nat) (a0 : List (Int)) : runBody ([impl_headCode_1F n]) ty 19 n slices_IndexFunc_int64_int64_at_impl_headCode_1kp slices_IndexFunc_int64_int64_at_impl_headCode_1c Go.Proofs.Try.f172.results.toList slices_IndexFunc_int64_int64_at_impl_headCode_1rs slices_IndexFunc_int64_int64_at_impl_headCode_1sp slices_IndexFunc_int64_int64_at_impl_headCode_1bs (a0, ((), ())) () = slices_IndexFunc_int64_int64_at_impl_headCode_1 n a0 := by
  have h : runBody ([impl_headCode_1F n]) ty 19 n slices_IndexFunc_int64_int64_at_impl_headCode_1kp slices_IndexFunc_int64_int64_at_impl_headCode_1c Go.Proofs.Try.f172.results.toList slices_IndexFunc_int64_int64_at_impl_headCode_1rs slices_IndexFunc_int64_int64_at_impl_headCode_1sp slices_IndexFunc_int64_int64_at_impl_headCode_1bs (a0, ((), ())) () = slices_IndexFunc_int64_int64_at_impl_headCode_1_t n (fun k v8 v0 v7 => iter (interp ([impl_headCode_1F n]) ty 19 0 n slices_IndexFunc_int64_int64_at_impl_headCode_1kp (codeAt slices_IndexFunc_int64_int64_at_impl_headCode_1c [1, 0, 1, 0, 0])) (canon 0 (slices_IndexFunc_int64_int64_at_impl_headCode_1kp.loop 2)) (kAt ([impl_headCode_1F n]) ty 19 0 n slices_IndexFunc_int64_int64_at_impl_headCode_1kp slices_IndexFunc_int64_int64_at_impl_headCode_1c [1, 0, 1, 0] [] (ending ty 0 Go.Proofs.Try.f172.results.toList slices_IndexFunc_int64_int64_at_impl_headCode_1rs slices_IndexFunc_int64_int64_at_impl_headCode_1bs)) k { env := [(8, .one (.sc (.int .i64 v8))), (0, .one (.list true (.int .i64) v0)), (1, .one (.clos 153 [])), (7, .one (.sc (.int .i64 v7)))], bx := [], nx := 0 }) a0 := by kernel_rfl
  rw [h]
  have e := congrArg (fun h2 => slices_IndexFunc_int64_int64_at_impl_headCode_1_t n h2 a0) (funext fun k => funext fun v8 => funext fun v0 => funext fun v7 => slices_IndexFunc_int64_int64_at_impl_headCode_1_l2_eq n k v8 v0 v7)
  exact e

theorem slices_IndexFunc_int64_int64_at_impl_headCode_1_ok (n : Nat) : FunOk P (slices_IndexFunc_int64_int64_at_impl_headCode_1F n) :=
  funOk_mk (C := [impl_headCode_1F n]) (N := 19) (kp := slices_IndexFunc_int64_int64_at_impl_headCode_1kp) (c := slices_IndexFunc_int64_int64_at_impl_headCode_1c) (n := n) (G := fun x y => slices_IndexFunc_int64_int64_at_impl_headCode_1 n x.1) follows (AllOk.mem (⟨impl_headCode_1_ok n, trivial⟩ : AllOk P ([impl_headCode_1F n]))) (by kernel_rfl : P.funcs[172]? = some Go.Proofs.Try.f172) (by kernel_rfl) (by kernel_rfl) (by kernel_rfl)
    (fun x y => slices_IndexFunc_int64_int64_at_impl_headCode_1_eq n x.1) (fun _ _ => map_same (fun _ => rfl) _) (fun _ _ _ _ => rfl)

abbrev slices_ContainsFunc_int64_int64_at_impl_headCode_1sp : List Sp := [.v false (.list (.int .i64)), .cl 153 []]
abbrev slices_ContainsFunc_int64_int64_at_impl_headCode_1bs : List (Bs × Bool) := []
abbrev slices_ContainsFunc_int64_int64_at_impl_headCode_1rs : List (Bool × List Rp) := [(false, [.v false .bool])]
noncomputable def slices_ContainsFunc_int64_int64_at_impl_headCode_1kp : Keep := { loop := fun id => match id with | _ => ([], []), join := fun id => match id with | _ => none }
noncomputable def slices_ContainsFunc_int64_int64_at_impl_headCode_1c : Code := bodyOf Go.Proofs.Try.f134
noncomputable def slices_ContainsFunc_int64_int64_at_impl_headCode_1F (n : Nat) : Fun := { id := 134, sp := slices_ContainsFunc_int64_int64_at_impl_headCode_1sp, bs := slices_ContainsFunc_int64_int64_at_impl_headCode_1bs, rs := slices_ContainsFunc_int64_int64_at_impl_headCode_1rs, f := fun x y => slices_ContainsFunc_int64_int64_at_impl_headCode_1 n x.1 }

theorem slices_ContainsFunc_int64_int64_at_impl_headCode_1_eq (n : Nat) (a0 : List (Int)) : runBody ([slices_IndexFunc_int64_int64_at_impl_headCode_1F n]) ty 9 n slices_ContainsFunc_int64_int64_at_impl_headCode_1kp slices_ContainsFunc_int64_int64_at_impl_headCode_1c Go.Proofs.Try.f134.results.toList slices_ContainsFunc_int64_int64_at_impl_headCode_1rs slices_ContainsFunc_int64_int64_at_impl_headCode_1sp slices_ContainsFunc_int64_int64_at_impl_headCode_1bs (a0, ((), ())) () = slices_ContainsFunc_int64_int64_at_impl_headCode_1 n a0 := by
  have h : runBody ([slices_IndexFunc_int64_int64_at_impl_headCode_1F n]) ty 9 n slices_ContainsFunc_int64_int64_at_impl_headCode_1kp slices_ContainsFunc_int64_int64_at_impl_headCode_1c Go.Proofs.Try.f134.results.toList slices_ContainsFunc_int64_int64_at_impl_headCode_1rs slices_ContainsFunc_int64_int64_at_impl_headCode_1sp slices_ContainsFunc_int64_int64_at_impl_headCode_1bs (a0, ((), ())) () = slices_ContainsFunc_int64_int64_at_impl_headCode_1_t n a0 := by kernel_rfl
  rw [h]
  rfl

theorem slices_ContainsFunc_int64_int64_at_impl_headCode_1_ok (n : Nat) : FunOk P (slices_ContainsFunc_int64_int64_at_impl_headCode_1F n) :=
  funOk_mk (C := [slices_IndexFunc_int64_int64_at_impl_headCode_1F n]) (N := 9) (kp := slices_ContainsFunc_int64_int64_at_impl_headCode_1kp) (c := slices_ContainsFunc_int64_int64_at_impl_headCode_1c) (n := n) (G := fun x y => slices_ContainsFunc_int64_int64_at_impl_headCode_1 n x.1) follows (AllOk.mem (⟨slices_IndexFunc_int64_int64_at_impl_headCode_1_ok n, trivial⟩ : AllOk P ([slices_IndexFunc_int64_int64_at_impl_headCode_1F n]))) (by kernel_rfl : P.funcs[134]? = some Go.Proofs.Try.f134) (by kernel_rfl) (by kernel_rfl) (by kernel_rfl)
    (fun x y => slices_ContainsFunc_int64_int64_at_impl_headCode_1_eq n x.1) (fun _ _ => map_same (fun _ => rfl) _) (fun _ _ _ _ => rfl)

abbrev impl_headCodesp : List Sp := [.v true (.pair (.list (.int .i16)) (.pair (.int .i64) (.int .i64))), .v false (.int .i64), .v false (.list (.int .i64))]
abbrev impl_headCodebs : List (Bs × Bool) := []
abbrev impl_headCoders : List (Bool × List Rp) := [(false, [.v false (.int .i64)])]
noncomputable def impl_headCodekp : Keep := { loop := fun id => match id with | _ => ([], []), join := fun id => match id with | _ => none }
noncomputable def impl_headCodec : Code := bodyOf Go.Proofs.Try.f109
noncomputable def impl_headCodeF (n : Nat) : Fun := { id := 109, sp := impl_headCodesp, bs := impl_headCodebs, rs := impl_headCoders, f := fun x y => impl_headCode n x.1 x.2.1 x.2.2.1 }

theorem impl_headCode_eq (n : Nat) (a0 : (List (Int)) × ((Int) × (Int))) (a1 : Int) (a2 : List (Int)) : runBody ([impl_ValidDiskF n, slices_ContainsFunc_int64_int64_at_impl_headCode_1F n, impl_withinF n]) ty 19 n impl_headCodekp impl_headCodec Go.Proofs.Try.f109.results.toList impl_headCoders impl_headCodesp impl_headCodebs (a0, (a1, (a2, ()))) () = impl_headCode n a0 a1 a2 := by
  have h : runBody ([impl_ValidDiskF n, slices_ContainsFunc_int64_int64_at_impl_headCode_1F n, impl_withinF n]) ty 19 n impl_headCodekp impl_headCodec Go.Proofs.Try.f109.results.toList impl_headCoders impl_headCodesp impl_headCodebs (a0, (a1, (a2, ()))) () = impl_headCode_t n a0 a1 a2 := by kernel_rfl
  rw [h]
  rfl

theorem impl_headCode_ok (n : Nat) : FunOk P (impl_headCodeF n) :=
  funOk_mk (C := [impl_ValidDiskF n, slices_ContainsFunc_int64_int64_at_impl_headCode_1F n, impl_withinF n]) (N := 19) (kp := impl_headCodekp) (c := impl_headCodec) (n := n) (G := fun x y => impl_headCode n x.1 x.2.1 x.2.2.1) follows (AllOk.mem (⟨impl_ValidDisk_ok n, ⟨slices_ContainsFunc_int64_int64_at_impl_headCode_1_ok n, ⟨impl_within_ok n, trivial⟩⟩⟩ : AllOk P ([impl_ValidDiskF n, slices_ContainsFunc_int64_int64_at_impl_headCode_1F n, impl_withinF n]))) (by kernel_rfl : P.funcs[109]? = some Go.Proofs.Try.f109) (by kernel_rfl) (by kernel_rfl) (by kernel_rfl)
    (fun x y => impl_headCode_eq n x.1 x.2.1 x.2.2.1) (fun _ _ => map_same (fun _ => rfl) _) (fun _ _ _ _ => rfl)

abbrev impl_faultAtsp : List Sp := [.v true (.pair (.list (.int .i16)) (.pair (.int .i64) (.int .i64))), .v false (.int .i64)]
abbrev impl_faultAtbs : List (Bs × Bool) := []
abbrev impl_faultAtrs : List (Bool × List Rp) := [(false, [.v false (.int .i64)]), (false, [.v false (.int .i64)])]
noncomputable def impl_faultAtkp : Keep := { loop := fun id => match id with | _ => ([], []), join := fun id => match id with | _ => none }
noncomputable def impl_faultAtc : Code := bodyOf Go.Proofs.Try.f155
noncomputable def impl_faultAtF (n : Nat) : Fun := { id := 155, sp := impl_faultAtsp, bs := impl_faultAtbs, rs := impl_faultAtrs, f := fun x y => impl_faultAt n x.1 x.2.1 }

theorem impl_faultAt_eq (n : Nat) (a0 : (List (Int)) × ((Int) × (Int))) (a1 : Int) : runBody ([]) ty 46 n impl_faultAtkp impl_faultAtc Go.Proofs.Try.f155.results.toList impl_faultAtrs impl_faultAtsp impl_faultAtbs (a0, (a1, ())) () = impl_faultAt n a0 a1 := by
  have h : runBody ([]) ty 46 n impl_faultAtkp impl_faultAtc Go.Proofs.Try.f155.results.toList impl_faultAtrs impl_faultAtsp impl_faultAtbs (a0, (a1, ())) () = impl_faultAt_t n a0 a1 := by kernel_rfl
  rw [h]
  rfl

theorem impl_faultAt_ok (n : Nat) : FunOk P (impl_faultAtF n) :=
  funOk_mk (C := []) (N := 46) (kp := impl_faultAtkp) (c := impl_faultAtc) (n := n) (G := fun x y => impl_faultAt n x.1 x.2.1) follows (AllOk.mem (trivial : AllOk P ([]))) (by kernel_rfl : P.funcs[155]? = some Go.Proofs.Try.f155) (by kernel_rfl) (by kernel_rfl) (by kernel_rfl)
    (fun x y => impl_faultAt_eq n x.1 x.2.1) (fun _ _ => map_same (fun _ => rfl) _) (fun _ _ _ _ => rfl)

abbrev impl_swingsp : List Sp := [.v false (.int .i64)]
abbrev impl_swingbs : List (Bs × Bool) := []
abbrev impl_swingrs : List (Bool × List Rp) := [(false, [.v false (.int .i64)])]
noncomputable def impl_swingkp : Keep := { loop := fun id => match id with | _ => ([], []), join := fun id => match id with | _ => none }
noncomputable def impl_swingc : Code := bodyOf Go.Proofs.Try.f179
noncomputable def impl_swingF (n : Nat) : Fun := { id := 179, sp := impl_swingsp, bs := impl_swingbs, rs := impl_swingrs, f := fun x y => impl_swing n x.1 }

theorem impl_swing_eq (n : Nat) (a0 : Int) : runBody ([]) ty 14 n impl_swingkp impl_swingc Go.Proofs.Try.f179.results.toList impl_swingrs impl_swingsp impl_swingbs (a0, ()) () = impl_swing n a0 := by
  have h : runBody ([]) ty 14 n impl_swingkp impl_swingc Go.Proofs.Try.f179.results.toList impl_swingrs impl_swingsp impl_swingbs (a0, ()) () = impl_swing_t n a0 := by kernel_rfl
  rw [h]
  rfl

theorem impl_swing_ok (n : Nat) : FunOk P (impl_swingF n) :=
  funOk_mk (C := []) (N := 14) (kp := impl_swingkp) (c := impl_swingc) (n := n) (G := fun x y => impl_swing n x.1) follows (AllOk.mem (trivial : AllOk P ([]))) (by kernel_rfl : P.funcs[179]? = some Go.Proofs.Try.f179) (by kernel_rfl) (by kernel_rfl) (by kernel_rfl)
    (fun x y => impl_swing_eq n x.1) (fun _ _ => map_same (fun _ => rfl) _) (fun _ _ _ _ => rfl)

abbrev impl_wrapsp : List Sp := [.v false (.int .i64)]
abbrev impl_wrapbs : List (Bs × Bool) := []
abbrev impl_wraprs : List (Bool × List Rp) := [(false, [.v false (.int .i64)])]
noncomputable def impl_wrapkp : Keep := { loop := fun id => match id with | _ => ([], []), join := fun id => match id with | _ => none }
noncomputable def impl_wrapc : Code := bodyOf Go.Proofs.Try.f113
noncomputable def impl_wrapF (n : Nat) : Fun := { id := 113, sp := impl_wrapsp, bs := impl_wrapbs, rs := impl_wraprs, f := fun x y => impl_wrap n x.1 }

theorem impl_wrap_eq (n : Nat) (a0 : Int) : runBody ([]) ty 7 n impl_wrapkp impl_wrapc Go.Proofs.Try.f113.results.toList impl_wraprs impl_wrapsp impl_wrapbs (a0, ()) () = impl_wrap n a0 := by
  have h : runBody ([]) ty 7 n impl_wrapkp impl_wrapc Go.Proofs.Try.f113.results.toList impl_wraprs impl_wrapsp impl_wrapbs (a0, ()) () = impl_wrap_t n a0 := by kernel_rfl
  rw [h]
  rfl

theorem impl_wrap_ok (n : Nat) : FunOk P (impl_wrapF n) :=
  funOk_mk (C := []) (N := 7) (kp := impl_wrapkp) (c := impl_wrapc) (n := n) (G := fun x y => impl_wrap n x.1) follows (AllOk.mem (trivial : AllOk P ([]))) (by kernel_rfl : P.funcs[113]? = some Go.Proofs.Try.f113) (by kernel_rfl) (by kernel_rfl) (by kernel_rfl)
    (fun x y => impl_wrap_eq n x.1) (fun _ _ => map_same (fun _ => rfl) _) (fun _ _ _ _ => rfl)

abbrev impl_swingAtsp : List Sp := [.v true (.pair (.list (.int .i16)) (.pair (.int .i64) (.int .i64))), .v false (.int .i64)]
abbrev impl_swingAtbs : List (Bs × Bool) := []
abbrev impl_swingAtrs : List (Bool × List Rp) := [(false, [.v false (.int .i64)]), (false, [.v false (.int .i64)])]
noncomputable def impl_swingAtkp : Keep := { loop := fun id => match id with | _ => ([], []), join := fun id => match id with | _ => none }
noncomputable def impl_swingAtc : Code := bodyOf Go.Proofs.Try.f156
noncomputable def impl_swingAtF (n : Nat) : Fun := { id := 156, sp := impl_swingAtsp, bs := impl_swingAtbs, rs := impl_swingAtrs, f := fun x y => impl_swingAt n x.1 x.2.1 }

theorem impl_swingAt_eq (n : Nat) (a0 : (List (Int)) × ((Int) × (Int))) (a1 : Int) : runBody ([impl_swingF n, impl_wrapF n]) ty 19 n impl_swingAtkp impl_swingAtc Go.Proofs.Try.f156.results.toList impl_swingAtrs impl_swingAtsp impl_swingAtbs (a0, (a1, ())) () = impl_swingAt n a0 a1 := by
  have h : runBody ([impl_swingF n, impl_wrapF n]) ty 19 n impl_swingAtkp impl_swingAtc Go.Proofs.Try.f156.results.toList impl_swingAtrs impl_swingAtsp impl_swingAtbs (a0, (a1, ())) () = impl_swingAt_t n a0 a1 := by kernel_rfl
  rw [h]
  rfl

theorem impl_swingAt_ok (n : Nat) : FunOk P (impl_swingAtF n) :=
  funOk_mk (C := [impl_swingF n, impl_wrapF n]) (N := 19) (kp := impl_swingAtkp) (c := impl_swingAtc) (n := n) (G := fun x y => impl_swingAt n x.1 x.2.1) follows (AllOk.mem (⟨impl_swing_ok n, ⟨impl_wrap_ok n, trivial⟩⟩ : AllOk P ([impl_swingF n, impl_wrapF n]))) (by kernel_rfl : P.funcs[156]? = some Go.Proofs.Try.f156) (by kernel_rfl) (by kernel_rfl) (by kernel_rfl)
    (fun x y => impl_swingAt_eq n x.1 x.2.1) (fun _ _ => map_same (fun _ => rfl) _) (fun _ _ _ _ => rfl)

abbrev impl_floorDivsp : List Sp := [.v false (.int .i64), .v false (.int .i64)]
abbrev impl_floorDivbs : List (Bs × Bool) := []
abbrev impl_floorDivrs : List (Bool × List Rp) := [(false, [.v false (.int .i64)])]
noncomputable def impl_floorDivkp : Keep := { loop := fun id => match id with | _ => ([], []), join := fun id => match id with | _ => none }
noncomputable def impl_floorDivc : Code := bodyOf Go.Proofs.Try.f180
noncomputable def impl_floorDivF (n : Nat) : Fun := { id := 180, sp := impl_floorDivsp, bs := impl_floorDivbs, rs := impl_floorDivrs, f := fun x y => impl_floorDiv n x.1 x.2.1 }

theorem impl_floorDiv_eq (n : Nat) (a0 : Int) (a1 : Int) : runBody ([]) ty 23 n impl_floorDivkp impl_floorDivc Go.Proofs.Try.f180.results.toList impl_floorDivrs impl_floorDivsp impl_floorDivbs (a0, (a1, ())) () = impl_floorDiv n a0 a1 := by
  have h : runBody ([]) ty 23 n impl_floorDivkp impl_floorDivc Go.Proofs.Try.f180.results.toList impl_floorDivrs impl_floorDivsp impl_floorDivbs (a0, (a1, ())) () = impl_floorDiv_t n a0 a1 := by kernel_rfl
  rw [h]
  rfl

theorem impl_floorDiv_ok (n : Nat) : FunOk P (impl_floorDivF n) :=
  funOk_mk (C := []) (N := 23) (kp := impl_floorDivkp) (c := impl_floorDivc) (n := n) (G := fun x y => impl_floorDiv n x.1 x.2.1) follows (AllOk.mem (trivial : AllOk P ([]))) (by kernel_rfl : P.funcs[180]? = some Go.Proofs.Try.f180) (by kernel_rfl) (by kernel_rfl) (by kernel_rfl)
    (fun x y => impl_floorDiv_eq n x.1 x.2.1) (fun _ _ => map_same (fun _ => rfl) _) (fun _ _ _ _ => rfl)

abbrev impl_nearestsp : List Sp := [.v false (.int .i64), .v false (.int .i64)]
abbrev impl_nearestbs : List (Bs × Bool) := []
abbrev impl_nearestrs : List (Bool × List Rp) := [(false, [.v false (.int .i64)]), (false, [.v false .bool])]
noncomputable def impl_nearestkp : Keep := { loop := fun id => match id with | _ => ([], []), join := fun id => match id with | _ => none }
noncomputable def impl_nearestc : Code := bodyOf Go.Proofs.Try.f157
noncomputable def impl_nearestF (n : Nat) : Fun := { id := 157, sp := impl_nearestsp, bs := impl_nearestbs, rs := impl_nearestrs, f := fun x y => impl_nearest n x.1 x.2.1 }

theorem impl_nearest_eq (n : Nat) (a0 : Int) (a1 : Int) : runBody ([impl_floorDivF n, impl_withinF n]) ty 17 n impl_nearestkp impl_nearestc Go.Proofs.Try.f157.results.toList impl_nearestrs impl_nearestsp impl_nearestbs (a0, (a1, ())) () = impl_nearest n a0 a1 := by
  have h : runBody ([impl_floorDivF n, impl_withinF n]) ty 17 n impl_nearestkp impl_nearestc Go.Proofs.Try.f157.results.toList impl_nearestrs impl_nearestsp impl_nearestbs (a0, (a1, ())) () = impl_nearest_t n a0 a1 := by kernel_rfl
  rw [h]
  rfl

theorem impl_nearest_ok (n : Nat) : FunOk P (impl_nearestF n) :=
  funOk_mk (C := [impl_floorDivF n, impl_withinF n]) (N := 17) (kp := impl_nearestkp) (c := impl_nearestc) (n := n) (G := fun x y => impl_nearest n x.1 x.2.1) follows (AllOk.mem (⟨impl_floorDiv_ok n, ⟨impl_within_ok n, trivial⟩⟩ : AllOk P ([impl_floorDivF n, impl_withinF n]))) (by kernel_rfl : P.funcs[157]? = some Go.Proofs.Try.f157) (by kernel_rfl) (by kernel_rfl) (by kernel_rfl)
    (fun x y => impl_nearest_eq n x.1 x.2.1) (fun _ _ => map_same (fun _ => rfl) _) (fun _ _ _ _ => rfl)

abbrev impl_headsp : List Sp := [.v true (.pair (.list (.int .i16)) (.pair (.int .i64) (.int .i64))), .v false (.int .i64), .v false (.int .i64)]
abbrev impl_headbs : List (Bs × Bool) := []
abbrev impl_headrs : List (Bool × List Rp) := [(false, [.v false (.int .i64)])]
noncomputable def impl_headkp : Keep := { loop := fun id => match id with | _ => ([], []), join := fun id => match id with | _ => none }
noncomputable def impl_headc : Code := bodyOf Go.Proofs.Try.f112
noncomputable def impl_headF (n : Nat) : Fun := { id := 112, sp := impl_headsp, bs := impl_headbs, rs := impl_headrs, f := fun x y => impl_head n x.1 x.2.1 x.2.2.1 }

theorem impl_head_eq (n : Nat) (a0 : (List (Int)) × ((Int) × (Int))) (a1 : Int) (a2 : Int) : runBody ([impl_faultAtF n, impl_swingAtF n, impl_nearestF n, impl_wrapF n]) ty 51 n impl_headkp impl_headc Go.Proofs.Try.f112.results.toList impl_headrs impl_headsp impl_headbs (a0, (a1, (a2, ()))) () = impl_head n a0 a1 a2 := by
  have h : runBody ([impl_faultAtF n, impl_swingAtF n, impl_nearestF n, impl_wrapF n]) ty 51 n impl_headkp impl_headc Go.Proofs.Try.f112.results.toList impl_headrs impl_headsp impl_headbs (a0, (a1, (a2, ()))) () = impl_head_t n a0 a1 a2 := by kernel_rfl
  rw [h]
  rfl

theorem impl_head_ok (n : Nat) : FunOk P (impl_headF n) :=
  funOk_mk (C := [impl_faultAtF n, impl_swingAtF n, impl_nearestF n, impl_wrapF n]) (N := 51) (kp := impl_headkp) (c := impl_headc) (n := n) (G := fun x y => impl_head n x.1 x.2.1 x.2.2.1) follows (AllOk.mem (⟨impl_faultAt_ok n, ⟨impl_swingAt_ok n, ⟨impl_nearest_ok n, ⟨impl_wrap_ok n, trivial⟩⟩⟩⟩ : AllOk P ([impl_faultAtF n, impl_swingAtF n, impl_nearestF n, impl_wrapF n]))) (by kernel_rfl : P.funcs[112]? = some Go.Proofs.Try.f112) (by kernel_rfl) (by kernel_rfl) (by kernel_rfl)
    (fun x y => impl_head_eq n x.1 x.2.1 x.2.2.1) (fun _ _ => map_same (fun _ => rfl) _) (fun _ _ _ _ => rfl)

abbrev impl_turnFromsp : List Sp := [.v false (.int .i64), .v false (.int .i64)]
abbrev impl_turnFrombs : List (Bs × Bool) := []
abbrev impl_turnFromrs : List (Bool × List Rp) := [(false, [.v false (.int .i64)])]
noncomputable def impl_turnFromkp : Keep := { loop := fun id => match id with | _ => ([], []), join := fun id => match id with | _ => none }
noncomputable def impl_turnFromc : Code := bodyOf Go.Proofs.Try.f111
noncomputable def impl_turnFromF (n : Nat) : Fun := { id := 111, sp := impl_turnFromsp, bs := impl_turnFrombs, rs := impl_turnFromrs, f := fun x y => impl_turnFrom n x.1 x.2.1 }

theorem impl_turnFrom_eq (n : Nat) (a0 : Int) (a1 : Int) : runBody ([impl_wrapF n]) ty 15 n impl_turnFromkp impl_turnFromc Go.Proofs.Try.f111.results.toList impl_turnFromrs impl_turnFromsp impl_turnFrombs (a0, (a1, ())) () = impl_turnFrom n a0 a1 := by
  have h : runBody ([impl_wrapF n]) ty 15 n impl_turnFromkp impl_turnFromc Go.Proofs.Try.f111.results.toList impl_turnFromrs impl_turnFromsp impl_turnFrombs (a0, (a1, ())) () = impl_turnFrom_t n a0 a1 := by kernel_rfl
  rw [h]
  rfl

theorem impl_turnFrom_ok (n : Nat) : FunOk P (impl_turnFromF n) :=
  funOk_mk (C := [impl_wrapF n]) (N := 15) (kp := impl_turnFromkp) (c := impl_turnFromc) (n := n) (G := fun x y => impl_turnFrom n x.1 x.2.1) follows (AllOk.mem (⟨impl_wrap_ok n, trivial⟩ : AllOk P ([impl_wrapF n]))) (by kernel_rfl : P.funcs[111]? = some Go.Proofs.Try.f111) (by kernel_rfl) (by kernel_rfl) (by kernel_rfl)
    (fun x y => impl_turnFrom_eq n x.1 x.2.1) (fun _ _ => map_same (fun _ => rfl) _) (fun _ _ _ _ => rfl)

abbrev impl_SectorsOfsp : List Sp := [.v true (.pair (.list (.int .i16)) (.pair (.int .i64) (.int .i64))), .v false (.int .i64), .v false (.int .i64)]
abbrev impl_SectorsOfbs : List (Bs × Bool) := []
abbrev impl_SectorsOfrs : List (Bool × List Rp) := [(false, [.new  (.int .i64)]), (false, [.v false (.int .i64)])]
noncomputable def impl_SectorsOfkp : Keep := { loop := fun id => match id with | 8 => ([32, 9, 2, 1, 3, 31], []) | _ => ([], []), join := fun id => match id with | _ => none }
noncomputable def impl_SectorsOfc : Code := bodyOf Go.Proofs.Try.f51
noncomputable def impl_SectorsOfF (n : Nat) : Fun := { id := 51, sp := impl_SectorsOfsp, bs := impl_SectorsOfbs, rs := impl_SectorsOfrs, f := fun x y => impl_SectorsOf n x.1 x.2.1 x.2.2.1 }

theorem impl_SectorsOf_l8_eq (n : Nat) : ∀ (k : Nat) (v32 : Int) (v2 : Int) (v1 : Int) (v31 : Int) (b0 : List (Int)) (b1_0 : List (Int)) (b1_1 : Int) (b1_2 : Int), iter (interp ([impl_headCodeF n, impl_withinF n, impl_headF n, impl_wrapF n, impl_turnFromF n]) ty 62 0 n impl_SectorsOfkp (codeAt impl_SectorsOfc [1, 1, 1, 1, 1, 0, 1, 0, 0])) (canon 0 (impl_SectorsOfkp.loop 8)) (kAt ([impl_headCodeF n, impl_withinF n, impl_headF n, impl_wrapF n, impl_turnFromF n]) ty 62 0 n impl_SectorsOfkp impl_SectorsOfc [1, 1, 1, 1, 1, 0, 1, 0] [] (ending ty 0 Go.Proofs.Try.f51.results.toList impl_SectorsOfrs impl_SectorsOfbs)) k { env := [(32, .one (.sc (.int .i64 v32))), (9, .one (.slice 0 0 none)), (2, .one (.sc (.int .i64 v2))), (1, .one (.sc (.int .i64 v1))), (3, .one (.ref 1 0 0 0 0 0)), (31, .one (.sc (.int .i64 v31)))], bx := [(0, .row 0 (.int .i64) b0), (1, .var 75 [.list true (.int .i16) b1_0, .sc (.int .i64 b1_1), .sc (.int .i64 b1_2)])], nx := 2 } = impl_SectorsOf_l8 n k v32 v2 v1 v31 b0 b1_0 b1_1 b1_2
  | 0, _, _, _, _, _, _, _, _ => by kernel_rfl
  | k + 1, v32, v2, v1, v31, b0, b1_0, b1_1, b1_2 => by
    have h : iter (interp ([impl_headCodeF n, impl_withinF n, impl_headF n, impl_wrapF n, impl_turnFromF n]) ty 62 0 n impl_SectorsOfkp (codeAt impl_SectorsOfc [1, 1, 1, 1, 1, 0, 1, 0, 0])) (canon 0 (impl_SectorsOfkp.loop 8)) (kAt ([impl_headCodeF n, impl_withinF n, impl_headF n, impl_wrapF n, impl_turnFromF n]) ty 62 0 n impl_SectorsOfkp impl_SectorsOfc [1, 1, 1, 1, 1, 0, 1, 0] [] (ending ty 0 Go.Proofs.Try.f51.results.toList impl_SectorsOfrs impl_SectorsOfbs)) (k + 1) { env := [(32, .one (.sc (.int .i64 v32))), (9, .one (.slice 0 0 none)), (2, .one (.sc (.int .i64 v2))), (1, .one (.sc (.int .i64 v1))), (3, .one (.ref 1 0 0 0 0 0)), (31, .one (.sc (.int .i64 v31)))], bx := [(0, .row 0 (.int .i64) b0), (1, .var 75 [.list true (.int .i16) b1_0, .sc (.int .i64 b1_1), .sc (.int .i64 b1_2)])], nx := 2 } = impl_SectorsOf_t8 n (fun v32 v2 v1 v31 b0 b1_0 b1_1 b1_2 => iter (interp ([impl_headCodeF n, impl_withinF n, impl_headF n, impl_wrapF n, impl_turnFromF n]) ty 62 0 n impl_SectorsOfkp (codeAt impl_SectorsOfc [1, 1, 1, 1, 1, 0, 1, 0, 0])) (canon 0 (impl_SectorsOfkp.loop 8)) (kAt ([impl_headCodeF n, impl_withinF n, impl_headF n, impl_wrapF n, impl_turnFromF n]) ty 62 0 n impl_SectorsOfkp impl_SectorsOfc [1, 1, 1, 1, 1, 0, 1, 0] [] (ending ty 0 Go.Proofs.Try.f51.results.toList impl_SectorsOfrs impl_SectorsOfbs)) k { env := [(32, .one (.sc (.int .i64 v32))), (9, .one (.slice 0 0 none)), (2, .one (.sc (.int .i64 v2))), (1, .one (.sc (.int .i64 v1))), (3, .one (.ref 1 0 0 0 0 0)), (31, .one (.sc (.int .i64 v31)))], bx := [(0, .row 0 (.int .i64) b0), (1, .var 75 [.list true (.int .i16) b1_0, .sc (.int .i64 b1_1), .sc (.int .i64 b1_2)])], nx := 2 }) v32 v2 v1 v31 b0 b1_0 b1_1 b1_2 := by kernel_rfl
    rw [h]
    have e := congrArg (fun g => impl_SectorsOf_t8 n g v32 v2 v1 v31 b0 b1_0 b1_1 b1_2) (funext fun v32 => funext fun v2 => funext fun v1 => funext fun v31 => funext fun b0 => funext fun b1_0 => funext fun b1_1 => funext fun b1_2 => impl_SectorsOf_l8_eq n k v32 v2 v1 v31 b0 b1_0 b1_1 b1_2)
    exact e

theorem impl_SectorsOf_eq (n : Nat) (a0 : (List (Int)) × ((Int) × (Int))) (a1 : Int) (a2 : Int) : runBody ([impl_headCodeF n, impl_withinF n, impl_headF n, impl_wrapF n, impl_turnFromF n]) ty 62 n impl_SectorsOfkp impl_SectorsOfc Go.Proofs.Try.f51.results.toList impl_SectorsOfrs impl_SectorsOfsp impl_SectorsOfbs (a0, (a1, (a2, ()))) () = impl_SectorsOf n a0 a1 a2 := by
  have h : runBody ([impl_headCodeF n, impl_withinF n, impl_headF n, impl_wrapF n, impl_turnFromF n]) ty 62 n impl_SectorsOfkp impl_SectorsOfc Go.Proofs.Try.f51.results.toList impl_SectorsOfrs impl_SectorsOfsp impl_SectorsOfbs (a0, (a1, (a2, ()))) () = impl_SectorsOf_t n (fun k v32 v2 v1 v31 b0 b1_0 b1_1 b1_2 => iter (interp ([impl_headCodeF n, impl_withinF n, impl_headF n, impl_wrapF n, impl_turnFromF n]) ty 62 0 n impl_SectorsOfkp (codeAt impl_SectorsOfc [1, 1, 1, 1, 1, 0, 1, 0, 0])) (canon 0 (impl_SectorsOfkp.loop 8)) (kAt ([impl_headCodeF n, impl_withinF n, impl_headF n, impl_wrapF n, impl_turnFromF n]) ty 62 0 n impl_SectorsOfkp impl_SectorsOfc [1, 1, 1, 1, 1, 0, 1, 0] [] (ending ty 0 Go.Proofs.Try.f51.results.toList impl_SectorsOfrs impl_SectorsOfbs)) k { env := [(32, .one (.sc (.int .i64 v32))), (9, .one (.slice 0 0 none)), (2, .one (.sc (.int .i64 v2))), (1, .one (.sc (.int .i64 v1))), (3, .one (.ref 1 0 0 0 0 0)), (31, .one (.sc (.int .i64 v31)))], bx := [(0, .row 0 (.int .i64) b0), (1, .var 75 [.list true (.int .i16) b1_0, .sc (.int .i64 b1_1), .sc (.int .i64 b1_2)])], nx := 2 }) a0 a1 a2 := by kernel_rfl
  rw [h]
  have e := congrArg (fun h8 => impl_SectorsOf_t n h8 a0 a1 a2) (funext fun k => funext fun v32 => funext fun v2 => funext fun v1 => funext fun v31 => funext fun b0 => funext fun b1_0 => funext fun b1_1 => funext fun b1_2 => impl_SectorsOf_l8_eq n k v32 v2 v1 v31 b0 b1_0 b1_1 b1_2)
  exact e

theorem impl_SectorsOf_ok (n : Nat) : FunOk P (impl_SectorsOfF n) :=
  funOk_mk (C := [impl_headCodeF n, impl_withinF n, impl_headF n, impl_wrapF n, impl_turnFromF n]) (N := 62) (kp := impl_SectorsOfkp) (c := impl_SectorsOfc) (n := n) (G := fun x y => impl_SectorsOf n x.1 x.2.1 x.2.2.1) follows (AllOk.mem (⟨impl_headCode_ok n, ⟨impl_within_ok n, ⟨impl_head_ok n, ⟨impl_wrap_ok n, ⟨impl_turnFrom_ok n, trivial⟩⟩⟩⟩⟩ : AllOk P ([impl_headCodeF n, impl_withinF n, impl_headF n, impl_wrapF n, impl_turnFromF n]))) (by kernel_rfl : P.funcs[51]? = some Go.Proofs.Try.f51) (by kernel_rfl) (by kernel_rfl) (by kernel_rfl)
    (fun x y => impl_SectorsOf_eq n x.1 x.2.1 x.2.2.1) (fun _ _ => map_same (fun _ => rfl) _) (fun _ _ _ _ => rfl)

abbrev laws_eqInt64Ssp : List Sp := [.v false (.list (.int .i64)), .v false (.list (.int .i64))]
abbrev laws_eqInt64Sbs : List (Bs × Bool) := []
abbrev laws_eqInt64Srs : List (Bool × List Rp) := [(false, [.v false .bool])]
noncomputable def laws_eqInt64Skp : Keep := { loop := fun id => match id with | 4 => ([5, 1, 0], []) | _ => ([], []), join := fun id => match id with | _ => none }
noncomputable def laws_eqInt64Sc : Code := bodyOf Go.Proofs.Try.f19
noncomputable def laws_eqInt64SF (n : Nat) : Fun := { id := 19, sp := laws_eqInt64Ssp, bs := laws_eqInt64Sbs, rs := laws_eqInt64Srs, f := fun x y => laws_eqInt64S n x.1 x.2.1 }

theorem laws_eqInt64S_l4_eq (n : Nat) : ∀ (k : Nat) (v5 : Int) (v1 : List (Int)) (v0 : List (Int)), iter (interp ([]) ty 26 0 n laws_eqInt64Skp (codeAt laws_eqInt64Sc [1, 1, 0, 1, 0, 0])) (canon 0 (laws_eqInt64Skp.loop 4)) (kAt ([]) ty 26 0 n laws_eqInt64Skp laws_eqInt64Sc [1, 1, 0, 1, 0] [] (ending ty 0 Go.Proofs.Try.f19.results.toList laws_eqInt64Srs laws_eqInt64Sbs)) k { env := [(5, .one (.sc (.int .i64 v5))), (1, .one (.list true (.int .i64) v1)), (0, .one (.list true (.int .i64) v0))], bx := [], nx := 0 } = laws_eqInt64S_l4 n k v5 v1 v0
  | 0, _, _, _ => by kernel_rfl
  | k + 1, v5, v1, v0 => by
    have h : iter (interp ([]) ty 26 0 n laws_eqInt64Skp (codeAt laws_eqInt64Sc [1, 1, 0, 1, 0, 0])) (canon 0 (laws_eqInt64Skp.loop 4)) (kAt ([]) ty 26 0 n laws_eqInt64Skp laws_eqInt64Sc [1, 1, 0, 1, 0] [] (ending ty 0 Go.Proofs.Try.f19.results.toList laws_eqInt64Srs laws_eqInt64Sbs)) (k + 1) { env := [(5, .one (.sc (.int .i64 v5))), (1, .one (.list true (.int .i64) v1)), (0, .one (.list true (.int .i64) v0))], bx := [], nx := 0 } = laws_eqInt64S_t4 n (fun v5 v1 v0 => iter (interp ([]) ty 26 0 n laws_eqInt64Skp (codeAt laws_eqInt64Sc [1, 1, 0, 1, 0, 0])) (canon 0 (laws_eqInt64Skp.loop 4)) (kAt ([]) ty 26 0 n laws_eqInt64Skp laws_eqInt64Sc [1, 1, 0, 1, 0] [] (ending ty 0 Go.Proofs.Try.f19.results.toList laws_eqInt64Srs laws_eqInt64Sbs)) k { env := [(5, .one (.sc (.int .i64 v5))), (1, .one (.list true (.int .i64) v1)), (0, .one (.list true (.int .i64) v0))], bx := [], nx := 0 }) v5 v1 v0 := by kernel_rfl
    rw [h]
    have e := congrArg (fun g => laws_eqInt64S_t4 n g v5 v1 v0) (funext fun v5 => funext fun v1 => funext fun v0 => laws_eqInt64S_l4_eq n k v5 v1 v0)
    exact e

theorem laws_eqInt64S_eq (n : Nat) (a0 : List (Int)) (a1 : List (Int)) : runBody ([]) ty 26 n laws_eqInt64Skp laws_eqInt64Sc Go.Proofs.Try.f19.results.toList laws_eqInt64Srs laws_eqInt64Ssp laws_eqInt64Sbs (a0, (a1, ())) () = laws_eqInt64S n a0 a1 := by
  have h : runBody ([]) ty 26 n laws_eqInt64Skp laws_eqInt64Sc Go.Proofs.Try.f19.results.toList laws_eqInt64Srs laws_eqInt64Ssp laws_eqInt64Sbs (a0, (a1, ())) () = laws_eqInt64S_t n (fun k v5 v1 v0 => iter (interp ([]) ty 26 0 n laws_eqInt64Skp (codeAt laws_eqInt64Sc [1, 1, 0, 1, 0, 0])) (canon 0 (laws_eqInt64Skp.loop 4)) (kAt ([]) ty 26 0 n laws_eqInt64Skp laws_eqInt64Sc [1, 1, 0, 1, 0] [] (ending ty 0 Go.Proofs.Try.f19.results.toList laws_eqInt64Srs laws_eqInt64Sbs)) k { env := [(5, .one (.sc (.int .i64 v5))), (1, .one (.list true (.int .i64) v1)), (0, .one (.list true (.int .i64) v0))], bx := [], nx := 0 }) a0 a1 := by kernel_rfl
  rw [h]
  have e := congrArg (fun h4 => laws_eqInt64S_t n h4 a0 a1) (funext fun k => funext fun v5 => funext fun v1 => funext fun v0 => laws_eqInt64S_l4_eq n k v5 v1 v0)
  exact e

theorem laws_eqInt64S_ok (n : Nat) : FunOk P (laws_eqInt64SF n) :=
  funOk_mk (C := []) (N := 26) (kp := laws_eqInt64Skp) (c := laws_eqInt64Sc) (n := n) (G := fun x y => laws_eqInt64S n x.1 x.2.1) follows (AllOk.mem (trivial : AllOk P ([]))) (by kernel_rfl : P.funcs[19]? = some Go.Proofs.Try.f19) (by kernel_rfl) (by kernel_rfl) (by kernel_rfl)
    (fun x y => laws_eqInt64S_eq n x.1 x.2.1) (fun _ _ => map_same (fun _ => rfl) _) (fun _ _ _ _ => rfl)

abbrev laws_eqInt16Ssp : List Sp := [.v false (.list (.int .i16)), .v false (.list (.int .i16))]
abbrev laws_eqInt16Sbs : List (Bs × Bool) := []
abbrev laws_eqInt16Srs : List (Bool × List Rp) := [(false, [.v false .bool])]
noncomputable def laws_eqInt16Skp : Keep := { loop := fun id => match id with | 4 => ([5, 1, 0], []) | _ => ([], []), join := fun id => match id with | _ => none }
noncomputable def laws_eqInt16Sc : Code := bodyOf Go.Proofs.Try.f114
noncomputable def laws_eqInt16SF (n : Nat) : Fun := { id := 114, sp := laws_eqInt16Ssp, bs := laws_eqInt16Sbs, rs := laws_eqInt16Srs, f := fun x y => laws_eqInt16S n x.1 x.2.1 }

theorem laws_eqInt16S_l4_eq (n : Nat) : ∀ (k : Nat) (v5 : Int) (v1 : List (Int)) (v0 : List (Int)), iter (interp ([]) ty 26 0 n laws_eqInt16Skp (codeAt laws_eqInt16Sc [1, 1, 0, 1, 0, 0])) (canon 0 (laws_eqInt16Skp.loop 4)) (kAt ([]) ty 26 0 n laws_eqInt16Skp laws_eqInt16Sc [1, 1, 0, 1, 0] [] (ending ty 0 Go.Proofs.Try.f114.results.toList laws_eqInt16Srs laws_eqInt16Sbs)) k { env := [(5, .one (.sc (.int .i64 v5))), (1, .one (.list true (.int .i16) v1)), (0, .one (.list true (.int .i16) v0))], bx := [], nx := 0 } = laws_eqInt16S_l4 n k v5 v1 v0
  | 0, _, _, _ => by kernel_rfl
  | k + 1, v5, v1, v0 => by
    have h : iter (interp ([]) ty 26 0 n laws_eqInt16Skp (codeAt laws_eqInt16Sc [1, 1, 0, 1, 0, 0])) (canon 0 (laws_eqInt16Skp.loop 4)) (kAt ([]) ty 26 0 n laws_eqInt16Skp laws_eqInt16Sc [1, 1, 0, 1, 0] [] (ending ty 0 Go.Proofs.Try.f114.results.toList laws_eqInt16Srs laws_eqInt16Sbs)) (k + 1) { env := [(5, .one (.sc (.int .i64 v5))), (1, .one (.list true (.int .i16) v1)), (0, .one (.list true (.int .i16) v0))], bx := [], nx := 0 } = laws_eqInt16S_t4 n (fun v5 v1 v0 => iter (interp ([]) ty 26 0 n laws_eqInt16Skp (codeAt laws_eqInt16Sc [1, 1, 0, 1, 0, 0])) (canon 0 (laws_eqInt16Skp.loop 4)) (kAt ([]) ty 26 0 n laws_eqInt16Skp laws_eqInt16Sc [1, 1, 0, 1, 0] [] (ending ty 0 Go.Proofs.Try.f114.results.toList laws_eqInt16Srs laws_eqInt16Sbs)) k { env := [(5, .one (.sc (.int .i64 v5))), (1, .one (.list true (.int .i16) v1)), (0, .one (.list true (.int .i16) v0))], bx := [], nx := 0 }) v5 v1 v0 := by kernel_rfl
    rw [h]
    have e := congrArg (fun g => laws_eqInt16S_t4 n g v5 v1 v0) (funext fun v5 => funext fun v1 => funext fun v0 => laws_eqInt16S_l4_eq n k v5 v1 v0)
    exact e

theorem laws_eqInt16S_eq (n : Nat) (a0 : List (Int)) (a1 : List (Int)) : runBody ([]) ty 26 n laws_eqInt16Skp laws_eqInt16Sc Go.Proofs.Try.f114.results.toList laws_eqInt16Srs laws_eqInt16Ssp laws_eqInt16Sbs (a0, (a1, ())) () = laws_eqInt16S n a0 a1 := by
  have h : runBody ([]) ty 26 n laws_eqInt16Skp laws_eqInt16Sc Go.Proofs.Try.f114.results.toList laws_eqInt16Srs laws_eqInt16Ssp laws_eqInt16Sbs (a0, (a1, ())) () = laws_eqInt16S_t n (fun k v5 v1 v0 => iter (interp ([]) ty 26 0 n laws_eqInt16Skp (codeAt laws_eqInt16Sc [1, 1, 0, 1, 0, 0])) (canon 0 (laws_eqInt16Skp.loop 4)) (kAt ([]) ty 26 0 n laws_eqInt16Skp laws_eqInt16Sc [1, 1, 0, 1, 0] [] (ending ty 0 Go.Proofs.Try.f114.results.toList laws_eqInt16Srs laws_eqInt16Sbs)) k { env := [(5, .one (.sc (.int .i64 v5))), (1, .one (.list true (.int .i16) v1)), (0, .one (.list true (.int .i16) v0))], bx := [], nx := 0 }) a0 a1 := by kernel_rfl
  rw [h]
  have e := congrArg (fun h4 => laws_eqInt16S_t n h4 a0 a1) (funext fun k => funext fun v5 => funext fun v1 => funext fun v0 => laws_eqInt16S_l4_eq n k v5 v1 v0)
  exact e

theorem laws_eqInt16S_ok (n : Nat) : FunOk P (laws_eqInt16SF n) :=
  funOk_mk (C := []) (N := 26) (kp := laws_eqInt16Skp) (c := laws_eqInt16Sc) (n := n) (G := fun x y => laws_eqInt16S n x.1 x.2.1) follows (AllOk.mem (trivial : AllOk P ([]))) (by kernel_rfl : P.funcs[114]? = some Go.Proofs.Try.f114) (by kernel_rfl) (by kernel_rfl) (by kernel_rfl)
    (fun x y => laws_eqInt16S_eq n x.1 x.2.1) (fun _ _ => map_same (fun _ => rfl) _) (fun _ _ _ _ => rfl)

abbrev laws_eqDisksp : List Sp := [.v true (.pair (.list (.int .i16)) (.pair (.int .i64) (.int .i64))), .v true (.pair (.list (.int .i16)) (.pair (.int .i64) (.int .i64)))]
abbrev laws_eqDiskbs : List (Bs × Bool) := []
abbrev laws_eqDiskrs : List (Bool × List Rp) := [(false, [.v false .bool])]
noncomputable def laws_eqDiskkp : Keep := { loop := fun id => match id with | _ => ([], []), join := fun id => match id with | _ => none }
noncomputable def laws_eqDiskc : Code := bodyOf Go.Proofs.Try.f52
noncomputable def laws_eqDiskF (n : Nat) : Fun := { id := 52, sp := laws_eqDisksp, bs := laws_eqDiskbs, rs := laws_eqDiskrs, f := fun x y => laws_eqDisk n x.1 x.2.1 }

theorem laws_eqDisk_eq (n : Nat) (a0 : (List (Int)) × ((Int) × (Int))) (a1 : (List (Int)) × ((Int) × (Int))) : runBody ([laws_eqInt16SF n]) ty 21 n laws_eqDiskkp laws_eqDiskc Go.Proofs.Try.f52.results.toList laws_eqDiskrs laws_eqDisksp laws_eqDiskbs (a0, (a1, ())) () = laws_eqDisk n a0 a1 := by
  have h : runBody ([laws_eqInt16SF n]) ty 21 n laws_eqDiskkp laws_eqDiskc Go.Proofs.Try.f52.results.toList laws_eqDiskrs laws_eqDisksp laws_eqDiskbs (a0, (a1, ())) () = laws_eqDisk_t n a0 a1 := by kernel_rfl
  rw [h]
  rfl

theorem laws_eqDisk_ok (n : Nat) : FunOk P (laws_eqDiskF n) :=
  funOk_mk (C := [laws_eqInt16SF n]) (N := 21) (kp := laws_eqDiskkp) (c := laws_eqDiskc) (n := n) (G := fun x y => laws_eqDisk n x.1 x.2.1) follows (AllOk.mem (⟨laws_eqInt16S_ok n, trivial⟩ : AllOk P ([laws_eqInt16SF n]))) (by kernel_rfl : P.funcs[52]? = some Go.Proofs.Try.f52) (by kernel_rfl) (by kernel_rfl) (by kernel_rfl)
    (fun x y => laws_eqDisk_eq n x.1 x.2.1) (fun _ _ => map_same (fun _ => rfl) _) (fun _ _ _ _ => rfl)

abbrev laws_markInt16Ssp : List Sp := [.sl 0, .v false (.int .i64)]
abbrev laws_markInt16Sbs : List (Bs × Bool) := [(.row  (.int .i16), true)]
abbrev laws_markInt16Srs : List (Bool × List Rp) := [(false, [.v false (.int .i64)])]
noncomputable def laws_markInt16Skp : Keep := { loop := fun id => match id with | 2 => ([5, 1, 0], []) | _ => ([], []), join := fun id => match id with | _ => none }
noncomputable def laws_markInt16Sc : Code := bodyOf Go.Proofs.Try.f115
noncomputable def laws_markInt16SF (n : Nat) : Fun := { id := 115, sp := laws_markInt16Ssp, bs := laws_markInt16Sbs, rs := laws_markInt16Srs, f := fun x y => laws_markInt16S n x.2.1 y.1 }

theorem laws_markInt16S_l2_eq (n : Nat) : ∀ (k : Nat) (v5 : Int) (v1 : Int) (b0 : List (Int)), iter (interp ([]) ty 20 1 n laws_markInt16Skp (codeAt laws_markInt16Sc [1, 0, 1, 0, 0])) (canon 1 (laws_markInt16Skp.loop 2)) (kAt ([]) ty 20 1 n laws_markInt16Skp laws_markInt16Sc [1, 0, 1, 0] [] (ending ty 1 Go.Proofs.Try.f115.results.toList laws_markInt16Srs laws_markInt16Sbs)) k { env := [(5, .one (.sc (.int .i64 v5))), (1, .one (.sc (.int .i64 v1))), (0, .one (.slice 0 0 none))], bx := [(0, .row 0 (.int .i16) b0)], nx := 1 } = laws_markInt16S_l2 n k v5 v1 b0
  | 0, _, _, _ => by kernel_rfl
  | k + 1, v5, v1, b0 => by
    have h : iter (interp ([]) ty 20 1 n laws_markInt16Skp (codeAt laws_markInt16Sc [1, 0, 1, 0, 0])) (canon 1 (laws_markInt16Skp.loop 2)) (kAt ([]) ty 20 1 n laws_markInt16Skp laws_markInt16Sc [1, 0, 1, 0] [] (ending ty 1 Go.Proofs.Try.f115.results.toList laws_markInt16Srs laws_markInt16Sbs)) (k + 1) { env := [(5, .one (.sc (.int .i64 v5))), (1, .one (.sc (.int .i64 v1))), (0, .one (.slice 0 0 none))], bx := [(0, .row 0 (.int .i16) b0)], nx := 1 } = laws_markInt16S_t2 n (fun v5 v1 b0 => iter (interp ([]) ty 20 1 n laws_markInt16Skp (codeAt laws_markInt16Sc [1, 0, 1, 0, 0])) (canon 1 (laws_markInt16Skp.loop 2)) (kAt ([]) ty 20 1 n laws_markInt16Skp laws_markInt16Sc [1, 0, 1, 0] [] (ending ty 1 Go.Proofs.Try.f115.results.toList laws_markInt16Srs laws_markInt16Sbs)) k { env := [(5, .one (.sc (.int .i64 v5))), (1, .one (.sc (.int .i64 v1))), (0, .one (.slice 0 0 none))], bx := [(0, .row 0 (.int .i16) b0)], nx := 1 }) v5 v1 b0 := by kernel_rfl
    rw [h]
    have e := congrArg (fun g => laws_markInt16S_t2 n g v5 v1 b0) (funext fun v5 => funext fun v1 => funext fun b0 => laws_markInt16S_l2_eq n k v5 v1 b0)
    exact e

theorem laws_markInt16S_eq (n : Nat) (a1 : Int) (b0 : List (Int)) : runBody ([]) ty 20 n laws_markInt16Skp laws_markInt16Sc Go.Proofs.Try.f115.results.toList laws_markInt16Srs laws_markInt16Ssp laws_markInt16Sbs ((), (a1, ())) (b0, ()) = laws_markInt16S n a1 b0 := by
  have h : runBody ([]) ty 20 n laws_markInt16Skp laws_markInt16Sc Go.Proofs.Try.f115.results.toList laws_markInt16Srs laws_markInt16Ssp laws_markInt16Sbs ((), (a1, ())) (b0, ()) = laws_markInt16S_t n (fun k v5 v1 b0 => iter (interp ([]) ty 20 1 n laws_markInt16Skp (codeAt laws_markInt16Sc [1, 0, 1, 0, 0])) (canon 1 (laws_markInt16Skp.loop 2)) (kAt ([]) ty 20 1 n laws_markInt16Skp laws_markInt16Sc [1, 0, 1, 0] [] (ending ty 1 Go.Proofs.Try.f115.results.toList laws_markInt16Srs laws_markInt16Sbs)) k { env := [(5, .one (.sc (.int .i64 v5))), (1, .one (.sc (.int .i64 v1))), (0, .one (.slice 0 0 none))], bx := [(0, .row 0 (.int .i16) b0)], nx := 1 }) a1 b0 := by kernel_rfl
  rw [h]
  have e := congrArg (fun h2 => laws_markInt16S_t n h2 a1 b0) (funext fun k => funext fun v5 => funext fun v1 => funext fun b0 => laws_markInt16S_l2_eq n k v5 v1 b0)
  exact e

theorem laws_markInt16S_ok (n : Nat) : FunOk P (laws_markInt16SF n) :=
  funOk_mk (C := []) (N := 20) (kp := laws_markInt16Skp) (c := laws_markInt16Sc) (n := n) (G := fun x y => laws_markInt16S n x.2.1 y.1) follows (AllOk.mem (trivial : AllOk P ([]))) (by kernel_rfl : P.funcs[115]? = some Go.Proofs.Try.f115) (by kernel_rfl) (by kernel_rfl) (by kernel_rfl)
    (fun x y => laws_markInt16S_eq n x.2.1 y.1) (fun _ _ => map_same (fun _ => rfl) _) (fun _ _ _ _ => rfl)

abbrev laws_markDisksp : List Sp := [.rc [.sl 0, .v (.pair (.int .i64) (.int .i64))], .v false (.int .i64)]
abbrev laws_markDiskbs : List (Bs × Bool) := [(.row (.int .i16), true)]
abbrev laws_markDiskrs : List (Bool × List Rp) := [(false, [.v false (.int .i64)])]
noncomputable def laws_markDiskkp : Keep := { loop := fun id => match id with | _ => ([], []), join := fun id => match id with | _ => none }
noncomputable def laws_markDiskc : Code := bodyOf Go.Proofs.Try.f53
noncomputable def laws_markDiskF (n : Nat) : Fun := { id := 53, sp := laws_markDisksp, bs := laws_markDiskbs, rs := laws_markDiskrs, f := fun x y => laws_markDisk n x.1 x.2.1 y.1 }

theorem laws_markDisk_eq (n : Nat) (a0 : ((Int) × (Int)) × (Unit)) (a1 : Int) (b0 : List (Int)) : runBody ([laws_markInt16SF n]) ty 10 n laws_markDiskkp laws_markDiskc Go.Proofs.Try.f53.results.toList laws_markDiskrs laws_markDisksp laws_markDiskbs (a0, (a1, ())) (b0, ()) = laws_markDisk n a0 a1 b0 := by
  have h : runBody ([laws_markInt16SF n]) ty 10 n laws_markDiskkp laws_markDiskc Go.Proofs.Try.f53.results.toList laws_markDiskrs laws_markDisksp laws_markDiskbs (a0, (a1, ())) (b0, ()) = laws_markDisk_t n a0 a1 b0 := by kernel_rfl
  rw [h]
  rfl

theorem laws_markDisk_ok (n : Nat) : FunOk P (laws_markDiskF n) :=
  funOk_mk (C := [laws_markInt16SF n]) (N := 10) (kp := laws_markDiskkp) (c := laws_markDiskc) (n := n) (G := fun x y => laws_markDisk n x.1 x.2.1 y.1) follows (AllOk.mem (⟨laws_markInt16S_ok n, trivial⟩ : AllOk P ([laws_markInt16SF n]))) (by kernel_rfl : P.funcs[53]? = some Go.Proofs.Try.f53) (by kernel_rfl) (by kernel_rfl) (by kernel_rfl)
    (fun x y => laws_markDisk_eq n x.1 x.2.1 y.1) (fun _ _ => map_same (fun _ => rfl) _) (fun _ _ _ _ => rfl)

abbrev laws_markInt64Ssp : List Sp := [.sl 0, .v false (.int .i64)]
abbrev laws_markInt64Sbs : List (Bs × Bool) := [(.row  (.int .i64), true)]
abbrev laws_markInt64Srs : List (Bool × List Rp) := [(false, [.v false (.int .i64)])]
noncomputable def laws_markInt64Skp : Keep := { loop := fun id => match id with | 2 => ([5, 1, 0], []) | _ => ([], []), join := fun id => match id with | _ => none }
noncomputable def laws_markInt64Sc : Code := bodyOf Go.Proofs.Try.f22
noncomputable def laws_markInt64SF (n : Nat) : Fun := { id := 22, sp := laws_markInt64Ssp, bs := laws_markInt64Sbs, rs := laws_markInt64Srs, f := fun x y => laws_markInt64S n x.2.1 y.1 }

theorem laws_markInt64S_l2_eq (n : Nat) : ∀ (k : Nat) (v5 : Int) (v1 : Int) (b0 : List (Int)), iter (interp ([]) ty 19 1 n laws_markInt64Skp (codeAt laws_markInt64Sc [1, 0, 1, 0, 0])) (canon 1 (laws_markInt64Skp.loop 2)) (kAt ([]) ty 19 1 n laws_markInt64Skp laws_markInt64Sc [1, 0, 1, 0] [] (ending ty 1 Go.Proofs.Try.f22.results.toList laws_markInt64Srs laws_markInt64Sbs)) k { env := [(5, .one (.sc (.int .i64 v5))), (1, .one (.sc (.int .i64 v1))), (0, .one (.slice 0 0 none))], bx := [(0, .row 0 (.int .i64) b0)], nx := 1 } = laws_markInt64S_l2 n k v5 v1 b0
  | 0, _, _, _ => by kernel_rfl
  | k + 1, v5, v1, b0 => by
    have h : iter (interp ([]) ty 19 1 n laws_markInt64Skp (codeAt laws_markInt64Sc [1, 0, 1, 0, 0])) (canon 1 (laws_markInt64Skp.loop 2)) (kAt ([]) ty 19 1 n laws_markInt64Skp laws_markInt64Sc [1, 0, 1, 0] [] (ending ty 1 Go.Proofs.Try.f22.results.toList laws_markInt64Srs laws_markInt64Sbs)) (k + 1) { env := [(5, .one (.sc (.int .i64 v5))), (1, .one (.sc (.int .i64 v1))), (0, .one (.slice 0 0 none))], bx := [(0, .row 0 (.int .i64) b0)], nx := 1 } = laws_markInt64S_t2 n (fun v5 v1 b0 => iter (interp ([]) ty 19 1 n laws_markInt64Skp (codeAt laws_markInt64Sc [1, 0, 1, 0, 0])) (canon 1 (laws_markInt64Skp.loop 2)) (kAt ([]) ty 19 1 n laws_markInt64Skp laws_markInt64Sc [1, 0, 1, 0] [] (ending ty 1 Go.Proofs.Try.f22.results.toList laws_markInt64Srs laws_markInt64Sbs)) k { env := [(5, .one (.sc (.int .i64 v5))), (1, .one (.sc (.int .i64 v1))), (0, .one (.slice 0 0 none))], bx := [(0, .row 0 (.int .i64) b0)], nx := 1 }) v5 v1 b0 := by kernel_rfl
    rw [h]
    have e := congrArg (fun g => laws_markInt64S_t2 n g v5 v1 b0) (funext fun v5 => funext fun v1 => funext fun b0 => laws_markInt64S_l2_eq n k v5 v1 b0)
    exact e

theorem laws_markInt64S_eq (n : Nat) (a1 : Int) (b0 : List (Int)) : runBody ([]) ty 19 n laws_markInt64Skp laws_markInt64Sc Go.Proofs.Try.f22.results.toList laws_markInt64Srs laws_markInt64Ssp laws_markInt64Sbs ((), (a1, ())) (b0, ()) = laws_markInt64S n a1 b0 := by
  have h : runBody ([]) ty 19 n laws_markInt64Skp laws_markInt64Sc Go.Proofs.Try.f22.results.toList laws_markInt64Srs laws_markInt64Ssp laws_markInt64Sbs ((), (a1, ())) (b0, ()) = laws_markInt64S_t n (fun k v5 v1 b0 => iter (interp ([]) ty 19 1 n laws_markInt64Skp (codeAt laws_markInt64Sc [1, 0, 1, 0, 0])) (canon 1 (laws_markInt64Skp.loop 2)) (kAt ([]) ty 19 1 n laws_markInt64Skp laws_markInt64Sc [1, 0, 1, 0] [] (ending ty 1 Go.Proofs.Try.f22.results.toList laws_markInt64Srs laws_markInt64Sbs)) k { env := [(5, .one (.sc (.int .i64 v5))), (1, .one (.sc (.int .i64 v1))), (0, .one (.slice 0 0 none))], bx := [(0, .row 0 (.int .i64) b0)], nx := 1 }) a1 b0 := by kernel_rfl
  rw [h]
  have e := congrArg (fun h2 => laws_markInt64S_t n h2 a1 b0) (funext fun k => funext fun v5 => funext fun v1 => funext fun b0 => laws_markInt64S_l2_eq n k v5 v1 b0)
  exact e

theorem laws_markInt64S_ok (n : Nat) : FunOk P (laws_markInt64SF n) :=
  funOk_mk (C := []) (N := 19) (kp := laws_markInt64Skp) (c := laws_markInt64Sc) (n := n) (G := fun x y => laws_markInt64S n x.2.1 y.1) follows (AllOk.mem (trivial : AllOk P ([]))) (by kernel_rfl : P.funcs[22]? = some Go.Proofs.Try.f22) (by kernel_rfl) (by kernel_rfl) (by kernel_rfl)
    (fun x y => laws_markInt64S_eq n x.2.1 y.1) (fun _ _ => map_same (fun _ => rfl) _) (fun _ _ _ _ => rfl)

abbrev laws_heldInt64Ssp : List Sp := [.v false (.list (.int .i64)), .v false (.int .i64)]
abbrev laws_heldInt64Sbs : List (Bs × Bool) := []
abbrev laws_heldInt64Srs : List (Bool × List Rp) := [(false, [.v false (.int .i64)])]
noncomputable def laws_heldInt64Skp : Keep := { loop := fun id => match id with | 2 => ([5, 1, 0], []) | _ => ([], []), join := fun id => match id with | _ => none }
noncomputable def laws_heldInt64Sc : Code := bodyOf Go.Proofs.Try.f23
noncomputable def laws_heldInt64SF (n : Nat) : Fun := { id := 23, sp := laws_heldInt64Ssp, bs := laws_heldInt64Sbs, rs := laws_heldInt64Srs, f := fun x y => laws_heldInt64S n x.1 x.2.1 }

theorem laws_heldInt64S_l2_eq (n : Nat) : ∀ (k : Nat) (v5 : Int) (v1 : Int) (v0 : List (Int)), iter (interp ([]) ty 21 0 n laws_heldInt64Skp (codeAt laws_heldInt64Sc [1, 0, 1, 0, 0])) (canon 0 (laws_heldInt64Skp.loop 2)) (kAt ([]) ty 21 0 n laws_heldInt64Skp laws_heldInt64Sc [1, 0, 1, 0] [] (ending ty 0 Go.Proofs.Try.f23.results.toList laws_heldInt64Srs laws_heldInt64Sbs)) k { env := [(5, .one (.sc (.int .i64 v5))), (1, .one (.sc (.int .i64 v1))), (0, .one (.list true (.int .i64) v0))], bx := [], nx := 0 } = laws_heldInt64S_l2 n k v5 v1 v0
  | 0, _, _, _ => by kernel_rfl
  | k + 1, v5, v1, v0 => by
    have h : iter (interp ([]) ty 21 0 n laws_heldInt64Skp (codeAt laws_heldInt64Sc [1, 0, 1, 0, 0])) (canon 0 (laws_heldInt64Skp.loop 2)) (kAt ([]) ty 21 0 n laws_heldInt64Skp laws_heldInt64Sc [1, 0, 1, 0] [] (ending ty 0 Go.Proofs.Try.f23.results.toList laws_heldInt64Srs laws_heldInt64Sbs)) (k + 1) { env := [(5, .one (.sc (.int .i64 v5))), (1, .one (.sc (.int .i64 v1))), (0, .one (.list true (.int .i64) v0))], bx := [], nx := 0 } = laws_heldInt64S_t2 n (fun v5 v1 v0 => iter (interp ([]) ty 21 0 n laws_heldInt64Skp (codeAt laws_heldInt64Sc [1, 0, 1, 0, 0])) (canon 0 (laws_heldInt64Skp.loop 2)) (kAt ([]) ty 21 0 n laws_heldInt64Skp laws_heldInt64Sc [1, 0, 1, 0] [] (ending ty 0 Go.Proofs.Try.f23.results.toList laws_heldInt64Srs laws_heldInt64Sbs)) k { env := [(5, .one (.sc (.int .i64 v5))), (1, .one (.sc (.int .i64 v1))), (0, .one (.list true (.int .i64) v0))], bx := [], nx := 0 }) v5 v1 v0 := by kernel_rfl
    rw [h]
    have e := congrArg (fun g => laws_heldInt64S_t2 n g v5 v1 v0) (funext fun v5 => funext fun v1 => funext fun v0 => laws_heldInt64S_l2_eq n k v5 v1 v0)
    exact e

theorem laws_heldInt64S_eq (n : Nat) (a0 : List (Int)) (a1 : Int) : runBody ([]) ty 21 n laws_heldInt64Skp laws_heldInt64Sc Go.Proofs.Try.f23.results.toList laws_heldInt64Srs laws_heldInt64Ssp laws_heldInt64Sbs (a0, (a1, ())) () = laws_heldInt64S n a0 a1 := by
  have h : runBody ([]) ty 21 n laws_heldInt64Skp laws_heldInt64Sc Go.Proofs.Try.f23.results.toList laws_heldInt64Srs laws_heldInt64Ssp laws_heldInt64Sbs (a0, (a1, ())) () = laws_heldInt64S_t n (fun k v5 v1 v0 => iter (interp ([]) ty 21 0 n laws_heldInt64Skp (codeAt laws_heldInt64Sc [1, 0, 1, 0, 0])) (canon 0 (laws_heldInt64Skp.loop 2)) (kAt ([]) ty 21 0 n laws_heldInt64Skp laws_heldInt64Sc [1, 0, 1, 0] [] (ending ty 0 Go.Proofs.Try.f23.results.toList laws_heldInt64Srs laws_heldInt64Sbs)) k { env := [(5, .one (.sc (.int .i64 v5))), (1, .one (.sc (.int .i64 v1))), (0, .one (.list true (.int .i64) v0))], bx := [], nx := 0 }) a0 a1 := by kernel_rfl
  rw [h]
  have e := congrArg (fun h2 => laws_heldInt64S_t n h2 a0 a1) (funext fun k => funext fun v5 => funext fun v1 => funext fun v0 => laws_heldInt64S_l2_eq n k v5 v1 v0)
  exact e

theorem laws_heldInt64S_ok (n : Nat) : FunOk P (laws_heldInt64SF n) :=
  funOk_mk (C := []) (N := 21) (kp := laws_heldInt64Skp) (c := laws_heldInt64Sc) (n := n) (G := fun x y => laws_heldInt64S n x.1 x.2.1) follows (AllOk.mem (trivial : AllOk P ([]))) (by kernel_rfl : P.funcs[23]? = some Go.Proofs.Try.f23) (by kernel_rfl) (by kernel_rfl) (by kernel_rfl)
    (fun x y => laws_heldInt64S_eq n x.1 x.2.1) (fun _ _ => map_same (fun _ => rfl) _) (fun _ _ _ _ => rfl)

abbrev laws_FnExactSectorsOfsp : List Sp := [.v true (.pair (.list (.int .i16)) (.pair (.int .i64) (.int .i64))), .v false (.int .i64), .v false (.int .i64)]
abbrev laws_FnExactSectorsOfbs : List (Bs × Bool) := []
abbrev laws_FnExactSectorsOfrs : List (Bool × List Rp) := [(false, [.v false .bool])]
noncomputable def laws_FnExactSectorsOfkp : Keep := { loop := fun id => match id with | _ => ([], []), join := fun id => match id with | _ => none }
noncomputable def laws_FnExactSectorsOfc : Code := bodyOf Go.Proofs.Try.f10
noncomputable def laws_FnExactSectorsOfF (n : Nat) : Fun := { id := 10, sp := laws_FnExactSectorsOfsp, bs := laws_FnExactSectorsOfbs, rs := laws_FnExactSectorsOfrs, f := fun x y => laws_FnExactSectorsOf n x.1 x.2.1 x.2.2.1 }

theorem laws_FnExactSectorsOf_eq (n : Nat) (a0 : (List (Int)) × ((Int) × (Int))) (a1 : Int) (a2 : Int) : runBody ([laws_szDiskF n, laws_toDiskF n, spec_SectorsOfF n, impl_SectorsOfF n, laws_eqInt64SF n, laws_eqDiskF n, laws_markDiskF n, laws_markInt64SF n, laws_heldInt64SF n]) ty 106 n laws_FnExactSectorsOfkp laws_FnExactSectorsOfc Go.Proofs.Try.f10.results.toList laws_FnExactSectorsOfrs laws_FnExactSectorsOfsp laws_FnExactSectorsOfbs (a0, (a1, (a2, ()))) () = laws_FnExactSectorsOf n a0 a1 a2 := by
  have h : runBody ([laws_szDiskF n, laws_toDiskF n, spec_SectorsOfF n, impl_SectorsOfF n, laws_eqInt64SF n, laws_eqDiskF n, laws_markDiskF n, laws_markInt64SF n, laws_heldInt64SF n]) ty 106 n laws_FnExactSectorsOfkp laws_FnExactSectorsOfc Go.Proofs.Try.f10.results.toList laws_FnExactSectorsOfrs laws_FnExactSectorsOfsp laws_FnExactSectorsOfbs (a0, (a1, (a2, ()))) () = laws_FnExactSectorsOf_t n a0 a1 a2 := by kernel_rfl
  rw [h]
  rfl

theorem laws_FnExactSectorsOf_ok (n : Nat) : FunOk P (laws_FnExactSectorsOfF n) :=
  funOk_mk (C := [laws_szDiskF n, laws_toDiskF n, spec_SectorsOfF n, impl_SectorsOfF n, laws_eqInt64SF n, laws_eqDiskF n, laws_markDiskF n, laws_markInt64SF n, laws_heldInt64SF n]) (N := 106) (kp := laws_FnExactSectorsOfkp) (c := laws_FnExactSectorsOfc) (n := n) (G := fun x y => laws_FnExactSectorsOf n x.1 x.2.1 x.2.2.1) follows (AllOk.mem (⟨laws_szDisk_ok n, ⟨laws_toDisk_ok n, ⟨spec_SectorsOf_ok n, ⟨impl_SectorsOf_ok n, ⟨laws_eqInt64S_ok n, ⟨laws_eqDisk_ok n, ⟨laws_markDisk_ok n, ⟨laws_markInt64S_ok n, ⟨laws_heldInt64S_ok n, trivial⟩⟩⟩⟩⟩⟩⟩⟩⟩ : AllOk P ([laws_szDiskF n, laws_toDiskF n, spec_SectorsOfF n, impl_SectorsOfF n, laws_eqInt64SF n, laws_eqDiskF n, laws_markDiskF n, laws_markInt64SF n, laws_heldInt64SF n]))) (by kernel_rfl : P.funcs[10]? = some Go.Proofs.Try.f10) (by kernel_rfl) (by kernel_rfl) (by kernel_rfl)
    (fun x y => laws_FnExactSectorsOf_eq n x.1 x.2.1 x.2.2.1) (fun _ _ => map_same (fun _ => rfl) _) (fun _ _ _ _ => rfl)

end Go.Abs
