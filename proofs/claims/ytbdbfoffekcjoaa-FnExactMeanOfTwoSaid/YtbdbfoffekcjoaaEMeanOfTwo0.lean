import Derived.Test.YtbdbfoffekcjoaaDMeanOfTwo0
import Derived.Test.YtbdbfoffekcjoaaProg
import Derived.Test.YtbdbfoffekcjoaaRow
import Derived.KernelRfl
namespace Go.Abs
open Go.Proofs
set_option maxRecDepth 100000
set_option linter.unusedVariables false

noncomputable abbrev P : Program := Try.prog
noncomputable abbrev ty : Nat → Option TyI := tyOf P
def bodyOf (f : Func) : Code := match f.body with | some c => c | none => .skip
theorem follows : P.follows .mixedOrders = true := by kernel_rfl

abbrev spec_l00Insp : List Sp := [.v false (.int .i64), .v false (.int .i64), .v false (.int .i64)]
abbrev spec_l00Inbs : List (Bs × Bool) := []
abbrev spec_l00Inrs : List (Bool × List Rp) := [(false, [.v false .bool])]
noncomputable def spec_l00Inkp : Keep := { loop := fun id => match id with | _ => [], join := fun id => match id with | _ => none }
noncomputable def spec_l00Inc : Code := bodyOf Go.Proofs.Try.f66
noncomputable def spec_l00InF (n : Nat) : Fun := { id := 66, sp := spec_l00Insp, bs := spec_l00Inbs, rs := spec_l00Inrs, f := fun x y => spec_l00In n x.1 x.2.1 x.2.2.1 }

theorem spec_l00In_eq (n : Nat) (a0 : Int) (a1 : Int) (a2 : Int) : runBody ([]) ty 15 n spec_l00Inkp spec_l00Inc Go.Proofs.Try.f66.results.toList spec_l00Inrs spec_l00Insp spec_l00Inbs (a0, (a1, (a2, ()))) () = spec_l00In n a0 a1 a2 := by
  have h : runBody ([]) ty 15 n spec_l00Inkp spec_l00Inc Go.Proofs.Try.f66.results.toList spec_l00Inrs spec_l00Insp spec_l00Inbs (a0, (a1, (a2, ()))) () = spec_l00In_t n a0 a1 a2 := by kernel_rfl
  rw [h]
  rfl

theorem spec_l00In_ok (n : Nat) : FunOk P (spec_l00InF n) :=
  funOk_mk (C := []) (N := 15) (kp := spec_l00Inkp) (c := spec_l00Inc) (n := n) (G := fun x y => spec_l00In n x.1 x.2.1 x.2.2.1) follows (AllOk.mem (trivial : AllOk P ([]))) (by kernel_rfl : P.funcs[66]? = some Go.Proofs.Try.f66) (by kernel_rfl) (by kernel_rfl) (by kernel_rfl)
    (fun x y => spec_l00In_eq n x.1 x.2.1 x.2.2.1) (fun _ _ => map_same (fun _ => rfl) _) (fun _ _ _ _ => rfl)

abbrev spec_l03Anglesp : List Sp := [.v false (.int .i64)]
abbrev spec_l03Anglebs : List (Bs × Bool) := []
abbrev spec_l03Anglers : List (Bool × List Rp) := [(false, [.v false .bool])]
noncomputable def spec_l03Anglekp : Keep := { loop := fun id => match id with | _ => [], join := fun id => match id with | _ => none }
noncomputable def spec_l03Anglec : Code := bodyOf Go.Proofs.Try.f72
noncomputable def spec_l03AngleF (n : Nat) : Fun := { id := 72, sp := spec_l03Anglesp, bs := spec_l03Anglebs, rs := spec_l03Anglers, f := fun x y => spec_l03Angle n x.1 }

theorem spec_l03Angle_eq (n : Nat) (a0 : Int) : runBody ([spec_l00InF n]) ty 5 n spec_l03Anglekp spec_l03Anglec Go.Proofs.Try.f72.results.toList spec_l03Anglers spec_l03Anglesp spec_l03Anglebs (a0, ()) () = spec_l03Angle n a0 := by
  have h : runBody ([spec_l00InF n]) ty 5 n spec_l03Anglekp spec_l03Anglec Go.Proofs.Try.f72.results.toList spec_l03Anglers spec_l03Anglesp spec_l03Anglebs (a0, ()) () = spec_l03Angle_t n a0 := by kernel_rfl
  rw [h]
  rfl

theorem spec_l03Angle_ok (n : Nat) : FunOk P (spec_l03AngleF n) :=
  funOk_mk (C := [spec_l00InF n]) (N := 5) (kp := spec_l03Anglekp) (c := spec_l03Anglec) (n := n) (G := fun x y => spec_l03Angle n x.1) follows (AllOk.mem (⟨spec_l00In_ok n, trivial⟩ : AllOk P ([spec_l00InF n]))) (by kernel_rfl : P.funcs[72]? = some Go.Proofs.Try.f72) (by kernel_rfl) (by kernel_rfl) (by kernel_rfl)
    (fun x y => spec_l03Angle_eq n x.1) (fun _ _ => map_same (fun _ => rfl) _) (fun _ _ _ _ => rfl)

abbrev spec_l03Wrapsp : List Sp := [.v false (.int .i64)]
abbrev spec_l03Wrapbs : List (Bs × Bool) := []
abbrev spec_l03Wraprs : List (Bool × List Rp) := [(false, [.v false (.int .i64)])]
noncomputable def spec_l03Wrapkp : Keep := { loop := fun id => match id with | _ => [], join := fun id => match id with | _ => none }
noncomputable def spec_l03Wrapc : Code := bodyOf Go.Proofs.Try.f75
noncomputable def spec_l03WrapF (n : Nat) : Fun := { id := 75, sp := spec_l03Wrapsp, bs := spec_l03Wrapbs, rs := spec_l03Wraprs, f := fun x y => spec_l03Wrap n x.1 }

theorem spec_l03Wrap_eq (n : Nat) (a0 : Int) : runBody ([]) ty 10 n spec_l03Wrapkp spec_l03Wrapc Go.Proofs.Try.f75.results.toList spec_l03Wraprs spec_l03Wrapsp spec_l03Wrapbs (a0, ()) () = spec_l03Wrap n a0 := by
  have h : runBody ([]) ty 10 n spec_l03Wrapkp spec_l03Wrapc Go.Proofs.Try.f75.results.toList spec_l03Wraprs spec_l03Wrapsp spec_l03Wrapbs (a0, ()) () = spec_l03Wrap_t n a0 := by kernel_rfl
  rw [h]
  rfl

theorem spec_l03Wrap_ok (n : Nat) : FunOk P (spec_l03WrapF n) :=
  funOk_mk (C := []) (N := 10) (kp := spec_l03Wrapkp) (c := spec_l03Wrapc) (n := n) (G := fun x y => spec_l03Wrap n x.1) follows (AllOk.mem (trivial : AllOk P ([]))) (by kernel_rfl : P.funcs[75]? = some Go.Proofs.Try.f75) (by kernel_rfl) (by kernel_rfl) (by kernel_rfl)
    (fun x y => spec_l03Wrap_eq n x.1) (fun _ _ => map_same (fun _ => rfl) _) (fun _ _ _ _ => rfl)

abbrev spec_l03Turnsp : List Sp := [.v false (.int .i64), .v false (.int .i64)]
abbrev spec_l03Turnbs : List (Bs × Bool) := []
abbrev spec_l03Turnrs : List (Bool × List Rp) := [(false, [.v false (.int .i64)])]
noncomputable def spec_l03Turnkp : Keep := { loop := fun id => match id with | _ => [], join := fun id => match id with | _ => none }
noncomputable def spec_l03Turnc : Code := bodyOf Go.Proofs.Try.f74
noncomputable def spec_l03TurnF (n : Nat) : Fun := { id := 74, sp := spec_l03Turnsp, bs := spec_l03Turnbs, rs := spec_l03Turnrs, f := fun x y => spec_l03Turn n x.1 x.2.1 }

theorem spec_l03Turn_eq (n : Nat) (a0 : Int) (a1 : Int) : runBody ([spec_l03WrapF n]) ty 15 n spec_l03Turnkp spec_l03Turnc Go.Proofs.Try.f74.results.toList spec_l03Turnrs spec_l03Turnsp spec_l03Turnbs (a0, (a1, ())) () = spec_l03Turn n a0 a1 := by
  have h : runBody ([spec_l03WrapF n]) ty 15 n spec_l03Turnkp spec_l03Turnc Go.Proofs.Try.f74.results.toList spec_l03Turnrs spec_l03Turnsp spec_l03Turnbs (a0, (a1, ())) () = spec_l03Turn_t n a0 a1 := by kernel_rfl
  rw [h]
  rfl

theorem spec_l03Turn_ok (n : Nat) : FunOk P (spec_l03TurnF n) :=
  funOk_mk (C := [spec_l03WrapF n]) (N := 15) (kp := spec_l03Turnkp) (c := spec_l03Turnc) (n := n) (G := fun x y => spec_l03Turn n x.1 x.2.1) follows (AllOk.mem (⟨spec_l03Wrap_ok n, trivial⟩ : AllOk P ([spec_l03WrapF n]))) (by kernel_rfl : P.funcs[74]? = some Go.Proofs.Try.f74) (by kernel_rfl) (by kernel_rfl) (by kernel_rfl)
    (fun x y => spec_l03Turn_eq n x.1 x.2.1) (fun _ _ => map_same (fun _ => rfl) _) (fun _ _ _ _ => rfl)

abbrev spec_l01Abssp : List Sp := [.v false (.int .i64)]
abbrev spec_l01Absbs : List (Bs × Bool) := []
abbrev spec_l01Absrs : List (Bool × List Rp) := [(false, [.v false (.int .i64)])]
noncomputable def spec_l01Abskp : Keep := { loop := fun id => match id with | _ => [], join := fun id => match id with | _ => none }
noncomputable def spec_l01Absc : Code := bodyOf Go.Proofs.Try.f136
noncomputable def spec_l01AbsF (n : Nat) : Fun := { id := 136, sp := spec_l01Abssp, bs := spec_l01Absbs, rs := spec_l01Absrs, f := fun x y => spec_l01Abs n x.1 }

theorem spec_l01Abs_eq (n : Nat) (a0 : Int) : runBody ([]) ty 8 n spec_l01Abskp spec_l01Absc Go.Proofs.Try.f136.results.toList spec_l01Absrs spec_l01Abssp spec_l01Absbs (a0, ()) () = spec_l01Abs n a0 := by
  have h : runBody ([]) ty 8 n spec_l01Abskp spec_l01Absc Go.Proofs.Try.f136.results.toList spec_l01Absrs spec_l01Abssp spec_l01Absbs (a0, ()) () = spec_l01Abs_t n a0 := by kernel_rfl
  rw [h]
  rfl

theorem spec_l01Abs_ok (n : Nat) : FunOk P (spec_l01AbsF n) :=
  funOk_mk (C := []) (N := 8) (kp := spec_l01Abskp) (c := spec_l01Absc) (n := n) (G := fun x y => spec_l01Abs n x.1) follows (AllOk.mem (trivial : AllOk P ([]))) (by kernel_rfl : P.funcs[136]? = some Go.Proofs.Try.f136) (by kernel_rfl) (by kernel_rfl) (by kernel_rfl)
    (fun x y => spec_l01Abs_eq n x.1) (fun _ _ => map_same (fun _ => rfl) _) (fun _ _ _ _ => rfl)

abbrev spec_l01Gcdsp : List Sp := [.v false (.int .i64), .v false (.int .i64)]
abbrev spec_l01Gcdbs : List (Bs × Bool) := []
abbrev spec_l01Gcdrs : List (Bool × List Rp) := [(false, [.v false (.int .i64)])]
noncomputable def spec_l01Gcdkp : Keep := { loop := fun id => match id with | 1 => [1, 0] | _ => [], join := fun id => match id with | _ => none }
noncomputable def spec_l01Gcdc : Code := bodyOf Go.Proofs.Try.f135
noncomputable def spec_l01GcdF (n : Nat) : Fun := { id := 135, sp := spec_l01Gcdsp, bs := spec_l01Gcdbs, rs := spec_l01Gcdrs, f := fun x y => spec_l01Gcd n x.1 x.2.1 }

theorem spec_l01Gcd_l1_eq (n : Nat) : ∀ (k : Nat) (v1 : Int) (v0 : Int), iter (interp ([]) ty 14 0 n spec_l01Gcdkp (codeAt spec_l01Gcdc [1, 0, 0, 0])) (canon 0 (spec_l01Gcdkp.loop 1)) (kAt ([]) ty 14 0 n spec_l01Gcdkp spec_l01Gcdc [1, 0, 0] [] (ending ty 0 Go.Proofs.Try.f135.results.toList spec_l01Gcdrs spec_l01Gcdbs)) k { env := [(1, .one (.sc (.int .i64 v1))), (0, .one (.sc (.int .i64 v0)))], bx := [], nx := 0 } = spec_l01Gcd_l1 n k v1 v0
  | 0, _, _ => by kernel_rfl
  | k + 1, v1, v0 => by
    have h : iter (interp ([]) ty 14 0 n spec_l01Gcdkp (codeAt spec_l01Gcdc [1, 0, 0, 0])) (canon 0 (spec_l01Gcdkp.loop 1)) (kAt ([]) ty 14 0 n spec_l01Gcdkp spec_l01Gcdc [1, 0, 0] [] (ending ty 0 Go.Proofs.Try.f135.results.toList spec_l01Gcdrs spec_l01Gcdbs)) (k + 1) { env := [(1, .one (.sc (.int .i64 v1))), (0, .one (.sc (.int .i64 v0)))], bx := [], nx := 0 } = spec_l01Gcd_t1 n (fun v1 v0 => iter (interp ([]) ty 14 0 n spec_l01Gcdkp (codeAt spec_l01Gcdc [1, 0, 0, 0])) (canon 0 (spec_l01Gcdkp.loop 1)) (kAt ([]) ty 14 0 n spec_l01Gcdkp spec_l01Gcdc [1, 0, 0] [] (ending ty 0 Go.Proofs.Try.f135.results.toList spec_l01Gcdrs spec_l01Gcdbs)) k { env := [(1, .one (.sc (.int .i64 v1))), (0, .one (.sc (.int .i64 v0)))], bx := [], nx := 0 }) v1 v0 := by kernel_rfl
    rw [h]
    have e := congrArg (fun g => spec_l01Gcd_t1 n g v1 v0) (funext fun v1 => funext fun v0 => spec_l01Gcd_l1_eq n k v1 v0)
    exact e

theorem spec_l01Gcd_eq (n : Nat) (a0 : Int) (a1 : Int) : runBody ([]) ty 14 n spec_l01Gcdkp spec_l01Gcdc Go.Proofs.Try.f135.results.toList spec_l01Gcdrs spec_l01Gcdsp spec_l01Gcdbs (a0, (a1, ())) () = spec_l01Gcd n a0 a1 := by
  have h : runBody ([]) ty 14 n spec_l01Gcdkp spec_l01Gcdc Go.Proofs.Try.f135.results.toList spec_l01Gcdrs spec_l01Gcdsp spec_l01Gcdbs (a0, (a1, ())) () = spec_l01Gcd_t n (fun k v1 v0 => iter (interp ([]) ty 14 0 n spec_l01Gcdkp (codeAt spec_l01Gcdc [1, 0, 0, 0])) (canon 0 (spec_l01Gcdkp.loop 1)) (kAt ([]) ty 14 0 n spec_l01Gcdkp spec_l01Gcdc [1, 0, 0] [] (ending ty 0 Go.Proofs.Try.f135.results.toList spec_l01Gcdrs spec_l01Gcdbs)) k { env := [(1, .one (.sc (.int .i64 v1))), (0, .one (.sc (.int .i64 v0)))], bx := [], nx := 0 }) a0 a1 := by kernel_rfl
  rw [h]
  have e := congrArg (fun h1 => spec_l01Gcd_t n h1 a0 a1) (funext fun k => funext fun v1 => funext fun v0 => spec_l01Gcd_l1_eq n k v1 v0)
  exact e

theorem spec_l01Gcd_ok (n : Nat) : FunOk P (spec_l01GcdF n) :=
  funOk_mk (C := []) (N := 14) (kp := spec_l01Gcdkp) (c := spec_l01Gcdc) (n := n) (G := fun x y => spec_l01Gcd n x.1 x.2.1) follows (AllOk.mem (trivial : AllOk P ([]))) (by kernel_rfl : P.funcs[135]? = some Go.Proofs.Try.f135) (by kernel_rfl) (by kernel_rfl) (by kernel_rfl)
    (fun x y => spec_l01Gcd_eq n x.1 x.2.1) (fun _ _ => map_same (fun _ => rfl) _) (fun _ _ _ _ => rfl)

abbrev spec_l01Oksp : List Sp := [.v true (.pair (.int .i64) (.int .i64))]
abbrev spec_l01Okbs : List (Bs × Bool) := []
abbrev spec_l01Okrs : List (Bool × List Rp) := [(false, [.v false .bool])]
noncomputable def spec_l01Okkp : Keep := { loop := fun id => match id with | _ => [], join := fun id => match id with | _ => none }
noncomputable def spec_l01Okc : Code := bodyOf Go.Proofs.Try.f137
noncomputable def spec_l01OkF (n : Nat) : Fun := { id := 137, sp := spec_l01Oksp, bs := spec_l01Okbs, rs := spec_l01Okrs, f := fun x y => spec_l01Ok n x.1 }

theorem spec_l01Ok_eq (n : Nat) (a0 : (Int) × (Int)) : runBody ([spec_l00InF n, spec_l01AbsF n, spec_l01GcdF n]) ty 20 n spec_l01Okkp spec_l01Okc Go.Proofs.Try.f137.results.toList spec_l01Okrs spec_l01Oksp spec_l01Okbs (a0, ()) () = spec_l01Ok n a0 := by
  have h : runBody ([spec_l00InF n, spec_l01AbsF n, spec_l01GcdF n]) ty 20 n spec_l01Okkp spec_l01Okc Go.Proofs.Try.f137.results.toList spec_l01Okrs spec_l01Oksp spec_l01Okbs (a0, ()) () = spec_l01Ok_t n a0 := by kernel_rfl
  rw [h]
  rfl

theorem spec_l01Ok_ok (n : Nat) : FunOk P (spec_l01OkF n) :=
  funOk_mk (C := [spec_l00InF n, spec_l01AbsF n, spec_l01GcdF n]) (N := 20) (kp := spec_l01Okkp) (c := spec_l01Okc) (n := n) (G := fun x y => spec_l01Ok n x.1) follows (AllOk.mem (⟨spec_l00In_ok n, ⟨spec_l01Abs_ok n, ⟨spec_l01Gcd_ok n, trivial⟩⟩⟩ : AllOk P ([spec_l00InF n, spec_l01AbsF n, spec_l01GcdF n]))) (by kernel_rfl : P.funcs[137]? = some Go.Proofs.Try.f137) (by kernel_rfl) (by kernel_rfl) (by kernel_rfl)
    (fun x y => spec_l01Ok_eq n x.1) (fun _ _ => map_same (fun _ => rfl) _) (fun _ _ _ _ => rfl)

abbrev spec_l01Reducedsp : List Sp := [.v false (.int .i64), .v false (.int .i64)]
abbrev spec_l01Reducedbs : List (Bs × Bool) := []
abbrev spec_l01Reducedrs : List (Bool × List Rp) := [(true, [.v false (.pair (.int .i64) (.int .i64))]), (false, [.v false (.int .i64)])]
noncomputable def spec_l01Reducedkp : Keep := { loop := fun id => match id with | _ => [], join := fun id => match id with | _ => none }
noncomputable def spec_l01Reducedc : Code := bodyOf Go.Proofs.Try.f73
noncomputable def spec_l01ReducedF (n : Nat) : Fun := { id := 73, sp := spec_l01Reducedsp, bs := spec_l01Reducedbs, rs := spec_l01Reducedrs, f := fun x y => spec_l01Reduced n x.1 x.2.1 }

theorem spec_l01Reduced_eq (n : Nat) (a0 : Int) (a1 : Int) : runBody ([spec_l01AbsF n, spec_l01GcdF n, spec_l01OkF n]) ty 33 n spec_l01Reducedkp spec_l01Reducedc Go.Proofs.Try.f73.results.toList spec_l01Reducedrs spec_l01Reducedsp spec_l01Reducedbs (a0, (a1, ())) () = spec_l01Reduced n a0 a1 := by
  have h : runBody ([spec_l01AbsF n, spec_l01GcdF n, spec_l01OkF n]) ty 33 n spec_l01Reducedkp spec_l01Reducedc Go.Proofs.Try.f73.results.toList spec_l01Reducedrs spec_l01Reducedsp spec_l01Reducedbs (a0, (a1, ())) () = spec_l01Reduced_t n a0 a1 := by kernel_rfl
  rw [h]
  rfl

theorem spec_l01Reduced_ok (n : Nat) : FunOk P (spec_l01ReducedF n) :=
  funOk_mk (C := [spec_l01AbsF n, spec_l01GcdF n, spec_l01OkF n]) (N := 33) (kp := spec_l01Reducedkp) (c := spec_l01Reducedc) (n := n) (G := fun x y => spec_l01Reduced n x.1 x.2.1) follows (AllOk.mem (⟨spec_l01Abs_ok n, ⟨spec_l01Gcd_ok n, ⟨spec_l01Ok_ok n, trivial⟩⟩⟩ : AllOk P ([spec_l01AbsF n, spec_l01GcdF n, spec_l01OkF n]))) (by kernel_rfl : P.funcs[73]? = some Go.Proofs.Try.f73) (by kernel_rfl) (by kernel_rfl) (by kernel_rfl)
    (fun x y => spec_l01Reduced_eq n x.1 x.2.1) (fun _ _ => map_same (fun _ => rfl) _) (fun _ _ _ _ => rfl)

abbrev spec_MeanOfTwosp : List Sp := [.v false (.int .i64), .v false (.int .i64)]
abbrev spec_MeanOfTwobs : List (Bs × Bool) := []
abbrev spec_MeanOfTwors : List (Bool × List Rp) := [(true, [.v false (.pair (.int .i64) (.int .i64))]), (false, [.v false (.int .i64)])]
noncomputable def spec_MeanOfTwokp : Keep := { loop := fun id => match id with | _ => [], join := fun id => match id with | _ => none }
noncomputable def spec_MeanOfTwoc : Code := bodyOf Go.Proofs.Try.f21
noncomputable def spec_MeanOfTwoF (n : Nat) : Fun := { id := 21, sp := spec_MeanOfTwosp, bs := spec_MeanOfTwobs, rs := spec_MeanOfTwors, f := fun x y => spec_MeanOfTwo n x.1 x.2.1 }

theorem spec_MeanOfTwo_eq (n : Nat) (a0 : Int) (a1 : Int) : runBody ([spec_l03AngleF n, spec_l03WrapF n, spec_l03TurnF n, spec_l01ReducedF n]) ty 26 n spec_MeanOfTwokp spec_MeanOfTwoc Go.Proofs.Try.f21.results.toList spec_MeanOfTwors spec_MeanOfTwosp spec_MeanOfTwobs (a0, (a1, ())) () = spec_MeanOfTwo n a0 a1 := by
  have h : runBody ([spec_l03AngleF n, spec_l03WrapF n, spec_l03TurnF n, spec_l01ReducedF n]) ty 26 n spec_MeanOfTwokp spec_MeanOfTwoc Go.Proofs.Try.f21.results.toList spec_MeanOfTwors spec_MeanOfTwosp spec_MeanOfTwobs (a0, (a1, ())) () = spec_MeanOfTwo_t n a0 a1 := by kernel_rfl
  rw [h]
  rfl

theorem spec_MeanOfTwo_ok (n : Nat) : FunOk P (spec_MeanOfTwoF n) :=
  funOk_mk (C := [spec_l03AngleF n, spec_l03WrapF n, spec_l03TurnF n, spec_l01ReducedF n]) (N := 26) (kp := spec_MeanOfTwokp) (c := spec_MeanOfTwoc) (n := n) (G := fun x y => spec_MeanOfTwo n x.1 x.2.1) follows (AllOk.mem (⟨spec_l03Angle_ok n, ⟨spec_l03Wrap_ok n, ⟨spec_l03Turn_ok n, ⟨spec_l01Reduced_ok n, trivial⟩⟩⟩⟩ : AllOk P ([spec_l03AngleF n, spec_l03WrapF n, spec_l03TurnF n, spec_l01ReducedF n]))) (by kernel_rfl : P.funcs[21]? = some Go.Proofs.Try.f21) (by kernel_rfl) (by kernel_rfl) (by kernel_rfl)
    (fun x y => spec_MeanOfTwo_eq n x.1 x.2.1) (fun _ _ => map_same (fun _ => rfl) _) (fun _ _ _ _ => rfl)

abbrev impl_withinsp : List Sp := [.v false (.int .i64), .v false (.int .i64), .v false (.int .i64)]
abbrev impl_withinbs : List (Bs × Bool) := []
abbrev impl_withinrs : List (Bool × List Rp) := [(false, [.v false .bool])]
noncomputable def impl_withinkp : Keep := { loop := fun id => match id with | _ => [], join := fun id => match id with | _ => none }
noncomputable def impl_withinc : Code := bodyOf Go.Proofs.Try.f70
noncomputable def impl_withinF (n : Nat) : Fun := { id := 70, sp := impl_withinsp, bs := impl_withinbs, rs := impl_withinrs, f := fun x y => impl_within n x.1 x.2.1 x.2.2.1 }

theorem impl_within_eq (n : Nat) (a0 : Int) (a1 : Int) (a2 : Int) : runBody ([]) ty 15 n impl_withinkp impl_withinc Go.Proofs.Try.f70.results.toList impl_withinrs impl_withinsp impl_withinbs (a0, (a1, (a2, ()))) () = impl_within n a0 a1 a2 := by
  have h : runBody ([]) ty 15 n impl_withinkp impl_withinc Go.Proofs.Try.f70.results.toList impl_withinrs impl_withinsp impl_withinbs (a0, (a1, (a2, ()))) () = impl_within_t n a0 a1 a2 := by kernel_rfl
  rw [h]
  rfl

theorem impl_within_ok (n : Nat) : FunOk P (impl_withinF n) :=
  funOk_mk (C := []) (N := 15) (kp := impl_withinkp) (c := impl_withinc) (n := n) (G := fun x y => impl_within n x.1 x.2.1 x.2.2.1) follows (AllOk.mem (trivial : AllOk P ([]))) (by kernel_rfl : P.funcs[70]? = some Go.Proofs.Try.f70) (by kernel_rfl) (by kernel_rfl) (by kernel_rfl)
    (fun x y => impl_within_eq n x.1 x.2.1 x.2.2.1) (fun _ _ => map_same (fun _ => rfl) _) (fun _ _ _ _ => rfl)

abbrev impl_isAnglesp : List Sp := [.v false (.int .i64)]
abbrev impl_isAnglebs : List (Bs × Bool) := []
abbrev impl_isAnglers : List (Bool × List Rp) := [(false, [.v false .bool])]
noncomputable def impl_isAnglekp : Keep := { loop := fun id => match id with | _ => [], join := fun id => match id with | _ => none }
noncomputable def impl_isAnglec : Code := bodyOf Go.Proofs.Try.f76
noncomputable def impl_isAngleF (n : Nat) : Fun := { id := 76, sp := impl_isAnglesp, bs := impl_isAnglebs, rs := impl_isAnglers, f := fun x y => impl_isAngle n x.1 }

theorem impl_isAngle_eq (n : Nat) (a0 : Int) : runBody ([impl_withinF n]) ty 5 n impl_isAnglekp impl_isAnglec Go.Proofs.Try.f76.results.toList impl_isAnglers impl_isAnglesp impl_isAnglebs (a0, ()) () = impl_isAngle n a0 := by
  have h : runBody ([impl_withinF n]) ty 5 n impl_isAnglekp impl_isAnglec Go.Proofs.Try.f76.results.toList impl_isAnglers impl_isAnglesp impl_isAnglebs (a0, ()) () = impl_isAngle_t n a0 := by kernel_rfl
  rw [h]
  rfl

theorem impl_isAngle_ok (n : Nat) : FunOk P (impl_isAngleF n) :=
  funOk_mk (C := [impl_withinF n]) (N := 5) (kp := impl_isAnglekp) (c := impl_isAnglec) (n := n) (G := fun x y => impl_isAngle n x.1) follows (AllOk.mem (⟨impl_within_ok n, trivial⟩ : AllOk P ([impl_withinF n]))) (by kernel_rfl : P.funcs[76]? = some Go.Proofs.Try.f76) (by kernel_rfl) (by kernel_rfl) (by kernel_rfl)
    (fun x y => impl_isAngle_eq n x.1) (fun _ _ => map_same (fun _ => rfl) _) (fun _ _ _ _ => rfl)

abbrev impl_wrapsp : List Sp := [.v false (.int .i64)]
abbrev impl_wrapbs : List (Bs × Bool) := []
abbrev impl_wraprs : List (Bool × List Rp) := [(false, [.v false (.int .i64)])]
noncomputable def impl_wrapkp : Keep := { loop := fun id => match id with | _ => [], join := fun id => match id with | _ => none }
noncomputable def impl_wrapc : Code := bodyOf Go.Proofs.Try.f80
noncomputable def impl_wrapF (n : Nat) : Fun := { id := 80, sp := impl_wrapsp, bs := impl_wrapbs, rs := impl_wraprs, f := fun x y => impl_wrap n x.1 }

theorem impl_wrap_eq (n : Nat) (a0 : Int) : runBody ([]) ty 7 n impl_wrapkp impl_wrapc Go.Proofs.Try.f80.results.toList impl_wraprs impl_wrapsp impl_wrapbs (a0, ()) () = impl_wrap n a0 := by
  have h : runBody ([]) ty 7 n impl_wrapkp impl_wrapc Go.Proofs.Try.f80.results.toList impl_wraprs impl_wrapsp impl_wrapbs (a0, ()) () = impl_wrap_t n a0 := by kernel_rfl
  rw [h]
  rfl

theorem impl_wrap_ok (n : Nat) : FunOk P (impl_wrapF n) :=
  funOk_mk (C := []) (N := 7) (kp := impl_wrapkp) (c := impl_wrapc) (n := n) (G := fun x y => impl_wrap n x.1) follows (AllOk.mem (trivial : AllOk P ([]))) (by kernel_rfl : P.funcs[80]? = some Go.Proofs.Try.f80) (by kernel_rfl) (by kernel_rfl) (by kernel_rfl)
    (fun x y => impl_wrap_eq n x.1) (fun _ _ => map_same (fun _ => rfl) _) (fun _ _ _ _ => rfl)

abbrev impl_turnFromsp : List Sp := [.v false (.int .i64), .v false (.int .i64)]
abbrev impl_turnFrombs : List (Bs × Bool) := []
abbrev impl_turnFromrs : List (Bool × List Rp) := [(false, [.v false (.int .i64)])]
noncomputable def impl_turnFromkp : Keep := { loop := fun id => match id with | _ => [], join := fun id => match id with | _ => none }
noncomputable def impl_turnFromc : Code := bodyOf Go.Proofs.Try.f79
noncomputable def impl_turnFromF (n : Nat) : Fun := { id := 79, sp := impl_turnFromsp, bs := impl_turnFrombs, rs := impl_turnFromrs, f := fun x y => impl_turnFrom n x.1 x.2.1 }

theorem impl_turnFrom_eq (n : Nat) (a0 : Int) (a1 : Int) : runBody ([impl_wrapF n]) ty 15 n impl_turnFromkp impl_turnFromc Go.Proofs.Try.f79.results.toList impl_turnFromrs impl_turnFromsp impl_turnFrombs (a0, (a1, ())) () = impl_turnFrom n a0 a1 := by
  have h : runBody ([impl_wrapF n]) ty 15 n impl_turnFromkp impl_turnFromc Go.Proofs.Try.f79.results.toList impl_turnFromrs impl_turnFromsp impl_turnFrombs (a0, (a1, ())) () = impl_turnFrom_t n a0 a1 := by kernel_rfl
  rw [h]
  rfl

theorem impl_turnFrom_ok (n : Nat) : FunOk P (impl_turnFromF n) :=
  funOk_mk (C := [impl_wrapF n]) (N := 15) (kp := impl_turnFromkp) (c := impl_turnFromc) (n := n) (G := fun x y => impl_turnFrom n x.1 x.2.1) follows (AllOk.mem (⟨impl_wrap_ok n, trivial⟩ : AllOk P ([impl_wrapF n]))) (by kernel_rfl : P.funcs[79]? = some Go.Proofs.Try.f79) (by kernel_rfl) (by kernel_rfl) (by kernel_rfl)
    (fun x y => impl_turnFrom_eq n x.1 x.2.1) (fun _ _ => map_same (fun _ => rfl) _) (fun _ _ _ _ => rfl)

abbrev impl_gcdsp : List Sp := [.v false (.int .i64), .v false (.int .i64)]
abbrev impl_gcdbs : List (Bs × Bool) := []
abbrev impl_gcdrs : List (Bool × List Rp) := [(false, [.v false (.int .i64)])]
noncomputable def impl_gcdkp : Keep := { loop := fun id => match id with | 1 => [1, 0] | _ => [], join := fun id => match id with | _ => none }
noncomputable def impl_gcdc : Code := bodyOf Go.Proofs.Try.f147
noncomputable def impl_gcdF (n : Nat) : Fun := { id := 147, sp := impl_gcdsp, bs := impl_gcdbs, rs := impl_gcdrs, f := fun x y => impl_gcd n x.1 x.2.1 }

theorem impl_gcd_l1_eq (n : Nat) : ∀ (k : Nat) (v1 : Int) (v0 : Int), iter (interp ([]) ty 15 0 n impl_gcdkp (codeAt impl_gcdc [1, 0, 0, 0])) (canon 0 (impl_gcdkp.loop 1)) (kAt ([]) ty 15 0 n impl_gcdkp impl_gcdc [1, 0, 0] [] (ending ty 0 Go.Proofs.Try.f147.results.toList impl_gcdrs impl_gcdbs)) k { env := [(1, .one (.sc (.int .i64 v1))), (0, .one (.sc (.int .i64 v0)))], bx := [], nx := 0 } = impl_gcd_l1 n k v1 v0
  | 0, _, _ => by kernel_rfl
  | k + 1, v1, v0 => by
    have h : iter (interp ([]) ty 15 0 n impl_gcdkp (codeAt impl_gcdc [1, 0, 0, 0])) (canon 0 (impl_gcdkp.loop 1)) (kAt ([]) ty 15 0 n impl_gcdkp impl_gcdc [1, 0, 0] [] (ending ty 0 Go.Proofs.Try.f147.results.toList impl_gcdrs impl_gcdbs)) (k + 1) { env := [(1, .one (.sc (.int .i64 v1))), (0, .one (.sc (.int .i64 v0)))], bx := [], nx := 0 } = impl_gcd_t1 n (fun v1 v0 => iter (interp ([]) ty 15 0 n impl_gcdkp (codeAt impl_gcdc [1, 0, 0, 0])) (canon 0 (impl_gcdkp.loop 1)) (kAt ([]) ty 15 0 n impl_gcdkp impl_gcdc [1, 0, 0] [] (ending ty 0 Go.Proofs.Try.f147.results.toList impl_gcdrs impl_gcdbs)) k { env := [(1, .one (.sc (.int .i64 v1))), (0, .one (.sc (.int .i64 v0)))], bx := [], nx := 0 }) v1 v0 := by kernel_rfl
    rw [h]
    have e := congrArg (fun g => impl_gcd_t1 n g v1 v0) (funext fun v1 => funext fun v0 => impl_gcd_l1_eq n k v1 v0)
    exact e

theorem impl_gcd_eq (n : Nat) (a0 : Int) (a1 : Int) : runBody ([]) ty 15 n impl_gcdkp impl_gcdc Go.Proofs.Try.f147.results.toList impl_gcdrs impl_gcdsp impl_gcdbs (a0, (a1, ())) () = impl_gcd n a0 a1 := by
  have h : runBody ([]) ty 15 n impl_gcdkp impl_gcdc Go.Proofs.Try.f147.results.toList impl_gcdrs impl_gcdsp impl_gcdbs (a0, (a1, ())) () = impl_gcd_t n (fun k v1 v0 => iter (interp ([]) ty 15 0 n impl_gcdkp (codeAt impl_gcdc [1, 0, 0, 0])) (canon 0 (impl_gcdkp.loop 1)) (kAt ([]) ty 15 0 n impl_gcdkp impl_gcdc [1, 0, 0] [] (ending ty 0 Go.Proofs.Try.f147.results.toList impl_gcdrs impl_gcdbs)) k { env := [(1, .one (.sc (.int .i64 v1))), (0, .one (.sc (.int .i64 v0)))], bx := [], nx := 0 }) a0 a1 := by kernel_rfl
  rw [h]
  have e := congrArg (fun h1 => impl_gcd_t n h1 a0 a1) (funext fun k => funext fun v1 => funext fun v0 => impl_gcd_l1_eq n k v1 v0)
  exact e

theorem impl_gcd_ok (n : Nat) : FunOk P (impl_gcdF n) :=
  funOk_mk (C := []) (N := 15) (kp := impl_gcdkp) (c := impl_gcdc) (n := n) (G := fun x y => impl_gcd n x.1 x.2.1) follows (AllOk.mem (trivial : AllOk P ([]))) (by kernel_rfl : P.funcs[147]? = some Go.Proofs.Try.f147) (by kernel_rfl) (by kernel_rfl) (by kernel_rfl)
    (fun x y => impl_gcd_eq n x.1 x.2.1) (fun _ _ => map_same (fun _ => rfl) _) (fun _ _ _ _ => rfl)

abbrev impl_ValidFracsp : List Sp := [.v true (.pair (.int .i64) (.int .i64))]
abbrev impl_ValidFracbs : List (Bs × Bool) := []
abbrev impl_ValidFracrs : List (Bool × List Rp) := [(false, [.v false .bool])]
noncomputable def impl_ValidFrackp : Keep := { loop := fun id => match id with | _ => [], join := fun id => match id with | _ => none }
noncomputable def impl_ValidFracc : Code := bodyOf Go.Proofs.Try.f94
noncomputable def impl_ValidFracF (n : Nat) : Fun := { id := 94, sp := impl_ValidFracsp, bs := impl_ValidFracbs, rs := impl_ValidFracrs, f := fun x y => impl_ValidFrac n x.1 }

theorem impl_ValidFrac_eq (n : Nat) (a0 : (Int) × (Int)) : runBody ([impl_withinF n, impl_gcdF n]) ty 19 n impl_ValidFrackp impl_ValidFracc Go.Proofs.Try.f94.results.toList impl_ValidFracrs impl_ValidFracsp impl_ValidFracbs (a0, ()) () = impl_ValidFrac n a0 := by
  have h : runBody ([impl_withinF n, impl_gcdF n]) ty 19 n impl_ValidFrackp impl_ValidFracc Go.Proofs.Try.f94.results.toList impl_ValidFracrs impl_ValidFracsp impl_ValidFracbs (a0, ()) () = impl_ValidFrac_t n a0 := by kernel_rfl
  rw [h]
  rfl

theorem impl_ValidFrac_ok (n : Nat) : FunOk P (impl_ValidFracF n) :=
  funOk_mk (C := [impl_withinF n, impl_gcdF n]) (N := 19) (kp := impl_ValidFrackp) (c := impl_ValidFracc) (n := n) (G := fun x y => impl_ValidFrac n x.1) follows (AllOk.mem (⟨impl_within_ok n, ⟨impl_gcd_ok n, trivial⟩⟩ : AllOk P ([impl_withinF n, impl_gcdF n]))) (by kernel_rfl : P.funcs[94]? = some Go.Proofs.Try.f94) (by kernel_rfl) (by kernel_rfl) (by kernel_rfl)
    (fun x y => impl_ValidFrac_eq n x.1) (fun _ _ => map_same (fun _ => rfl) _) (fun _ _ _ _ => rfl)

abbrev impl_fracOfsp : List Sp := [.v false (.int .i64), .v false (.int .i64)]
abbrev impl_fracOfbs : List (Bs × Bool) := []
abbrev impl_fracOfrs : List (Bool × List Rp) := [(true, [.v false (.pair (.int .i64) (.int .i64))]), (false, [.v false .bool])]
noncomputable def impl_fracOfkp : Keep := { loop := fun id => match id with | _ => [], join := fun id => match id with | _ => none }
noncomputable def impl_fracOfc : Code := bodyOf Go.Proofs.Try.f138
noncomputable def impl_fracOfF (n : Nat) : Fun := { id := 138, sp := impl_fracOfsp, bs := impl_fracOfbs, rs := impl_fracOfrs, f := fun x y => impl_fracOf n x.1 x.2.1 }

theorem impl_fracOf_eq (n : Nat) (a0 : Int) (a1 : Int) : runBody ([impl_gcdF n, impl_ValidFracF n]) ty 29 n impl_fracOfkp impl_fracOfc Go.Proofs.Try.f138.results.toList impl_fracOfrs impl_fracOfsp impl_fracOfbs (a0, (a1, ())) () = impl_fracOf n a0 a1 := by
  have h : runBody ([impl_gcdF n, impl_ValidFracF n]) ty 29 n impl_fracOfkp impl_fracOfc Go.Proofs.Try.f138.results.toList impl_fracOfrs impl_fracOfsp impl_fracOfbs (a0, (a1, ())) () = impl_fracOf_t n a0 a1 := by kernel_rfl
  rw [h]
  rfl

theorem impl_fracOf_ok (n : Nat) : FunOk P (impl_fracOfF n) :=
  funOk_mk (C := [impl_gcdF n, impl_ValidFracF n]) (N := 29) (kp := impl_fracOfkp) (c := impl_fracOfc) (n := n) (G := fun x y => impl_fracOf n x.1 x.2.1) follows (AllOk.mem (⟨impl_gcd_ok n, ⟨impl_ValidFrac_ok n, trivial⟩⟩ : AllOk P ([impl_gcdF n, impl_ValidFracF n]))) (by kernel_rfl : P.funcs[138]? = some Go.Proofs.Try.f138) (by kernel_rfl) (by kernel_rfl) (by kernel_rfl)
    (fun x y => impl_fracOf_eq n x.1 x.2.1) (fun _ _ => map_same (fun _ => rfl) _) (fun _ _ _ _ => rfl)

abbrev impl_zerosp : List Sp := []
abbrev impl_zerobs : List (Bs × Bool) := []
abbrev impl_zerors : List (Bool × List Rp) := [(true, [.v false (.pair (.int .i64) (.int .i64))])]
noncomputable def impl_zerokp : Keep := { loop := fun id => match id with | _ => [], join := fun id => match id with | _ => none }
noncomputable def impl_zeroc : Code := bodyOf Go.Proofs.Try.f139
noncomputable def impl_zeroF (n : Nat) : Fun := { id := 139, sp := impl_zerosp, bs := impl_zerobs, rs := impl_zerors, f := fun x y => impl_zero n }

theorem impl_zero_eq (n : Nat) : runBody ([]) ty 2 n impl_zerokp impl_zeroc Go.Proofs.Try.f139.results.toList impl_zerors impl_zerosp impl_zerobs () () = impl_zero n := by
  have h : runBody ([]) ty 2 n impl_zerokp impl_zeroc Go.Proofs.Try.f139.results.toList impl_zerors impl_zerosp impl_zerobs () () = impl_zero_t n := by kernel_rfl
  rw [h]
  rfl

theorem impl_zero_ok (n : Nat) : FunOk P (impl_zeroF n) :=
  funOk_mk (C := []) (N := 2) (kp := impl_zerokp) (c := impl_zeroc) (n := n) (G := fun x y => impl_zero n) follows (AllOk.mem (trivial : AllOk P ([]))) (by kernel_rfl : P.funcs[139]? = some Go.Proofs.Try.f139) (by kernel_rfl) (by kernel_rfl) (by kernel_rfl)
    (fun x y => impl_zero_eq n) (fun _ _ => map_same (fun _ => rfl) _) (fun _ _ _ _ => rfl)

abbrev impl_calc_toldsp : List Sp := [.ref 0, .v false (.int .i64), .v false (.int .i64)]
abbrev impl_calc_toldbs : List (Bs × Bool) := [(.var 99 .bool, true)]
abbrev impl_calc_toldrs : List (Bool × List Rp) := [(true, [.v false (.pair (.int .i64) (.int .i64))])]
noncomputable def impl_calc_toldkp : Keep := { loop := fun id => match id with | _ => [], join := fun id => match id with | _ => none }
noncomputable def impl_calc_toldc : Code := bodyOf Go.Proofs.Try.f78
noncomputable def impl_calc_toldF (n : Nat) : Fun := { id := 78, sp := impl_calc_toldsp, bs := impl_calc_toldbs, rs := impl_calc_toldrs, f := fun x y => impl_calc_told n x.2.1 x.2.2.1 y.1 }

theorem impl_calc_told_eq (n : Nat) (a1 : Int) (a2 : Int) (b0 : Bool) : runBody ([impl_fracOfF n, impl_zeroF n]) ty 22 n impl_calc_toldkp impl_calc_toldc Go.Proofs.Try.f78.results.toList impl_calc_toldrs impl_calc_toldsp impl_calc_toldbs ((), (a1, (a2, ()))) (b0, ()) = impl_calc_told n a1 a2 b0 := by
  have h : runBody ([impl_fracOfF n, impl_zeroF n]) ty 22 n impl_calc_toldkp impl_calc_toldc Go.Proofs.Try.f78.results.toList impl_calc_toldrs impl_calc_toldsp impl_calc_toldbs ((), (a1, (a2, ()))) (b0, ()) = impl_calc_told_t n a1 a2 b0 := by kernel_rfl
  rw [h]
  rfl

theorem impl_calc_told_ok (n : Nat) : FunOk P (impl_calc_toldF n) :=
  funOk_mk (C := [impl_fracOfF n, impl_zeroF n]) (N := 22) (kp := impl_calc_toldkp) (c := impl_calc_toldc) (n := n) (G := fun x y => impl_calc_told n x.2.1 x.2.2.1 y.1) follows (AllOk.mem (⟨impl_fracOf_ok n, ⟨impl_zero_ok n, trivial⟩⟩ : AllOk P ([impl_fracOfF n, impl_zeroF n]))) (by kernel_rfl : P.funcs[78]? = some Go.Proofs.Try.f78) (by kernel_rfl) (by kernel_rfl) (by kernel_rfl)
    (fun x y => impl_calc_told_eq n x.2.1 x.2.2.1 y.1) (fun _ _ => map_same (fun _ => rfl) _) (fun _ _ _ _ => rfl)

abbrev impl_calc_onesp : List Sp := [.ref 0, .v true (.pair (.int .i64) (.int .i64))]
abbrev impl_calc_onebs : List (Bs × Bool) := [(.var 99 .bool, true)]
abbrev impl_calc_oners : List (Bool × List Rp) := [(true, [.v false (.pair (.int .i64) (.int .i64))]), (false, [.v false (.int .i64)])]
noncomputable def impl_calc_onekp : Keep := { loop := fun id => match id with | _ => [], join := fun id => match id with | _ => none }
noncomputable def impl_calc_onec : Code := bodyOf Go.Proofs.Try.f77
noncomputable def impl_calc_oneF (n : Nat) : Fun := { id := 77, sp := impl_calc_onesp, bs := impl_calc_onebs, rs := impl_calc_oners, f := fun x y => impl_calc_one n x.2.1 y.1 }

theorem impl_calc_one_eq (n : Nat) (a1 : (Int) × (Int)) (b0 : Bool) : runBody ([]) ty 12 n impl_calc_onekp impl_calc_onec Go.Proofs.Try.f77.results.toList impl_calc_oners impl_calc_onesp impl_calc_onebs ((), (a1, ())) (b0, ()) = impl_calc_one n a1 b0 := by
  have h : runBody ([]) ty 12 n impl_calc_onekp impl_calc_onec Go.Proofs.Try.f77.results.toList impl_calc_oners impl_calc_onesp impl_calc_onebs ((), (a1, ())) (b0, ()) = impl_calc_one_t n a1 b0 := by kernel_rfl
  rw [h]
  rfl

theorem impl_calc_one_ok (n : Nat) : FunOk P (impl_calc_oneF n) :=
  funOk_mk (C := []) (N := 12) (kp := impl_calc_onekp) (c := impl_calc_onec) (n := n) (G := fun x y => impl_calc_one n x.2.1 y.1) follows (AllOk.mem (trivial : AllOk P ([]))) (by kernel_rfl : P.funcs[77]? = some Go.Proofs.Try.f77) (by kernel_rfl) (by kernel_rfl) (by kernel_rfl)
    (fun x y => impl_calc_one_eq n x.2.1 y.1) (fun _ _ => map_same (fun _ => rfl) _) (fun _ _ _ _ => rfl)

abbrev impl_MeanOfTwosp : List Sp := [.v false (.int .i64), .v false (.int .i64)]
abbrev impl_MeanOfTwobs : List (Bs × Bool) := []
abbrev impl_MeanOfTwors : List (Bool × List Rp) := [(true, [.v false (.pair (.int .i64) (.int .i64))]), (false, [.v false (.int .i64)])]
noncomputable def impl_MeanOfTwokp : Keep := { loop := fun id => match id with | _ => [], join := fun id => match id with | _ => none }
noncomputable def impl_MeanOfTwoc : Code := bodyOf Go.Proofs.Try.f22
noncomputable def impl_MeanOfTwoF (n : Nat) : Fun := { id := 22, sp := impl_MeanOfTwosp, bs := impl_MeanOfTwobs, rs := impl_MeanOfTwors, f := fun x y => impl_MeanOfTwo n x.1 x.2.1 }

theorem impl_MeanOfTwo_eq (n : Nat) (a0 : Int) (a1 : Int) : runBody ([impl_isAngleF n, impl_wrapF n, impl_turnFromF n, impl_calc_toldF n, impl_calc_oneF n]) ty 32 n impl_MeanOfTwokp impl_MeanOfTwoc Go.Proofs.Try.f22.results.toList impl_MeanOfTwors impl_MeanOfTwosp impl_MeanOfTwobs (a0, (a1, ())) () = impl_MeanOfTwo n a0 a1 := by
  have h : runBody ([impl_isAngleF n, impl_wrapF n, impl_turnFromF n, impl_calc_toldF n, impl_calc_oneF n]) ty 32 n impl_MeanOfTwokp impl_MeanOfTwoc Go.Proofs.Try.f22.results.toList impl_MeanOfTwors impl_MeanOfTwosp impl_MeanOfTwobs (a0, (a1, ())) () = impl_MeanOfTwo_t n a0 a1 := by kernel_rfl
  rw [h]
  rfl

theorem impl_MeanOfTwo_ok (n : Nat) : FunOk P (impl_MeanOfTwoF n) :=
  funOk_mk (C := [impl_isAngleF n, impl_wrapF n, impl_turnFromF n, impl_calc_toldF n, impl_calc_oneF n]) (N := 32) (kp := impl_MeanOfTwokp) (c := impl_MeanOfTwoc) (n := n) (G := fun x y => impl_MeanOfTwo n x.1 x.2.1) follows (AllOk.mem (⟨impl_isAngle_ok n, ⟨impl_wrap_ok n, ⟨impl_turnFrom_ok n, ⟨impl_calc_told_ok n, ⟨impl_calc_one_ok n, trivial⟩⟩⟩⟩⟩ : AllOk P ([impl_isAngleF n, impl_wrapF n, impl_turnFromF n, impl_calc_toldF n, impl_calc_oneF n]))) (by kernel_rfl : P.funcs[22]? = some Go.Proofs.Try.f22) (by kernel_rfl) (by kernel_rfl) (by kernel_rfl)
    (fun x y => impl_MeanOfTwo_eq n x.1 x.2.1) (fun _ _ => map_same (fun _ => rfl) _) (fun _ _ _ _ => rfl)

abbrev laws_eqFracsp : List Sp := [.v true (.pair (.int .i64) (.int .i64)), .v true (.pair (.int .i64) (.int .i64))]
abbrev laws_eqFracbs : List (Bs × Bool) := []
abbrev laws_eqFracrs : List (Bool × List Rp) := [(false, [.v false .bool])]
noncomputable def laws_eqFrackp : Keep := { loop := fun id => match id with | _ => [], join := fun id => match id with | _ => none }
noncomputable def laws_eqFracc : Code := bodyOf Go.Proofs.Try.f23
noncomputable def laws_eqFracF (n : Nat) : Fun := { id := 23, sp := laws_eqFracsp, bs := laws_eqFracbs, rs := laws_eqFracrs, f := fun x y => laws_eqFrac n x.1 x.2.1 }

theorem laws_eqFrac_eq (n : Nat) (a0 : (Int) × (Int)) (a1 : (Int) × (Int)) : runBody ([]) ty 15 n laws_eqFrackp laws_eqFracc Go.Proofs.Try.f23.results.toList laws_eqFracrs laws_eqFracsp laws_eqFracbs (a0, (a1, ())) () = laws_eqFrac n a0 a1 := by
  have h : runBody ([]) ty 15 n laws_eqFrackp laws_eqFracc Go.Proofs.Try.f23.results.toList laws_eqFracrs laws_eqFracsp laws_eqFracbs (a0, (a1, ())) () = laws_eqFrac_t n a0 a1 := by kernel_rfl
  rw [h]
  rfl

theorem laws_eqFrac_ok (n : Nat) : FunOk P (laws_eqFracF n) :=
  funOk_mk (C := []) (N := 15) (kp := laws_eqFrackp) (c := laws_eqFracc) (n := n) (G := fun x y => laws_eqFrac n x.1 x.2.1) follows (AllOk.mem (trivial : AllOk P ([]))) (by kernel_rfl : P.funcs[23]? = some Go.Proofs.Try.f23) (by kernel_rfl) (by kernel_rfl) (by kernel_rfl)
    (fun x y => laws_eqFrac_eq n x.1 x.2.1) (fun _ _ => map_same (fun _ => rfl) _) (fun _ _ _ _ => rfl)

abbrev laws_FnExactMeanOfTwosp : List Sp := [.v false (.int .i64), .v false (.int .i64)]
abbrev laws_FnExactMeanOfTwobs : List (Bs × Bool) := []
abbrev laws_FnExactMeanOfTwors : List (Bool × List Rp) := [(false, [.v false .bool])]
noncomputable def laws_FnExactMeanOfTwokp : Keep := { loop := fun id => match id with | _ => [], join := fun id => match id with | _ => none }
noncomputable def laws_FnExactMeanOfTwoc : Code := bodyOf Go.Proofs.Try.f4
noncomputable def laws_FnExactMeanOfTwoF (n : Nat) : Fun := { id := 4, sp := laws_FnExactMeanOfTwosp, bs := laws_FnExactMeanOfTwobs, rs := laws_FnExactMeanOfTwors, f := fun x y => laws_FnExactMeanOfTwo n x.1 x.2.1 }

theorem laws_FnExactMeanOfTwo_eq (n : Nat) (a0 : Int) (a1 : Int) : runBody ([spec_MeanOfTwoF n, impl_MeanOfTwoF n, laws_eqFracF n]) ty 30 n laws_FnExactMeanOfTwokp laws_FnExactMeanOfTwoc Go.Proofs.Try.f4.results.toList laws_FnExactMeanOfTwors laws_FnExactMeanOfTwosp laws_FnExactMeanOfTwobs (a0, (a1, ())) () = laws_FnExactMeanOfTwo n a0 a1 := by
  have h : runBody ([spec_MeanOfTwoF n, impl_MeanOfTwoF n, laws_eqFracF n]) ty 30 n laws_FnExactMeanOfTwokp laws_FnExactMeanOfTwoc Go.Proofs.Try.f4.results.toList laws_FnExactMeanOfTwors laws_FnExactMeanOfTwosp laws_FnExactMeanOfTwobs (a0, (a1, ())) () = laws_FnExactMeanOfTwo_t n a0 a1 := by kernel_rfl
  rw [h]
  rfl

theorem laws_FnExactMeanOfTwo_ok (n : Nat) : FunOk P (laws_FnExactMeanOfTwoF n) :=
  funOk_mk (C := [spec_MeanOfTwoF n, impl_MeanOfTwoF n, laws_eqFracF n]) (N := 30) (kp := laws_FnExactMeanOfTwokp) (c := laws_FnExactMeanOfTwoc) (n := n) (G := fun x y => laws_FnExactMeanOfTwo n x.1 x.2.1) follows (AllOk.mem (⟨spec_MeanOfTwo_ok n, ⟨impl_MeanOfTwo_ok n, ⟨laws_eqFrac_ok n, trivial⟩⟩⟩ : AllOk P ([spec_MeanOfTwoF n, impl_MeanOfTwoF n, laws_eqFracF n]))) (by kernel_rfl : P.funcs[4]? = some Go.Proofs.Try.f4) (by kernel_rfl) (by kernel_rfl) (by kernel_rfl)
    (fun x y => laws_FnExactMeanOfTwo_eq n x.1 x.2.1) (fun _ _ => map_same (fun _ => rfl) _) (fun _ _ _ _ => rfl)

end Go.Abs
