import Derived.Test.YtbdbfoffekcjoaaDSameTable0
import Derived.Test.YtbdbfoffekcjoaaProg
import Derived.Test.YtbdbfoffekcjoaaRow
import Derived.KernelRfl
namespace Go.Abs
open Go.Proofs
set_option maxRecDepth 100000
set_option linter.unusedVariables false

noncomputable abbrev P : Program := Try.prog
noncomputable abbrev ty : Nat → Option TyI := tyOf P
def bodyOf (f : Func) : Code := match f.body with | some c => c | none => .skip
theorem follows : P.follows .mixedOrders = true := by kernel_rfl

abbrev laws_szObsSsp : List Sp := [.v false (.list (.pair (.pair (.int .i8) (.pair (.int .i8) (.pair (.int .i8) (.pair (.int .i8) (.pair (.int .i8) (.int .i8)))))) (.pair (.pair (.int .i64) (.int .i64)) (.int .i64)))), .v false (.int .i64)]
abbrev laws_szObsSbs : List (Bs × Bool) := []
abbrev laws_szObsSrs : List (Bool × List Rp) := [(false, [.v false (.int .i64)])]
noncomputable def laws_szObsSkp : Keep := { loop := fun id => match id with | _ => [], join := fun id => match id with | _ => none }
noncomputable def laws_szObsSc : Code := bodyOf Go.Proofs.Try.f88
noncomputable def laws_szObsSF (n : Nat) : Fun := { id := 88, sp := laws_szObsSsp, bs := laws_szObsSbs, rs := laws_szObsSrs, f := fun x y => laws_szObsS n x.1 x.2.1 }

theorem laws_szObsS_eq (n : Nat) (a0 : List (((Int) × ((Int) × ((Int) × ((Int) × ((Int) × (Int)))))) × (((Int) × (Int)) × (Int)))) (a1 : Int) : runBody ([]) ty 12 n laws_szObsSkp laws_szObsSc Go.Proofs.Try.f88.results.toList laws_szObsSrs laws_szObsSsp laws_szObsSbs (a0, (a1, ())) () = laws_szObsS n a0 a1 := by
  have h : runBody ([]) ty 12 n laws_szObsSkp laws_szObsSc Go.Proofs.Try.f88.results.toList laws_szObsSrs laws_szObsSsp laws_szObsSbs (a0, (a1, ())) () = laws_szObsS_t n a0 a1 := by kernel_rfl
  rw [h]
  rfl

theorem laws_szObsS_ok (n : Nat) : FunOk P (laws_szObsSF n) :=
  funOk_mk (C := []) (N := 12) (kp := laws_szObsSkp) (c := laws_szObsSc) (n := n) (G := fun x y => laws_szObsS n x.1 x.2.1) follows (AllOk.mem (trivial : AllOk P ([]))) (by kernel_rfl : P.funcs[88]? = some Go.Proofs.Try.f88) (by kernel_rfl) (by kernel_rfl) (by kernel_rfl)
    (fun x y => laws_szObsS_eq n x.1 x.2.1) (fun _ _ => map_same (fun _ => rfl) _) (fun _ _ _ _ => rfl)

abbrev laws_szTablesp : List Sp := [.v true (.pair (.int .i64) (.pair (.list (.pair (.pair (.int .i8) (.pair (.int .i8) (.pair (.int .i8) (.pair (.int .i8) (.pair (.int .i8) (.int .i8)))))) (.pair (.pair (.int .i64) (.int .i64)) (.int .i64)))) (.pair .bool (.pair (.int .i64) (.int .i64))))), .v false (.int .i64)]
abbrev laws_szTablebs : List (Bs × Bool) := []
abbrev laws_szTablers : List (Bool × List Rp) := [(false, [.v false (.int .i64)])]
noncomputable def laws_szTablekp : Keep := { loop := fun id => match id with | _ => [], join := fun id => match id with | _ => none }
noncomputable def laws_szTablec : Code := bodyOf Go.Proofs.Try.f31
noncomputable def laws_szTableF (n : Nat) : Fun := { id := 31, sp := laws_szTablesp, bs := laws_szTablebs, rs := laws_szTablers, f := fun x y => laws_szTable n x.1 x.2.1 }

theorem laws_szTable_eq (n : Nat) (a0 : (Int) × ((List (((Int) × ((Int) × ((Int) × ((Int) × ((Int) × (Int)))))) × (((Int) × (Int)) × (Int)))) × ((Bool) × ((Int) × (Int))))) (a1 : Int) : runBody ([laws_szObsSF n]) ty 12 n laws_szTablekp laws_szTablec Go.Proofs.Try.f31.results.toList laws_szTablers laws_szTablesp laws_szTablebs (a0, (a1, ())) () = laws_szTable n a0 a1 := by
  have h : runBody ([laws_szObsSF n]) ty 12 n laws_szTablekp laws_szTablec Go.Proofs.Try.f31.results.toList laws_szTablers laws_szTablesp laws_szTablebs (a0, (a1, ())) () = laws_szTable_t n a0 a1 := by kernel_rfl
  rw [h]
  rfl

theorem laws_szTable_ok (n : Nat) : FunOk P (laws_szTableF n) :=
  funOk_mk (C := [laws_szObsSF n]) (N := 12) (kp := laws_szTablekp) (c := laws_szTablec) (n := n) (G := fun x y => laws_szTable n x.1 x.2.1) follows (AllOk.mem (⟨laws_szObsS_ok n, trivial⟩ : AllOk P ([laws_szObsSF n]))) (by kernel_rfl : P.funcs[31]? = some Go.Proofs.Try.f31) (by kernel_rfl) (by kernel_rfl) (by kernel_rfl)
    (fun x y => laws_szTable_eq n x.1 x.2.1) (fun _ _ => map_same (fun _ => rfl) _) (fun _ _ _ _ => rfl)

abbrev laws_toInt8A6sp : List Sp := [.v true (.pair (.int .i8) (.pair (.int .i8) (.pair (.int .i8) (.pair (.int .i8) (.pair (.int .i8) (.int .i8))))))]
abbrev laws_toInt8A6bs : List (Bs × Bool) := []
abbrev laws_toInt8A6rs : List (Bool × List Rp) := [(true, [.v false (.pair (.int .i8) (.pair (.int .i8) (.pair (.int .i8) (.pair (.int .i8) (.pair (.int .i8) (.int .i8))))))])]
noncomputable def laws_toInt8A6kp : Keep := { loop := fun id => match id with | 3 => [4, 3, 1, 2] | _ => [], join := fun id => match id with | _ => none }
noncomputable def laws_toInt8A6c : Code := bodyOf Go.Proofs.Try.f175
noncomputable def laws_toInt8A6F (n : Nat) : Fun := { id := 175, sp := laws_toInt8A6sp, bs := laws_toInt8A6bs, rs := laws_toInt8A6rs, f := fun x y => laws_toInt8A6 n x.1 }

theorem laws_toInt8A6_l3_eq (n : Nat) : ∀ (k : Nat) (v4 : Int) (b0_0 : Int) (b0_1 : Int) (b0_2 : Int) (b0_3 : Int) (b0_4 : Int) (b0_5 : Int) (b1_0 : Int) (b1_1 : Int) (b1_2 : Int) (b1_3 : Int) (b1_4 : Int) (b1_5 : Int) (b2_0 : Int) (b2_1 : Int) (b2_2 : Int) (b2_3 : Int) (b2_4 : Int) (b2_5 : Int), iter (interp ([]) ty 15 0 n laws_toInt8A6kp (codeAt laws_toInt8A6c [1, 1, 0, 1, 0, 0])) (canon 0 (laws_toInt8A6kp.loop 3)) (kAt ([]) ty 15 0 n laws_toInt8A6kp laws_toInt8A6c [1, 1, 0, 1, 0] [] (ending ty 0 Go.Proofs.Try.f175.results.toList laws_toInt8A6rs laws_toInt8A6bs)) k { env := [(4, .one (.sc (.int .i64 v4))), (3, .one (.ref 0 0 0 0 0 0)), (1, .one (.ref 1 0 0 0 0 0)), (2, .one (.ref 2 0 0 0 0 0))], bx := [(0, .var 74 [.sc (.int .i8 b0_0), .sc (.int .i8 b0_1), .sc (.int .i8 b0_2), .sc (.int .i8 b0_3), .sc (.int .i8 b0_4), .sc (.int .i8 b0_5)]), (1, .var 74 [.sc (.int .i8 b1_0), .sc (.int .i8 b1_1), .sc (.int .i8 b1_2), .sc (.int .i8 b1_3), .sc (.int .i8 b1_4), .sc (.int .i8 b1_5)]), (2, .var 74 [.sc (.int .i8 b2_0), .sc (.int .i8 b2_1), .sc (.int .i8 b2_2), .sc (.int .i8 b2_3), .sc (.int .i8 b2_4), .sc (.int .i8 b2_5)])], nx := 3 } = laws_toInt8A6_l3 n k v4 b0_0 b0_1 b0_2 b0_3 b0_4 b0_5 b1_0 b1_1 b1_2 b1_3 b1_4 b1_5 b2_0 b2_1 b2_2 b2_3 b2_4 b2_5
  | 0, _, _, _, _, _, _, _, _, _, _, _, _, _, _, _, _, _, _, _ => by kernel_rfl
  | k + 1, v4, b0_0, b0_1, b0_2, b0_3, b0_4, b0_5, b1_0, b1_1, b1_2, b1_3, b1_4, b1_5, b2_0, b2_1, b2_2, b2_3, b2_4, b2_5 => by
    have h : iter (interp ([]) ty 15 0 n laws_toInt8A6kp (codeAt laws_toInt8A6c [1, 1, 0, 1, 0, 0])) (canon 0 (laws_toInt8A6kp.loop 3)) (kAt ([]) ty 15 0 n laws_toInt8A6kp laws_toInt8A6c [1, 1, 0, 1, 0] [] (ending ty 0 Go.Proofs.Try.f175.results.toList laws_toInt8A6rs laws_toInt8A6bs)) (k + 1) { env := [(4, .one (.sc (.int .i64 v4))), (3, .one (.ref 0 0 0 0 0 0)), (1, .one (.ref 1 0 0 0 0 0)), (2, .one (.ref 2 0 0 0 0 0))], bx := [(0, .var 74 [.sc (.int .i8 b0_0), .sc (.int .i8 b0_1), .sc (.int .i8 b0_2), .sc (.int .i8 b0_3), .sc (.int .i8 b0_4), .sc (.int .i8 b0_5)]), (1, .var 74 [.sc (.int .i8 b1_0), .sc (.int .i8 b1_1), .sc (.int .i8 b1_2), .sc (.int .i8 b1_3), .sc (.int .i8 b1_4), .sc (.int .i8 b1_5)]), (2, .var 74 [.sc (.int .i8 b2_0), .sc (.int .i8 b2_1), .sc (.int .i8 b2_2), .sc (.int .i8 b2_3), .sc (.int .i8 b2_4), .sc (.int .i8 b2_5)])], nx := 3 } = laws_toInt8A6_t3 n (fun v4 b0_0 b0_1 b0_2 b0_3 b0_4 b0_5 b1_0 b1_1 b1_2 b1_3 b1_4 b1_5 b2_0 b2_1 b2_2 b2_3 b2_4 b2_5 => iter (interp ([]) ty 15 0 n laws_toInt8A6kp (codeAt laws_toInt8A6c [1, 1, 0, 1, 0, 0])) (canon 0 (laws_toInt8A6kp.loop 3)) (kAt ([]) ty 15 0 n laws_toInt8A6kp laws_toInt8A6c [1, 1, 0, 1, 0] [] (ending ty 0 Go.Proofs.Try.f175.results.toList laws_toInt8A6rs laws_toInt8A6bs)) k { env := [(4, .one (.sc (.int .i64 v4))), (3, .one (.ref 0 0 0 0 0 0)), (1, .one (.ref 1 0 0 0 0 0)), (2, .one (.ref 2 0 0 0 0 0))], bx := [(0, .var 74 [.sc (.int .i8 b0_0), .sc (.int .i8 b0_1), .sc (.int .i8 b0_2), .sc (.int .i8 b0_3), .sc (.int .i8 b0_4), .sc (.int .i8 b0_5)]), (1, .var 74 [.sc (.int .i8 b1_0), .sc (.int .i8 b1_1), .sc (.int .i8 b1_2), .sc (.int .i8 b1_3), .sc (.int .i8 b1_4), .sc (.int .i8 b1_5)]), (2, .var 74 [.sc (.int .i8 b2_0), .sc (.int .i8 b2_1), .sc (.int .i8 b2_2), .sc (.int .i8 b2_3), .sc (.int .i8 b2_4), .sc (.int .i8 b2_5)])], nx := 3 }) v4 b0_0 b0_1 b0_2 b0_3 b0_4 b0_5 b1_0 b1_1 b1_2 b1_3 b1_4 b1_5 b2_0 b2_1 b2_2 b2_3 b2_4 b2_5 := by kernel_rfl
    rw [h]
    have e := congrArg (fun g => laws_toInt8A6_t3 n g v4 b0_0 b0_1 b0_2 b0_3 b0_4 b0_5 b1_0 b1_1 b1_2 b1_3 b1_4 b1_5 b2_0 b2_1 b2_2 b2_3 b2_4 b2_5) (funext fun v4 => funext fun b0_0 => funext fun b0_1 => funext fun b0_2 => funext fun b0_3 => funext fun b0_4 => funext fun b0_5 => funext fun b1_0 => funext fun b1_1 => funext fun b1_2 => funext fun b1_3 => funext fun b1_4 => funext fun b1_5 => funext fun b2_0 => funext fun b2_1 => funext fun b2_2 => funext fun b2_3 => funext fun b2_4 => funext fun b2_5 => laws_toInt8A6_l3_eq n k v4 b0_0 b0_1 b0_2 b0_3 b0_4 b0_5 b1_0 b1_1 b1_2 b1_3 b1_4 b1_5 b2_0 b2_1 b2_2 b2_3 b2_4 b2_5)
    exact e

theorem laws_toInt8A6_eq (n : Nat) (a0 : (Int) × ((Int) × ((Int) × ((Int) × ((Int) × (Int)))))) : runBody ([]) ty 15 n laws_toInt8A6kp laws_toInt8A6c Go.Proofs.Try.f175.results.toList laws_toInt8A6rs laws_toInt8A6sp laws_toInt8A6bs (a0, ()) () = laws_toInt8A6 n a0 := by
  have h : runBody ([]) ty 15 n laws_toInt8A6kp laws_toInt8A6c Go.Proofs.Try.f175.results.toList laws_toInt8A6rs laws_toInt8A6sp laws_toInt8A6bs (a0, ()) () = laws_toInt8A6_t n (fun k v4 b0_0 b0_1 b0_2 b0_3 b0_4 b0_5 b1_0 b1_1 b1_2 b1_3 b1_4 b1_5 b2_0 b2_1 b2_2 b2_3 b2_4 b2_5 => iter (interp ([]) ty 15 0 n laws_toInt8A6kp (codeAt laws_toInt8A6c [1, 1, 0, 1, 0, 0])) (canon 0 (laws_toInt8A6kp.loop 3)) (kAt ([]) ty 15 0 n laws_toInt8A6kp laws_toInt8A6c [1, 1, 0, 1, 0] [] (ending ty 0 Go.Proofs.Try.f175.results.toList laws_toInt8A6rs laws_toInt8A6bs)) k { env := [(4, .one (.sc (.int .i64 v4))), (3, .one (.ref 0 0 0 0 0 0)), (1, .one (.ref 1 0 0 0 0 0)), (2, .one (.ref 2 0 0 0 0 0))], bx := [(0, .var 74 [.sc (.int .i8 b0_0), .sc (.int .i8 b0_1), .sc (.int .i8 b0_2), .sc (.int .i8 b0_3), .sc (.int .i8 b0_4), .sc (.int .i8 b0_5)]), (1, .var 74 [.sc (.int .i8 b1_0), .sc (.int .i8 b1_1), .sc (.int .i8 b1_2), .sc (.int .i8 b1_3), .sc (.int .i8 b1_4), .sc (.int .i8 b1_5)]), (2, .var 74 [.sc (.int .i8 b2_0), .sc (.int .i8 b2_1), .sc (.int .i8 b2_2), .sc (.int .i8 b2_3), .sc (.int .i8 b2_4), .sc (.int .i8 b2_5)])], nx := 3 }) a0 := by kernel_rfl
  rw [h]
  have e := congrArg (fun h3 => laws_toInt8A6_t n h3 a0) (funext fun k => funext fun v4 => funext fun b0_0 => funext fun b0_1 => funext fun b0_2 => funext fun b0_3 => funext fun b0_4 => funext fun b0_5 => funext fun b1_0 => funext fun b1_1 => funext fun b1_2 => funext fun b1_3 => funext fun b1_4 => funext fun b1_5 => funext fun b2_0 => funext fun b2_1 => funext fun b2_2 => funext fun b2_3 => funext fun b2_4 => funext fun b2_5 => laws_toInt8A6_l3_eq n k v4 b0_0 b0_1 b0_2 b0_3 b0_4 b0_5 b1_0 b1_1 b1_2 b1_3 b1_4 b1_5 b2_0 b2_1 b2_2 b2_3 b2_4 b2_5)
  exact e

theorem laws_toInt8A6_ok (n : Nat) : FunOk P (laws_toInt8A6F n) :=
  funOk_mk (C := []) (N := 15) (kp := laws_toInt8A6kp) (c := laws_toInt8A6c) (n := n) (G := fun x y => laws_toInt8A6 n x.1) follows (AllOk.mem (trivial : AllOk P ([]))) (by kernel_rfl : P.funcs[175]? = some Go.Proofs.Try.f175) (by kernel_rfl) (by kernel_rfl) (by kernel_rfl)
    (fun x y => laws_toInt8A6_eq n x.1) (fun _ _ => map_same (fun _ => rfl) _) (fun _ _ _ _ => rfl)

abbrev laws_toFracsp : List Sp := [.v true (.pair (.int .i64) (.int .i64))]
abbrev laws_toFracbs : List (Bs × Bool) := []
abbrev laws_toFracrs : List (Bool × List Rp) := [(true, [.v false (.pair (.int .i64) (.int .i64))])]
noncomputable def laws_toFrackp : Keep := { loop := fun id => match id with | _ => [], join := fun id => match id with | _ => none }
noncomputable def laws_toFracc : Code := bodyOf Go.Proofs.Try.f90
noncomputable def laws_toFracF (n : Nat) : Fun := { id := 90, sp := laws_toFracsp, bs := laws_toFracbs, rs := laws_toFracrs, f := fun x y => laws_toFrac n x.1 }

theorem laws_toFrac_eq (n : Nat) (a0 : (Int) × (Int)) : runBody ([]) ty 11 n laws_toFrackp laws_toFracc Go.Proofs.Try.f90.results.toList laws_toFracrs laws_toFracsp laws_toFracbs (a0, ()) () = laws_toFrac n a0 := by
  have h : runBody ([]) ty 11 n laws_toFrackp laws_toFracc Go.Proofs.Try.f90.results.toList laws_toFracrs laws_toFracsp laws_toFracbs (a0, ()) () = laws_toFrac_t n a0 := by kernel_rfl
  rw [h]
  rfl

theorem laws_toFrac_ok (n : Nat) : FunOk P (laws_toFracF n) :=
  funOk_mk (C := []) (N := 11) (kp := laws_toFrackp) (c := laws_toFracc) (n := n) (G := fun x y => laws_toFrac n x.1) follows (AllOk.mem (trivial : AllOk P ([]))) (by kernel_rfl : P.funcs[90]? = some Go.Proofs.Try.f90) (by kernel_rfl) (by kernel_rfl) (by kernel_rfl)
    (fun x y => laws_toFrac_eq n x.1) (fun _ _ => map_same (fun _ => rfl) _) (fun _ _ _ _ => rfl)

abbrev laws_toObssp : List Sp := [.v true (.pair (.pair (.int .i8) (.pair (.int .i8) (.pair (.int .i8) (.pair (.int .i8) (.pair (.int .i8) (.int .i8)))))) (.pair (.pair (.int .i64) (.int .i64)) (.int .i64)))]
abbrev laws_toObsbs : List (Bs × Bool) := []
abbrev laws_toObsrs : List (Bool × List Rp) := [(true, [.v false (.pair (.pair (.int .i8) (.pair (.int .i8) (.pair (.int .i8) (.pair (.int .i8) (.pair (.int .i8) (.int .i8)))))) (.pair (.pair (.int .i64) (.int .i64)) (.int .i64)))])]
noncomputable def laws_toObskp : Keep := { loop := fun id => match id with | _ => [], join := fun id => match id with | _ => none }
noncomputable def laws_toObsc : Code := bodyOf Go.Proofs.Try.f144
noncomputable def laws_toObsF (n : Nat) : Fun := { id := 144, sp := laws_toObssp, bs := laws_toObsbs, rs := laws_toObsrs, f := fun x y => laws_toObs n x.1 }

theorem laws_toObs_eq (n : Nat) (a0 : ((Int) × ((Int) × ((Int) × ((Int) × ((Int) × (Int)))))) × (((Int) × (Int)) × (Int))) : runBody ([laws_toInt8A6F n, laws_toFracF n]) ty 16 n laws_toObskp laws_toObsc Go.Proofs.Try.f144.results.toList laws_toObsrs laws_toObssp laws_toObsbs (a0, ()) () = laws_toObs n a0 := by
  have h : runBody ([laws_toInt8A6F n, laws_toFracF n]) ty 16 n laws_toObskp laws_toObsc Go.Proofs.Try.f144.results.toList laws_toObsrs laws_toObssp laws_toObsbs (a0, ()) () = laws_toObs_t n a0 := by kernel_rfl
  rw [h]
  rfl

theorem laws_toObs_ok (n : Nat) : FunOk P (laws_toObsF n) :=
  funOk_mk (C := [laws_toInt8A6F n, laws_toFracF n]) (N := 16) (kp := laws_toObskp) (c := laws_toObsc) (n := n) (G := fun x y => laws_toObs n x.1) follows (AllOk.mem (⟨laws_toInt8A6_ok n, ⟨laws_toFrac_ok n, trivial⟩⟩ : AllOk P ([laws_toInt8A6F n, laws_toFracF n]))) (by kernel_rfl : P.funcs[144]? = some Go.Proofs.Try.f144) (by kernel_rfl) (by kernel_rfl) (by kernel_rfl)
    (fun x y => laws_toObs_eq n x.1) (fun _ _ => map_same (fun _ => rfl) _) (fun _ _ _ _ => rfl)

abbrev laws_toObsSsp : List Sp := [.v false (.list (.pair (.pair (.int .i8) (.pair (.int .i8) (.pair (.int .i8) (.pair (.int .i8) (.pair (.int .i8) (.int .i8)))))) (.pair (.pair (.int .i64) (.int .i64)) (.int .i64))))]
abbrev laws_toObsSbs : List (Bs × Bool) := []
abbrev laws_toObsSrs : List (Bool × List Rp) := [(false, [.new  (.pair (.pair (.int .i8) (.pair (.int .i8) (.pair (.int .i8) (.pair (.int .i8) (.pair (.int .i8) (.int .i8)))))) (.pair (.pair (.int .i64) (.int .i64)) (.int .i64)))])]
noncomputable def laws_toObsSkp : Keep := { loop := fun id => match id with | 3 => [4, 0, 3] | _ => [], join := fun id => match id with | _ => none }
noncomputable def laws_toObsSc : Code := bodyOf Go.Proofs.Try.f89
noncomputable def laws_toObsSF (n : Nat) : Fun := { id := 89, sp := laws_toObsSsp, bs := laws_toObsSbs, rs := laws_toObsSrs, f := fun x y => laws_toObsS n x.1 }

theorem laws_toObsS_l3_eq (n : Nat) : ∀ (k : Nat) (v4 : Int) (v0 : List (((Int) × ((Int) × ((Int) × ((Int) × ((Int) × (Int)))))) × (((Int) × (Int)) × (Int)))) (b0 : List (((Int) × ((Int) × ((Int) × ((Int) × ((Int) × (Int)))))) × (((Int) × (Int)) × (Int)))), iter (interp ([laws_toObsF n]) ty 23 0 n laws_toObsSkp (codeAt laws_toObsSc [1, 1, 0, 1, 0, 0])) (canon 0 (laws_toObsSkp.loop 3)) (kAt ([laws_toObsF n]) ty 23 0 n laws_toObsSkp laws_toObsSc [1, 1, 0, 1, 0] [] (ending ty 0 Go.Proofs.Try.f89.results.toList laws_toObsSrs laws_toObsSbs)) k { env := [(4, .one (.sc (.int .i64 v4))), (0, .one (.list true (.pair (.pair (.int .i8) (.pair (.int .i8) (.pair (.int .i8) (.pair (.int .i8) (.pair (.int .i8) (.int .i8)))))) (.pair (.pair (.int .i64) (.int .i64)) (.int .i64))) v0)), (3, .one (.slice 0 0 none))], bx := [(0, .row 0 (.pair (.pair (.int .i8) (.pair (.int .i8) (.pair (.int .i8) (.pair (.int .i8) (.pair (.int .i8) (.int .i8)))))) (.pair (.pair (.int .i64) (.int .i64)) (.int .i64))) b0)], nx := 1 } = laws_toObsS_l3 n k v4 v0 b0
  | 0, _, _, _ => by kernel_rfl
  | k + 1, v4, v0, b0 => by
    have h : iter (interp ([laws_toObsF n]) ty 23 0 n laws_toObsSkp (codeAt laws_toObsSc [1, 1, 0, 1, 0, 0])) (canon 0 (laws_toObsSkp.loop 3)) (kAt ([laws_toObsF n]) ty 23 0 n laws_toObsSkp laws_toObsSc [1, 1, 0, 1, 0] [] (ending ty 0 Go.Proofs.Try.f89.results.toList laws_toObsSrs laws_toObsSbs)) (k + 1) { env := [(4, .one (.sc (.int .i64 v4))), (0, .one (.list true (.pair (.pair (.int .i8) (.pair (.int .i8) (.pair (.int .i8) (.pair (.int .i8) (.pair (.int .i8) (.int .i8)))))) (.pair (.pair (.int .i64) (.int .i64)) (.int .i64))) v0)), (3, .one (.slice 0 0 none))], bx := [(0, .row 0 (.pair (.pair (.int .i8) (.pair (.int .i8) (.pair (.int .i8) (.pair (.int .i8) (.pair (.int .i8) (.int .i8)))))) (.pair (.pair (.int .i64) (.int .i64)) (.int .i64))) b0)], nx := 1 } = laws_toObsS_t3 n (fun v4 v0 b0 => iter (interp ([laws_toObsF n]) ty 23 0 n laws_toObsSkp (codeAt laws_toObsSc [1, 1, 0, 1, 0, 0])) (canon 0 (laws_toObsSkp.loop 3)) (kAt ([laws_toObsF n]) ty 23 0 n laws_toObsSkp laws_toObsSc [1, 1, 0, 1, 0] [] (ending ty 0 Go.Proofs.Try.f89.results.toList laws_toObsSrs laws_toObsSbs)) k { env := [(4, .one (.sc (.int .i64 v4))), (0, .one (.list true (.pair (.pair (.int .i8) (.pair (.int .i8) (.pair (.int .i8) (.pair (.int .i8) (.pair (.int .i8) (.int .i8)))))) (.pair (.pair (.int .i64) (.int .i64)) (.int .i64))) v0)), (3, .one (.slice 0 0 none))], bx := [(0, .row 0 (.pair (.pair (.int .i8) (.pair (.int .i8) (.pair (.int .i8) (.pair (.int .i8) (.pair (.int .i8) (.int .i8)))))) (.pair (.pair (.int .i64) (.int .i64)) (.int .i64))) b0)], nx := 1 }) v4 v0 b0 := by kernel_rfl
    rw [h]
    have e := congrArg (fun g => laws_toObsS_t3 n g v4 v0 b0) (funext fun v4 => funext fun v0 => funext fun b0 => laws_toObsS_l3_eq n k v4 v0 b0)
    exact e

theorem laws_toObsS_eq (n : Nat) (a0 : List (((Int) × ((Int) × ((Int) × ((Int) × ((Int) × (Int)))))) × (((Int) × (Int)) × (Int)))) : runBody ([laws_toObsF n]) ty 23 n laws_toObsSkp laws_toObsSc Go.Proofs.Try.f89.results.toList laws_toObsSrs laws_toObsSsp laws_toObsSbs (a0, ()) () = laws_toObsS n a0 := by
  have h : runBody ([laws_toObsF n]) ty 23 n laws_toObsSkp laws_toObsSc Go.Proofs.Try.f89.results.toList laws_toObsSrs laws_toObsSsp laws_toObsSbs (a0, ()) () = laws_toObsS_t n (fun k v4 v0 b0 => iter (interp ([laws_toObsF n]) ty 23 0 n laws_toObsSkp (codeAt laws_toObsSc [1, 1, 0, 1, 0, 0])) (canon 0 (laws_toObsSkp.loop 3)) (kAt ([laws_toObsF n]) ty 23 0 n laws_toObsSkp laws_toObsSc [1, 1, 0, 1, 0] [] (ending ty 0 Go.Proofs.Try.f89.results.toList laws_toObsSrs laws_toObsSbs)) k { env := [(4, .one (.sc (.int .i64 v4))), (0, .one (.list true (.pair (.pair (.int .i8) (.pair (.int .i8) (.pair (.int .i8) (.pair (.int .i8) (.pair (.int .i8) (.int .i8)))))) (.pair (.pair (.int .i64) (.int .i64)) (.int .i64))) v0)), (3, .one (.slice 0 0 none))], bx := [(0, .row 0 (.pair (.pair (.int .i8) (.pair (.int .i8) (.pair (.int .i8) (.pair (.int .i8) (.pair (.int .i8) (.int .i8)))))) (.pair (.pair (.int .i64) (.int .i64)) (.int .i64))) b0)], nx := 1 }) a0 := by kernel_rfl
  rw [h]
  have e := congrArg (fun h3 => laws_toObsS_t n h3 a0) (funext fun k => funext fun v4 => funext fun v0 => funext fun b0 => laws_toObsS_l3_eq n k v4 v0 b0)
  exact e

theorem laws_toObsS_ok (n : Nat) : FunOk P (laws_toObsSF n) :=
  funOk_mk (C := [laws_toObsF n]) (N := 23) (kp := laws_toObsSkp) (c := laws_toObsSc) (n := n) (G := fun x y => laws_toObsS n x.1) follows (AllOk.mem (⟨laws_toObs_ok n, trivial⟩ : AllOk P ([laws_toObsF n]))) (by kernel_rfl : P.funcs[89]? = some Go.Proofs.Try.f89) (by kernel_rfl) (by kernel_rfl) (by kernel_rfl)
    (fun x y => laws_toObsS_eq n x.1) (fun _ _ => map_same (fun _ => rfl) _) (fun _ _ _ _ => rfl)

abbrev laws_toTablesp : List Sp := [.v true (.pair (.int .i64) (.pair (.list (.pair (.pair (.int .i8) (.pair (.int .i8) (.pair (.int .i8) (.pair (.int .i8) (.pair (.int .i8) (.int .i8)))))) (.pair (.pair (.int .i64) (.int .i64)) (.int .i64)))) (.pair .bool (.pair (.int .i64) (.int .i64)))))]
abbrev laws_toTablebs : List (Bs × Bool) := []
abbrev laws_toTablers : List (Bool × List Rp) := [(true, [.v false (.pair (.int .i64) (.pair (.list (.pair (.pair (.int .i8) (.pair (.int .i8) (.pair (.int .i8) (.pair (.int .i8) (.pair (.int .i8) (.int .i8)))))) (.pair (.pair (.int .i64) (.int .i64)) (.int .i64)))) (.pair .bool (.pair (.int .i64) (.int .i64)))))])]
noncomputable def laws_toTablekp : Keep := { loop := fun id => match id with | _ => [], join := fun id => match id with | _ => none }
noncomputable def laws_toTablec : Code := bodyOf Go.Proofs.Try.f33
noncomputable def laws_toTableF (n : Nat) : Fun := { id := 33, sp := laws_toTablesp, bs := laws_toTablebs, rs := laws_toTablers, f := fun x y => laws_toTable n x.1 }

theorem laws_toTable_eq (n : Nat) (a0 : (Int) × ((List (((Int) × ((Int) × ((Int) × ((Int) × ((Int) × (Int)))))) × (((Int) × (Int)) × (Int)))) × ((Bool) × ((Int) × (Int))))) : runBody ([laws_toObsSF n, laws_toFracF n]) ty 19 n laws_toTablekp laws_toTablec Go.Proofs.Try.f33.results.toList laws_toTablers laws_toTablesp laws_toTablebs (a0, ()) () = laws_toTable n a0 := by
  have h : runBody ([laws_toObsSF n, laws_toFracF n]) ty 19 n laws_toTablekp laws_toTablec Go.Proofs.Try.f33.results.toList laws_toTablers laws_toTablesp laws_toTablebs (a0, ()) () = laws_toTable_t n a0 := by kernel_rfl
  rw [h]
  rfl

theorem laws_toTable_ok (n : Nat) : FunOk P (laws_toTableF n) :=
  funOk_mk (C := [laws_toObsSF n, laws_toFracF n]) (N := 19) (kp := laws_toTablekp) (c := laws_toTablec) (n := n) (G := fun x y => laws_toTable n x.1) follows (AllOk.mem (⟨laws_toObsS_ok n, ⟨laws_toFrac_ok n, trivial⟩⟩ : AllOk P ([laws_toObsSF n, laws_toFracF n]))) (by kernel_rfl : P.funcs[33]? = some Go.Proofs.Try.f33) (by kernel_rfl) (by kernel_rfl) (by kernel_rfl)
    (fun x y => laws_toTable_eq n x.1) (fun _ _ => map_same (fun _ => rfl) _) (fun _ _ _ _ => rfl)

abbrev spec_SameTablesp : List Sp := [.v true (.pair (.int .i64) (.pair (.list (.pair (.pair (.int .i8) (.pair (.int .i8) (.pair (.int .i8) (.pair (.int .i8) (.pair (.int .i8) (.int .i8)))))) (.pair (.pair (.int .i64) (.int .i64)) (.int .i64)))) (.pair .bool (.pair (.int .i64) (.int .i64))))), .v true (.pair (.int .i64) (.pair (.list (.pair (.pair (.int .i8) (.pair (.int .i8) (.pair (.int .i8) (.pair (.int .i8) (.pair (.int .i8) (.int .i8)))))) (.pair (.pair (.int .i64) (.int .i64)) (.int .i64)))) (.pair .bool (.pair (.int .i64) (.int .i64)))))]
abbrev spec_SameTablebs : List (Bs × Bool) := []
abbrev spec_SameTablers : List (Bool × List Rp) := [(false, [.v false .bool])]
noncomputable def spec_SameTablekp : Keep := { loop := fun id => match id with | 4 => [5, 3, 2] | _ => [], join := fun id => match id with | _ => none }
noncomputable def spec_SameTablec : Code := bodyOf Go.Proofs.Try.f32
noncomputable def spec_SameTableF (n : Nat) : Fun := { id := 32, sp := spec_SameTablesp, bs := spec_SameTablebs, rs := spec_SameTablers, f := fun x y => spec_SameTable n x.1 x.2.1 }

theorem spec_SameTable_l4_eq (n : Nat) : ∀ (k : Nat) (v5 : Int) (b0_0 : Int) (b0_1 : List (((Int) × ((Int) × ((Int) × ((Int) × ((Int) × (Int)))))) × (((Int) × (Int)) × (Int)))) (b0_2 : Bool) (b0_3 : Int) (b0_4 : Int) (b1_0 : Int) (b1_1 : List (((Int) × ((Int) × ((Int) × ((Int) × ((Int) × (Int)))))) × (((Int) × (Int)) × (Int)))) (b1_2 : Bool) (b1_3 : Int) (b1_4 : Int), iter (interp ([]) ty 52 0 n spec_SameTablekp (codeAt spec_SameTablec [1, 1, 0, 1, 0, 0])) (canon 0 (spec_SameTablekp.loop 4)) (kAt ([]) ty 52 0 n spec_SameTablekp spec_SameTablec [1, 1, 0, 1, 0] [] (ending ty 0 Go.Proofs.Try.f32.results.toList spec_SameTablers spec_SameTablebs)) k { env := [(5, .one (.sc (.int .i64 v5))), (3, .one (.ref 0 0 0 0 0 0)), (2, .one (.ref 1 0 0 0 0 0))], bx := [(0, .var 51 [.sc (.int .i64 b0_0), .list true (.pair (.pair (.int .i8) (.pair (.int .i8) (.pair (.int .i8) (.pair (.int .i8) (.pair (.int .i8) (.int .i8)))))) (.pair (.pair (.int .i64) (.int .i64)) (.int .i64))) b0_1, .sc (.bool b0_2), .sc (.int .i64 b0_3), .sc (.int .i64 b0_4)]), (1, .var 51 [.sc (.int .i64 b1_0), .list true (.pair (.pair (.int .i8) (.pair (.int .i8) (.pair (.int .i8) (.pair (.int .i8) (.pair (.int .i8) (.int .i8)))))) (.pair (.pair (.int .i64) (.int .i64)) (.int .i64))) b1_1, .sc (.bool b1_2), .sc (.int .i64 b1_3), .sc (.int .i64 b1_4)])], nx := 2 } = spec_SameTable_l4 n k v5 b0_0 b0_1 b0_2 b0_3 b0_4 b1_0 b1_1 b1_2 b1_3 b1_4
  | 0, _, _, _, _, _, _, _, _, _, _, _ => by kernel_rfl
  | k + 1, v5, b0_0, b0_1, b0_2, b0_3, b0_4, b1_0, b1_1, b1_2, b1_3, b1_4 => by
    have h : iter (interp ([]) ty 52 0 n spec_SameTablekp (codeAt spec_SameTablec [1, 1, 0, 1, 0, 0])) (canon 0 (spec_SameTablekp.loop 4)) (kAt ([]) ty 52 0 n spec_SameTablekp spec_SameTablec [1, 1, 0, 1, 0] [] (ending ty 0 Go.Proofs.Try.f32.results.toList spec_SameTablers spec_SameTablebs)) (k + 1) { env := [(5, .one (.sc (.int .i64 v5))), (3, .one (.ref 0 0 0 0 0 0)), (2, .one (.ref 1 0 0 0 0 0))], bx := [(0, .var 51 [.sc (.int .i64 b0_0), .list true (.pair (.pair (.int .i8) (.pair (.int .i8) (.pair (.int .i8) (.pair (.int .i8) (.pair (.int .i8) (.int .i8)))))) (.pair (.pair (.int .i64) (.int .i64)) (.int .i64))) b0_1, .sc (.bool b0_2), .sc (.int .i64 b0_3), .sc (.int .i64 b0_4)]), (1, .var 51 [.sc (.int .i64 b1_0), .list true (.pair (.pair (.int .i8) (.pair (.int .i8) (.pair (.int .i8) (.pair (.int .i8) (.pair (.int .i8) (.int .i8)))))) (.pair (.pair (.int .i64) (.int .i64)) (.int .i64))) b1_1, .sc (.bool b1_2), .sc (.int .i64 b1_3), .sc (.int .i64 b1_4)])], nx := 2 } = spec_SameTable_t4 n (fun v5 b0_0 b0_1 b0_2 b0_3 b0_4 b1_0 b1_1 b1_2 b1_3 b1_4 => iter (interp ([]) ty 52 0 n spec_SameTablekp (codeAt spec_SameTablec [1, 1, 0, 1, 0, 0])) (canon 0 (spec_SameTablekp.loop 4)) (kAt ([]) ty 52 0 n spec_SameTablekp spec_SameTablec [1, 1, 0, 1, 0] [] (ending ty 0 Go.Proofs.Try.f32.results.toList spec_SameTablers spec_SameTablebs)) k { env := [(5, .one (.sc (.int .i64 v5))), (3, .one (.ref 0 0 0 0 0 0)), (2, .one (.ref 1 0 0 0 0 0))], bx := [(0, .var 51 [.sc (.int .i64 b0_0), .list true (.pair (.pair (.int .i8) (.pair (.int .i8) (.pair (.int .i8) (.pair (.int .i8) (.pair (.int .i8) (.int .i8)))))) (.pair (.pair (.int .i64) (.int .i64)) (.int .i64))) b0_1, .sc (.bool b0_2), .sc (.int .i64 b0_3), .sc (.int .i64 b0_4)]), (1, .var 51 [.sc (.int .i64 b1_0), .list true (.pair (.pair (.int .i8) (.pair (.int .i8) (.pair (.int .i8) (.pair (.int .i8) (.pair (.int .i8) (.int .i8)))))) (.pair (.pair (.int .i64) (.int .i64)) (.int .i64))) b1_1, .sc (.bool b1_2), .sc (.int .i64 b1_3), .sc (.int .i64 b1_4)])], nx := 2 }) v5 b0_0 b0_1 b0_2 b0_3 b0_4 b1_0 b1_1 b1_2 b1_3 b1_4 := by kernel_rfl
    rw [h]
    have e := congrArg (fun g => spec_SameTable_t4 n g v5 b0_0 b0_1 b0_2 b0_3 b0_4 b1_0 b1_1 b1_2 b1_3 b1_4) (funext fun v5 => funext fun b0_0 => funext fun b0_1 => funext fun b0_2 => funext fun b0_3 => funext fun b0_4 => funext fun b1_0 => funext fun b1_1 => funext fun b1_2 => funext fun b1_3 => funext fun b1_4 => spec_SameTable_l4_eq n k v5 b0_0 b0_1 b0_2 b0_3 b0_4 b1_0 b1_1 b1_2 b1_3 b1_4)
    exact e

theorem spec_SameTable_eq (n : Nat) (a0 : (Int) × ((List (((Int) × ((Int) × ((Int) × ((Int) × ((Int) × (Int)))))) × (((Int) × (Int)) × (Int)))) × ((Bool) × ((Int) × (Int))))) (a1 : (Int) × ((List (((Int) × ((Int) × ((Int) × ((Int) × ((Int) × (Int)))))) × (((Int) × (Int)) × (Int)))) × ((Bool) × ((Int) × (Int))))) : runBody ([]) ty 52 n spec_SameTablekp spec_SameTablec Go.Proofs.Try.f32.results.toList spec_SameTablers spec_SameTablesp spec_SameTablebs (a0, (a1, ())) () = spec_SameTable n a0 a1 := by
  have h : runBody ([]) ty 52 n spec_SameTablekp spec_SameTablec Go.Proofs.Try.f32.results.toList spec_SameTablers spec_SameTablesp spec_SameTablebs (a0, (a1, ())) () = spec_SameTable_t n (fun k v5 b0_0 b0_1 b0_2 b0_3 b0_4 b1_0 b1_1 b1_2 b1_3 b1_4 => iter (interp ([]) ty 52 0 n spec_SameTablekp (codeAt spec_SameTablec [1, 1, 0, 1, 0, 0])) (canon 0 (spec_SameTablekp.loop 4)) (kAt ([]) ty 52 0 n spec_SameTablekp spec_SameTablec [1, 1, 0, 1, 0] [] (ending ty 0 Go.Proofs.Try.f32.results.toList spec_SameTablers spec_SameTablebs)) k { env := [(5, .one (.sc (.int .i64 v5))), (3, .one (.ref 0 0 0 0 0 0)), (2, .one (.ref 1 0 0 0 0 0))], bx := [(0, .var 51 [.sc (.int .i64 b0_0), .list true (.pair (.pair (.int .i8) (.pair (.int .i8) (.pair (.int .i8) (.pair (.int .i8) (.pair (.int .i8) (.int .i8)))))) (.pair (.pair (.int .i64) (.int .i64)) (.int .i64))) b0_1, .sc (.bool b0_2), .sc (.int .i64 b0_3), .sc (.int .i64 b0_4)]), (1, .var 51 [.sc (.int .i64 b1_0), .list true (.pair (.pair (.int .i8) (.pair (.int .i8) (.pair (.int .i8) (.pair (.int .i8) (.pair (.int .i8) (.int .i8)))))) (.pair (.pair (.int .i64) (.int .i64)) (.int .i64))) b1_1, .sc (.bool b1_2), .sc (.int .i64 b1_3), .sc (.int .i64 b1_4)])], nx := 2 }) a0 a1 := by kernel_rfl
  rw [h]
  have e := congrArg (fun h4 => spec_SameTable_t n h4 a0 a1) (funext fun k => funext fun v5 => funext fun b0_0 => funext fun b0_1 => funext fun b0_2 => funext fun b0_3 => funext fun b0_4 => funext fun b1_0 => funext fun b1_1 => funext fun b1_2 => funext fun b1_3 => funext fun b1_4 => spec_SameTable_l4_eq n k v5 b0_0 b0_1 b0_2 b0_3 b0_4 b1_0 b1_1 b1_2 b1_3 b1_4)
  exact e

theorem spec_SameTable_ok (n : Nat) : FunOk P (spec_SameTableF n) :=
  funOk_mk (C := []) (N := 52) (kp := spec_SameTablekp) (c := spec_SameTablec) (n := n) (G := fun x y => spec_SameTable n x.1 x.2.1) follows (AllOk.mem (trivial : AllOk P ([]))) (by kernel_rfl : P.funcs[32]? = some Go.Proofs.Try.f32) (by kernel_rfl) (by kernel_rfl) (by kernel_rfl)
    (fun x y => spec_SameTable_eq n x.1 x.2.1) (fun _ _ => map_same (fun _ => rfl) _) (fun _ _ _ _ => rfl)

abbrev slices_Equal_impl_Obs_impl_Obssp : List Sp := [.v false (.list (.pair (.pair (.int .i8) (.pair (.int .i8) (.pair (.int .i8) (.pair (.int .i8) (.pair (.int .i8) (.int .i8)))))) (.pair (.pair (.int .i64) (.int .i64)) (.int .i64)))), .v false (.list (.pair (.pair (.int .i8) (.pair (.int .i8) (.pair (.int .i8) (.pair (.int .i8) (.pair (.int .i8) (.int .i8)))))) (.pair (.pair (.int .i64) (.int .i64)) (.int .i64))))]
abbrev slices_Equal_impl_Obs_impl_Obsbs : List (Bs × Bool) := []
abbrev slices_Equal_impl_Obs_impl_Obsrs : List (Bool × List Rp) := [(false, [.v false .bool])]
noncomputable def slices_Equal_impl_Obs_impl_Obskp : Keep := { loop := fun id => match id with | 4 => [13, 1, 0, 12] | _ => [], join := fun id => match id with | _ => none }
noncomputable def slices_Equal_impl_Obs_impl_Obsc : Code := bodyOf Go.Proofs.Try.f91
noncomputable def slices_Equal_impl_Obs_impl_ObsF (n : Nat) : Fun := { id := 91, sp := slices_Equal_impl_Obs_impl_Obssp, bs := slices_Equal_impl_Obs_impl_Obsbs, rs := slices_Equal_impl_Obs_impl_Obsrs, f := fun x y => slices_Equal_impl_Obs_impl_Obs n x.1 x.2.1 }

theorem slices_Equal_impl_Obs_impl_Obs_l4_eq (n : Nat) : ∀ (k : Nat) (v13 : Int) (v1 : List (((Int) × ((Int) × ((Int) × ((Int) × ((Int) × (Int)))))) × (((Int) × (Int)) × (Int)))) (v0 : List (((Int) × ((Int) × ((Int) × ((Int) × ((Int) × (Int)))))) × (((Int) × (Int)) × (Int)))) (v12 : Int), iter (interp ([]) ty 26 0 n slices_Equal_impl_Obs_impl_Obskp (codeAt slices_Equal_impl_Obs_impl_Obsc [1, 1, 0, 1, 0, 0])) (canon 0 (slices_Equal_impl_Obs_impl_Obskp.loop 4)) (kAt ([]) ty 26 0 n slices_Equal_impl_Obs_impl_Obskp slices_Equal_impl_Obs_impl_Obsc [1, 1, 0, 1, 0] [] (ending ty 0 Go.Proofs.Try.f91.results.toList slices_Equal_impl_Obs_impl_Obsrs slices_Equal_impl_Obs_impl_Obsbs)) k { env := [(13, .one (.sc (.int .i64 v13))), (1, .one (.list true (.pair (.pair (.int .i8) (.pair (.int .i8) (.pair (.int .i8) (.pair (.int .i8) (.pair (.int .i8) (.int .i8)))))) (.pair (.pair (.int .i64) (.int .i64)) (.int .i64))) v1)), (0, .one (.list true (.pair (.pair (.int .i8) (.pair (.int .i8) (.pair (.int .i8) (.pair (.int .i8) (.pair (.int .i8) (.int .i8)))))) (.pair (.pair (.int .i64) (.int .i64)) (.int .i64))) v0)), (12, .one (.sc (.int .i64 v12)))], bx := [], nx := 0 } = slices_Equal_impl_Obs_impl_Obs_l4 n k v13 v1 v0 v12
  | 0, _, _, _, _ => by kernel_rfl
  | k + 1, v13, v1, v0, v12 => by
    have h : iter (interp ([]) ty 26 0 n slices_Equal_impl_Obs_impl_Obskp (codeAt slices_Equal_impl_Obs_impl_Obsc [1, 1, 0, 1, 0, 0])) (canon 0 (slices_Equal_impl_Obs_impl_Obskp.loop 4)) (kAt ([]) ty 26 0 n slices_Equal_impl_Obs_impl_Obskp slices_Equal_impl_Obs_impl_Obsc [1, 1, 0, 1, 0] [] (ending ty 0 Go.Proofs.Try.f91.results.toList slices_Equal_impl_Obs_impl_Obsrs slices_Equal_impl_Obs_impl_Obsbs)) (k + 1) { env := [(13, .one (.sc (.int .i64 v13))), (1, .one (.list true (.pair (.pair (.int .i8) (.pair (.int .i8) (.pair (.int .i8) (.pair (.int .i8) (.pair (.int .i8) (.int .i8)))))) (.pair (.pair (.int .i64) (.int .i64)) (.int .i64))) v1)), (0, .one (.list true (.pair (.pair (.int .i8) (.pair (.int .i8) (.pair (.int .i8) (.pair (.int .i8) (.pair (.int .i8) (.int .i8)))))) (.pair (.pair (.int .i64) (.int .i64)) (.int .i64))) v0)), (12, .one (.sc (.int .i64 v12)))], bx := [], nx := 0 } = slices_Equal_impl_Obs_impl_Obs_t4 n (fun v13 v1 v0 v12 => iter (interp ([]) ty 26 0 n slices_Equal_impl_Obs_impl_Obskp (codeAt slices_Equal_impl_Obs_impl_Obsc [1, 1, 0, 1, 0, 0])) (canon 0 (slices_Equal_impl_Obs_impl_Obskp.loop 4)) (kAt ([]) ty 26 0 n slices_Equal_impl_Obs_impl_Obskp slices_Equal_impl_Obs_impl_Obsc [1, 1, 0, 1, 0] [] (ending ty 0 Go.Proofs.Try.f91.results.toList slices_Equal_impl_Obs_impl_Obsrs slices_Equal_impl_Obs_impl_Obsbs)) k { env := [(13, .one (.sc (.int .i64 v13))), (1, .one (.list true (.pair (.pair (.int .i8) (.pair (.int .i8) (.pair (.int .i8) (.pair (.int .i8) (.pair (.int .i8) (.int .i8)))))) (.pair (.pair (.int .i64) (.int .i64)) (.int .i64))) v1)), (0, .one (.list true (.pair (.pair (.int .i8) (.pair (.int .i8) (.pair (.int .i8) (.pair (.int .i8) (.pair (.int .i8) (.int .i8)))))) (.pair (.pair (.int .i64) (.int .i64)) (.int .i64))) v0)), (12, .one (.sc (.int .i64 v12)))], bx := [], nx := 0 }) v13 v1 v0 v12 := by kernel_rfl
    rw [h]
    have e := congrArg (fun g => slices_Equal_impl_Obs_impl_Obs_t4 n g v13 v1 v0 v12) (funext fun v13 => funext fun v1 => funext fun v0 => funext fun v12 => slices_Equal_impl_Obs_impl_Obs_l4_eq n k v13 v1 v0 v12)
    exact e

theorem slices_Equal_impl_Obs_impl_Obs_eq (n : Nat) (a0 : List (((Int) × ((Int) × ((Int) × ((Int) × ((Int) × (Int)))))) × (((Int) × (Int)) × (Int)))) (a1 : List (((Int) × ((Int) × ((Int) × ((Int) × ((Int) × (Int)))))) × (((Int) × (Int)) × (Int)))) : runBody ([]) ty 26 n slices_Equal_impl_Obs_impl_Obskp slices_Equal_impl_Obs_impl_Obsc Go.Proofs.Try.f91.results.toList slices_Equal_impl_Obs_impl_Obsrs slices_Equal_impl_Obs_impl_Obssp slices_Equal_impl_Obs_impl_Obsbs (a0, (a1, ())) () = slices_Equal_impl_Obs_impl_Obs n a0 a1 := by
  have h : runBody ([]) ty 26 n slices_Equal_impl_Obs_impl_Obskp slices_Equal_impl_Obs_impl_Obsc Go.Proofs.Try.f91.results.toList slices_Equal_impl_Obs_impl_Obsrs slices_Equal_impl_Obs_impl_Obssp slices_Equal_impl_Obs_impl_Obsbs (a0, (a1, ())) () = slices_Equal_impl_Obs_impl_Obs_t n (fun k v13 v1 v0 v12 => iter (interp ([]) ty 26 0 n slices_Equal_impl_Obs_impl_Obskp (codeAt slices_Equal_impl_Obs_impl_Obsc [1, 1, 0, 1, 0, 0])) (canon 0 (slices_Equal_impl_Obs_impl_Obskp.loop 4)) (kAt ([]) ty 26 0 n slices_Equal_impl_Obs_impl_Obskp slices_Equal_impl_Obs_impl_Obsc [1, 1, 0, 1, 0] [] (ending ty 0 Go.Proofs.Try.f91.results.toList slices_Equal_impl_Obs_impl_Obsrs slices_Equal_impl_Obs_impl_Obsbs)) k { env := [(13, .one (.sc (.int .i64 v13))), (1, .one (.list true (.pair (.pair (.int .i8) (.pair (.int .i8) (.pair (.int .i8) (.pair (.int .i8) (.pair (.int .i8) (.int .i8)))))) (.pair (.pair (.int .i64) (.int .i64)) (.int .i64))) v1)), (0, .one (.list true (.pair (.pair (.int .i8) (.pair (.int .i8) (.pair (.int .i8) (.pair (.int .i8) (.pair (.int .i8) (.int .i8)))))) (.pair (.pair (.int .i64) (.int .i64)) (.int .i64))) v0)), (12, .one (.sc (.int .i64 v12)))], bx := [], nx := 0 }) a0 a1 := by kernel_rfl
  rw [h]
  have e := congrArg (fun h4 => slices_Equal_impl_Obs_impl_Obs_t n h4 a0 a1) (funext fun k => funext fun v13 => funext fun v1 => funext fun v0 => funext fun v12 => slices_Equal_impl_Obs_impl_Obs_l4_eq n k v13 v1 v0 v12)
  exact e

theorem slices_Equal_impl_Obs_impl_Obs_ok (n : Nat) : FunOk P (slices_Equal_impl_Obs_impl_ObsF n) :=
  funOk_mk (C := []) (N := 26) (kp := slices_Equal_impl_Obs_impl_Obskp) (c := slices_Equal_impl_Obs_impl_Obsc) (n := n) (G := fun x y => slices_Equal_impl_Obs_impl_Obs n x.1 x.2.1) follows (AllOk.mem (trivial : AllOk P ([]))) (by kernel_rfl : P.funcs[91]? = some Go.Proofs.Try.f91) (by kernel_rfl) (by kernel_rfl) (by kernel_rfl)
    (fun x y => slices_Equal_impl_Obs_impl_Obs_eq n x.1 x.2.1) (fun _ _ => map_same (fun _ => rfl) _) (fun _ _ _ _ => rfl)

abbrev impl_SameTablesp : List Sp := [.v true (.pair (.int .i64) (.pair (.list (.pair (.pair (.int .i8) (.pair (.int .i8) (.pair (.int .i8) (.pair (.int .i8) (.pair (.int .i8) (.int .i8)))))) (.pair (.pair (.int .i64) (.int .i64)) (.int .i64)))) (.pair .bool (.pair (.int .i64) (.int .i64))))), .v true (.pair (.int .i64) (.pair (.list (.pair (.pair (.int .i8) (.pair (.int .i8) (.pair (.int .i8) (.pair (.int .i8) (.pair (.int .i8) (.int .i8)))))) (.pair (.pair (.int .i64) (.int .i64)) (.int .i64)))) (.pair .bool (.pair (.int .i64) (.int .i64)))))]
abbrev impl_SameTablebs : List (Bs × Bool) := []
abbrev impl_SameTablers : List (Bool × List Rp) := [(false, [.v false .bool])]
noncomputable def impl_SameTablekp : Keep := { loop := fun id => match id with | _ => [], join := fun id => match id with | _ => none }
noncomputable def impl_SameTablec : Code := bodyOf Go.Proofs.Try.f34
noncomputable def impl_SameTableF (n : Nat) : Fun := { id := 34, sp := impl_SameTablesp, bs := impl_SameTablebs, rs := impl_SameTablers, f := fun x y => impl_SameTable n x.1 x.2.1 }

theorem impl_SameTable_eq (n : Nat) (a0 : (Int) × ((List (((Int) × ((Int) × ((Int) × ((Int) × ((Int) × (Int)))))) × (((Int) × (Int)) × (Int)))) × ((Bool) × ((Int) × (Int))))) (a1 : (Int) × ((List (((Int) × ((Int) × ((Int) × ((Int) × ((Int) × (Int)))))) × (((Int) × (Int)) × (Int)))) × ((Bool) × ((Int) × (Int))))) : runBody ([slices_Equal_impl_Obs_impl_ObsF n]) ty 31 n impl_SameTablekp impl_SameTablec Go.Proofs.Try.f34.results.toList impl_SameTablers impl_SameTablesp impl_SameTablebs (a0, (a1, ())) () = impl_SameTable n a0 a1 := by
  have h : runBody ([slices_Equal_impl_Obs_impl_ObsF n]) ty 31 n impl_SameTablekp impl_SameTablec Go.Proofs.Try.f34.results.toList impl_SameTablers impl_SameTablesp impl_SameTablebs (a0, (a1, ())) () = impl_SameTable_t n a0 a1 := by kernel_rfl
  rw [h]
  rfl

theorem impl_SameTable_ok (n : Nat) : FunOk P (impl_SameTableF n) :=
  funOk_mk (C := [slices_Equal_impl_Obs_impl_ObsF n]) (N := 31) (kp := impl_SameTablekp) (c := impl_SameTablec) (n := n) (G := fun x y => impl_SameTable n x.1 x.2.1) follows (AllOk.mem (⟨slices_Equal_impl_Obs_impl_Obs_ok n, trivial⟩ : AllOk P ([slices_Equal_impl_Obs_impl_ObsF n]))) (by kernel_rfl : P.funcs[34]? = some Go.Proofs.Try.f34) (by kernel_rfl) (by kernel_rfl) (by kernel_rfl)
    (fun x y => impl_SameTable_eq n x.1 x.2.1) (fun _ _ => map_same (fun _ => rfl) _) (fun _ _ _ _ => rfl)

abbrev laws_eqInt8A6sp : List Sp := [.v true (.pair (.int .i8) (.pair (.int .i8) (.pair (.int .i8) (.pair (.int .i8) (.pair (.int .i8) (.int .i8)))))), .v true (.pair (.int .i8) (.pair (.int .i8) (.pair (.int .i8) (.pair (.int .i8) (.pair (.int .i8) (.int .i8))))))]
abbrev laws_eqInt8A6bs : List (Bs × Bool) := []
abbrev laws_eqInt8A6rs : List (Bool × List Rp) := [(false, [.v false .bool])]
noncomputable def laws_eqInt8A6kp : Keep := { loop := fun id => match id with | 2 => [5, 3, 2] | _ => [], join := fun id => match id with | _ => none }
noncomputable def laws_eqInt8A6c : Code := bodyOf Go.Proofs.Try.f176
noncomputable def laws_eqInt8A6F (n : Nat) : Fun := { id := 176, sp := laws_eqInt8A6sp, bs := laws_eqInt8A6bs, rs := laws_eqInt8A6rs, f := fun x y => laws_eqInt8A6 n x.1 x.2.1 }

theorem laws_eqInt8A6_l2_eq (n : Nat) : ∀ (k : Nat) (v5 : Int) (b0_0 : Int) (b0_1 : Int) (b0_2 : Int) (b0_3 : Int) (b0_4 : Int) (b0_5 : Int) (b1_0 : Int) (b1_1 : Int) (b1_2 : Int) (b1_3 : Int) (b1_4 : Int) (b1_5 : Int), iter (interp ([]) ty 17 0 n laws_eqInt8A6kp (codeAt laws_eqInt8A6c [1, 0, 1, 0, 0])) (canon 0 (laws_eqInt8A6kp.loop 2)) (kAt ([]) ty 17 0 n laws_eqInt8A6kp laws_eqInt8A6c [1, 0, 1, 0] [] (ending ty 0 Go.Proofs.Try.f176.results.toList laws_eqInt8A6rs laws_eqInt8A6bs)) k { env := [(5, .one (.sc (.int .i64 v5))), (3, .one (.ref 0 0 0 0 0 0)), (2, .one (.ref 1 0 0 0 0 0))], bx := [(0, .var 74 [.sc (.int .i8 b0_0), .sc (.int .i8 b0_1), .sc (.int .i8 b0_2), .sc (.int .i8 b0_3), .sc (.int .i8 b0_4), .sc (.int .i8 b0_5)]), (1, .var 74 [.sc (.int .i8 b1_0), .sc (.int .i8 b1_1), .sc (.int .i8 b1_2), .sc (.int .i8 b1_3), .sc (.int .i8 b1_4), .sc (.int .i8 b1_5)])], nx := 2 } = laws_eqInt8A6_l2 n k v5 b0_0 b0_1 b0_2 b0_3 b0_4 b0_5 b1_0 b1_1 b1_2 b1_3 b1_4 b1_5
  | 0, _, _, _, _, _, _, _, _, _, _, _, _, _ => by kernel_rfl
  | k + 1, v5, b0_0, b0_1, b0_2, b0_3, b0_4, b0_5, b1_0, b1_1, b1_2, b1_3, b1_4, b1_5 => by
    have h : iter (interp ([]) ty 17 0 n laws_eqInt8A6kp (codeAt laws_eqInt8A6c [1, 0, 1, 0, 0])) (canon 0 (laws_eqInt8A6kp.loop 2)) (kAt ([]) ty 17 0 n laws_eqInt8A6kp laws_eqInt8A6c [1, 0, 1, 0] [] (ending ty 0 Go.Proofs.Try.f176.results.toList laws_eqInt8A6rs laws_eqInt8A6bs)) (k + 1) { env := [(5, .one (.sc (.int .i64 v5))), (3, .one (.ref 0 0 0 0 0 0)), (2, .one (.ref 1 0 0 0 0 0))], bx := [(0, .var 74 [.sc (.int .i8 b0_0), .sc (.int .i8 b0_1), .sc (.int .i8 b0_2), .sc (.int .i8 b0_3), .sc (.int .i8 b0_4), .sc (.int .i8 b0_5)]), (1, .var 74 [.sc (.int .i8 b1_0), .sc (.int .i8 b1_1), .sc (.int .i8 b1_2), .sc (.int .i8 b1_3), .sc (.int .i8 b1_4), .sc (.int .i8 b1_5)])], nx := 2 } = laws_eqInt8A6_t2 n (fun v5 b0_0 b0_1 b0_2 b0_3 b0_4 b0_5 b1_0 b1_1 b1_2 b1_3 b1_4 b1_5 => iter (interp ([]) ty 17 0 n laws_eqInt8A6kp (codeAt laws_eqInt8A6c [1, 0, 1, 0, 0])) (canon 0 (laws_eqInt8A6kp.loop 2)) (kAt ([]) ty 17 0 n laws_eqInt8A6kp laws_eqInt8A6c [1, 0, 1, 0] [] (ending ty 0 Go.Proofs.Try.f176.results.toList laws_eqInt8A6rs laws_eqInt8A6bs)) k { env := [(5, .one (.sc (.int .i64 v5))), (3, .one (.ref 0 0 0 0 0 0)), (2, .one (.ref 1 0 0 0 0 0))], bx := [(0, .var 74 [.sc (.int .i8 b0_0), .sc (.int .i8 b0_1), .sc (.int .i8 b0_2), .sc (.int .i8 b0_3), .sc (.int .i8 b0_4), .sc (.int .i8 b0_5)]), (1, .var 74 [.sc (.int .i8 b1_0), .sc (.int .i8 b1_1), .sc (.int .i8 b1_2), .sc (.int .i8 b1_3), .sc (.int .i8 b1_4), .sc (.int .i8 b1_5)])], nx := 2 }) v5 b0_0 b0_1 b0_2 b0_3 b0_4 b0_5 b1_0 b1_1 b1_2 b1_3 b1_4 b1_5 := by kernel_rfl
    rw [h]
    have e := congrArg (fun g => laws_eqInt8A6_t2 n g v5 b0_0 b0_1 b0_2 b0_3 b0_4 b0_5 b1_0 b1_1 b1_2 b1_3 b1_4 b1_5) (funext fun v5 => funext fun b0_0 => funext fun b0_1 => funext fun b0_2 => funext fun b0_3 => funext fun b0_4 => funext fun b0_5 => funext fun b1_0 => funext fun b1_1 => funext fun b1_2 => funext fun b1_3 => funext fun b1_4 => funext fun b1_5 => laws_eqInt8A6_l2_eq n k v5 b0_0 b0_1 b0_2 b0_3 b0_4 b0_5 b1_0 b1_1 b1_2 b1_3 b1_4 b1_5)
    exact e

theorem laws_eqInt8A6_eq (n : Nat) (a0 : (Int) × ((Int) × ((Int) × ((Int) × ((Int) × (Int)))))) (a1 : (Int) × ((Int) × ((Int) × ((Int) × ((Int) × (Int)))))) : runBody ([]) ty 17 n laws_eqInt8A6kp laws_eqInt8A6c Go.Proofs.Try.f176.results.toList laws_eqInt8A6rs laws_eqInt8A6sp laws_eqInt8A6bs (a0, (a1, ())) () = laws_eqInt8A6 n a0 a1 := by
  have h : runBody ([]) ty 17 n laws_eqInt8A6kp laws_eqInt8A6c Go.Proofs.Try.f176.results.toList laws_eqInt8A6rs laws_eqInt8A6sp laws_eqInt8A6bs (a0, (a1, ())) () = laws_eqInt8A6_t n (fun k v5 b0_0 b0_1 b0_2 b0_3 b0_4 b0_5 b1_0 b1_1 b1_2 b1_3 b1_4 b1_5 => iter (interp ([]) ty 17 0 n laws_eqInt8A6kp (codeAt laws_eqInt8A6c [1, 0, 1, 0, 0])) (canon 0 (laws_eqInt8A6kp.loop 2)) (kAt ([]) ty 17 0 n laws_eqInt8A6kp laws_eqInt8A6c [1, 0, 1, 0] [] (ending ty 0 Go.Proofs.Try.f176.results.toList laws_eqInt8A6rs laws_eqInt8A6bs)) k { env := [(5, .one (.sc (.int .i64 v5))), (3, .one (.ref 0 0 0 0 0 0)), (2, .one (.ref 1 0 0 0 0 0))], bx := [(0, .var 74 [.sc (.int .i8 b0_0), .sc (.int .i8 b0_1), .sc (.int .i8 b0_2), .sc (.int .i8 b0_3), .sc (.int .i8 b0_4), .sc (.int .i8 b0_5)]), (1, .var 74 [.sc (.int .i8 b1_0), .sc (.int .i8 b1_1), .sc (.int .i8 b1_2), .sc (.int .i8 b1_3), .sc (.int .i8 b1_4), .sc (.int .i8 b1_5)])], nx := 2 }) a0 a1 := by kernel_rfl
  rw [h]
  have e := congrArg (fun h2 => laws_eqInt8A6_t n h2 a0 a1) (funext fun k => funext fun v5 => funext fun b0_0 => funext fun b0_1 => funext fun b0_2 => funext fun b0_3 => funext fun b0_4 => funext fun b0_5 => funext fun b1_0 => funext fun b1_1 => funext fun b1_2 => funext fun b1_3 => funext fun b1_4 => funext fun b1_5 => laws_eqInt8A6_l2_eq n k v5 b0_0 b0_1 b0_2 b0_3 b0_4 b0_5 b1_0 b1_1 b1_2 b1_3 b1_4 b1_5)
  exact e

theorem laws_eqInt8A6_ok (n : Nat) : FunOk P (laws_eqInt8A6F n) :=
  funOk_mk (C := []) (N := 17) (kp := laws_eqInt8A6kp) (c := laws_eqInt8A6c) (n := n) (G := fun x y => laws_eqInt8A6 n x.1 x.2.1) follows (AllOk.mem (trivial : AllOk P ([]))) (by kernel_rfl : P.funcs[176]? = some Go.Proofs.Try.f176) (by kernel_rfl) (by kernel_rfl) (by kernel_rfl)
    (fun x y => laws_eqInt8A6_eq n x.1 x.2.1) (fun _ _ => map_same (fun _ => rfl) _) (fun _ _ _ _ => rfl)

abbrev laws_eqFracsp : List Sp := [.v true (.pair (.int .i64) (.int .i64)), .v true (.pair (.int .i64) (.int .i64))]
abbrev laws_eqFracbs : List (Bs × Bool) := []
abbrev laws_eqFracrs : List (Bool × List Rp) := [(false, [.v false .bool])]
noncomputable def laws_eqFrackp : Keep := { loop := fun id => match id with | _ => [], join := fun id => match id with | _ => none }
noncomputable def laws_eqFracc : Code := bodyOf Go.Proofs.Try.f23
noncomputable def laws_eqFracF (n : Nat) : Fun := { id := 23, sp := laws_eqFracsp, bs := laws_eqFracbs, rs := laws_eqFracrs, f := fun x y => laws_eqFrac n x.1 x.2.1 }

theorem laws_eqFrac_eq (n : Nat) (a0 : (Int) × (Int)) (a1 : (Int) × (Int)) : runBody ([]) ty 15 n laws_eqFrackp laws_eqFracc Go.Proofs.Try.f23.results.toList laws_eqFracrs laws_eqFracsp laws_eqFracbs (a0, (a1, ())) () = laws_eqFrac n a0 a1 := by
  have h : runBody ([]) ty 15 n laws_eqFrackp laws_eqFracc Go.Proofs.Try.f23.results.toList laws_eqFracrs laws_eqFracsp laws_eqFracbs (a0, (a1, ())) () = laws_eqFrac_t n a0 a1 := by kernel_rfl
  rw [h]
  rfl

theorem laws_eqFrac_ok (n : Nat) : FunOk P (laws_eqFracF n) :=
  funOk_mk (C := []) (N := 15) (kp := laws_eqFrackp) (c := laws_eqFracc) (n := n) (G := fun x y => laws_eqFrac n x.1 x.2.1) follows (AllOk.mem (trivial : AllOk P ([]))) (by kernel_rfl : P.funcs[23]? = some Go.Proofs.Try.f23) (by kernel_rfl) (by kernel_rfl) (by kernel_rfl)
    (fun x y => laws_eqFrac_eq n x.1 x.2.1) (fun _ _ => map_same (fun _ => rfl) _) (fun _ _ _ _ => rfl)

abbrev laws_eqObssp : List Sp := [.v true (.pair (.pair (.int .i8) (.pair (.int .i8) (.pair (.int .i8) (.pair (.int .i8) (.pair (.int .i8) (.int .i8)))))) (.pair (.pair (.int .i64) (.int .i64)) (.int .i64))), .v true (.pair (.pair (.int .i8) (.pair (.int .i8) (.pair (.int .i8) (.pair (.int .i8) (.pair (.int .i8) (.int .i8)))))) (.pair (.pair (.int .i64) (.int .i64)) (.int .i64)))]
abbrev laws_eqObsbs : List (Bs × Bool) := []
abbrev laws_eqObsrs : List (Bool × List Rp) := [(false, [.v false .bool])]
noncomputable def laws_eqObskp : Keep := { loop := fun id => match id with | _ => [], join := fun id => match id with | _ => none }
noncomputable def laws_eqObsc : Code := bodyOf Go.Proofs.Try.f145
noncomputable def laws_eqObsF (n : Nat) : Fun := { id := 145, sp := laws_eqObssp, bs := laws_eqObsbs, rs := laws_eqObsrs, f := fun x y => laws_eqObs n x.1 x.2.1 }

theorem laws_eqObs_eq (n : Nat) (a0 : ((Int) × ((Int) × ((Int) × ((Int) × ((Int) × (Int)))))) × (((Int) × (Int)) × (Int))) (a1 : ((Int) × ((Int) × ((Int) × ((Int) × ((Int) × (Int)))))) × (((Int) × (Int)) × (Int))) : runBody ([laws_eqInt8A6F n, laws_eqFracF n]) ty 22 n laws_eqObskp laws_eqObsc Go.Proofs.Try.f145.results.toList laws_eqObsrs laws_eqObssp laws_eqObsbs (a0, (a1, ())) () = laws_eqObs n a0 a1 := by
  have h : runBody ([laws_eqInt8A6F n, laws_eqFracF n]) ty 22 n laws_eqObskp laws_eqObsc Go.Proofs.Try.f145.results.toList laws_eqObsrs laws_eqObssp laws_eqObsbs (a0, (a1, ())) () = laws_eqObs_t n a0 a1 := by kernel_rfl
  rw [h]
  rfl

theorem laws_eqObs_ok (n : Nat) : FunOk P (laws_eqObsF n) :=
  funOk_mk (C := [laws_eqInt8A6F n, laws_eqFracF n]) (N := 22) (kp := laws_eqObskp) (c := laws_eqObsc) (n := n) (G := fun x y => laws_eqObs n x.1 x.2.1) follows (AllOk.mem (⟨laws_eqInt8A6_ok n, ⟨laws_eqFrac_ok n, trivial⟩⟩ : AllOk P ([laws_eqInt8A6F n, laws_eqFracF n]))) (by kernel_rfl : P.funcs[145]? = some Go.Proofs.Try.f145) (by kernel_rfl) (by kernel_rfl) (by kernel_rfl)
    (fun x y => laws_eqObs_eq n x.1 x.2.1) (fun _ _ => map_same (fun _ => rfl) _) (fun _ _ _ _ => rfl)

abbrev laws_eqObsSsp : List Sp := [.v false (.list (.pair (.pair (.int .i8) (.pair (.int .i8) (.pair (.int .i8) (.pair (.int .i8) (.pair (.int .i8) (.int .i8)))))) (.pair (.pair (.int .i64) (.int .i64)) (.int .i64)))), .v false (.list (.pair (.pair (.int .i8) (.pair (.int .i8) (.pair (.int .i8) (.pair (.int .i8) (.pair (.int .i8) (.int .i8)))))) (.pair (.pair (.int .i64) (.int .i64)) (.int .i64))))]
abbrev laws_eqObsSbs : List (Bs × Bool) := []
abbrev laws_eqObsSrs : List (Bool × List Rp) := [(false, [.v false .bool])]
noncomputable def laws_eqObsSkp : Keep := { loop := fun id => match id with | 4 => [5, 1, 0] | _ => [], join := fun id => match id with | _ => none }
noncomputable def laws_eqObsSc : Code := bodyOf Go.Proofs.Try.f92
noncomputable def laws_eqObsSF (n : Nat) : Fun := { id := 92, sp := laws_eqObsSsp, bs := laws_eqObsSbs, rs := laws_eqObsSrs, f := fun x y => laws_eqObsS n x.1 x.2.1 }

theorem laws_eqObsS_l4_eq (n : Nat) : ∀ (k : Nat) (v5 : Int) (v1 : List (((Int) × ((Int) × ((Int) × ((Int) × ((Int) × (Int)))))) × (((Int) × (Int)) × (Int)))) (v0 : List (((Int) × ((Int) × ((Int) × ((Int) × ((Int) × (Int)))))) × (((Int) × (Int)) × (Int)))), iter (interp ([laws_eqObsF n]) ty 27 0 n laws_eqObsSkp (codeAt laws_eqObsSc [1, 1, 0, 1, 0, 0])) (canon 0 (laws_eqObsSkp.loop 4)) (kAt ([laws_eqObsF n]) ty 27 0 n laws_eqObsSkp laws_eqObsSc [1, 1, 0, 1, 0] [] (ending ty 0 Go.Proofs.Try.f92.results.toList laws_eqObsSrs laws_eqObsSbs)) k { env := [(5, .one (.sc (.int .i64 v5))), (1, .one (.list true (.pair (.pair (.int .i8) (.pair (.int .i8) (.pair (.int .i8) (.pair (.int .i8) (.pair (.int .i8) (.int .i8)))))) (.pair (.pair (.int .i64) (.int .i64)) (.int .i64))) v1)), (0, .one (.list true (.pair (.pair (.int .i8) (.pair (.int .i8) (.pair (.int .i8) (.pair (.int .i8) (.pair (.int .i8) (.int .i8)))))) (.pair (.pair (.int .i64) (.int .i64)) (.int .i64))) v0))], bx := [], nx := 0 } = laws_eqObsS_l4 n k v5 v1 v0
  | 0, _, _, _ => by kernel_rfl
  | k + 1, v5, v1, v0 => by
    have h : iter (interp ([laws_eqObsF n]) ty 27 0 n laws_eqObsSkp (codeAt laws_eqObsSc [1, 1, 0, 1, 0, 0])) (canon 0 (laws_eqObsSkp.loop 4)) (kAt ([laws_eqObsF n]) ty 27 0 n laws_eqObsSkp laws_eqObsSc [1, 1, 0, 1, 0] [] (ending ty 0 Go.Proofs.Try.f92.results.toList laws_eqObsSrs laws_eqObsSbs)) (k + 1) { env := [(5, .one (.sc (.int .i64 v5))), (1, .one (.list true (.pair (.pair (.int .i8) (.pair (.int .i8) (.pair (.int .i8) (.pair (.int .i8) (.pair (.int .i8) (.int .i8)))))) (.pair (.pair (.int .i64) (.int .i64)) (.int .i64))) v1)), (0, .one (.list true (.pair (.pair (.int .i8) (.pair (.int .i8) (.pair (.int .i8) (.pair (.int .i8) (.pair (.int .i8) (.int .i8)))))) (.pair (.pair (.int .i64) (.int .i64)) (.int .i64))) v0))], bx := [], nx := 0 } = laws_eqObsS_t4 n (fun v5 v1 v0 => iter (interp ([laws_eqObsF n]) ty 27 0 n laws_eqObsSkp (codeAt laws_eqObsSc [1, 1, 0, 1, 0, 0])) (canon 0 (laws_eqObsSkp.loop 4)) (kAt ([laws_eqObsF n]) ty 27 0 n laws_eqObsSkp laws_eqObsSc [1, 1, 0, 1, 0] [] (ending ty 0 Go.Proofs.Try.f92.results.toList laws_eqObsSrs laws_eqObsSbs)) k { env := [(5, .one (.sc (.int .i64 v5))), (1, .one (.list true (.pair (.pair (.int .i8) (.pair (.int .i8) (.pair (.int .i8) (.pair (.int .i8) (.pair (.int .i8) (.int .i8)))))) (.pair (.pair (.int .i64) (.int .i64)) (.int .i64))) v1)), (0, .one (.list true (.pair (.pair (.int .i8) (.pair (.int .i8) (.pair (.int .i8) (.pair (.int .i8) (.pair (.int .i8) (.int .i8)))))) (.pair (.pair (.int .i64) (.int .i64)) (.int .i64))) v0))], bx := [], nx := 0 }) v5 v1 v0 := by kernel_rfl
    rw [h]
    have e := congrArg (fun g => laws_eqObsS_t4 n g v5 v1 v0) (funext fun v5 => funext fun v1 => funext fun v0 => laws_eqObsS_l4_eq n k v5 v1 v0)
    exact e

theorem laws_eqObsS_eq (n : Nat) (a0 : List (((Int) × ((Int) × ((Int) × ((Int) × ((Int) × (Int)))))) × (((Int) × (Int)) × (Int)))) (a1 : List (((Int) × ((Int) × ((Int) × ((Int) × ((Int) × (Int)))))) × (((Int) × (Int)) × (Int)))) : runBody ([laws_eqObsF n]) ty 27 n laws_eqObsSkp laws_eqObsSc Go.Proofs.Try.f92.results.toList laws_eqObsSrs laws_eqObsSsp laws_eqObsSbs (a0, (a1, ())) () = laws_eqObsS n a0 a1 := by
  have h : runBody ([laws_eqObsF n]) ty 27 n laws_eqObsSkp laws_eqObsSc Go.Proofs.Try.f92.results.toList laws_eqObsSrs laws_eqObsSsp laws_eqObsSbs (a0, (a1, ())) () = laws_eqObsS_t n (fun k v5 v1 v0 => iter (interp ([laws_eqObsF n]) ty 27 0 n laws_eqObsSkp (codeAt laws_eqObsSc [1, 1, 0, 1, 0, 0])) (canon 0 (laws_eqObsSkp.loop 4)) (kAt ([laws_eqObsF n]) ty 27 0 n laws_eqObsSkp laws_eqObsSc [1, 1, 0, 1, 0] [] (ending ty 0 Go.Proofs.Try.f92.results.toList laws_eqObsSrs laws_eqObsSbs)) k { env := [(5, .one (.sc (.int .i64 v5))), (1, .one (.list true (.pair (.pair (.int .i8) (.pair (.int .i8) (.pair (.int .i8) (.pair (.int .i8) (.pair (.int .i8) (.int .i8)))))) (.pair (.pair (.int .i64) (.int .i64)) (.int .i64))) v1)), (0, .one (.list true (.pair (.pair (.int .i8) (.pair (.int .i8) (.pair (.int .i8) (.pair (.int .i8) (.pair (.int .i8) (.int .i8)))))) (.pair (.pair (.int .i64) (.int .i64)) (.int .i64))) v0))], bx := [], nx := 0 }) a0 a1 := by kernel_rfl
  rw [h]
  have e := congrArg (fun h4 => laws_eqObsS_t n h4 a0 a1) (funext fun k => funext fun v5 => funext fun v1 => funext fun v0 => laws_eqObsS_l4_eq n k v5 v1 v0)
  exact e

theorem laws_eqObsS_ok (n : Nat) : FunOk P (laws_eqObsSF n) :=
  funOk_mk (C := [laws_eqObsF n]) (N := 27) (kp := laws_eqObsSkp) (c := laws_eqObsSc) (n := n) (G := fun x y => laws_eqObsS n x.1 x.2.1) follows (AllOk.mem (⟨laws_eqObs_ok n, trivial⟩ : AllOk P ([laws_eqObsF n]))) (by kernel_rfl : P.funcs[92]? = some Go.Proofs.Try.f92) (by kernel_rfl) (by kernel_rfl) (by kernel_rfl)
    (fun x y => laws_eqObsS_eq n x.1 x.2.1) (fun _ _ => map_same (fun _ => rfl) _) (fun _ _ _ _ => rfl)

abbrev laws_eqTablesp : List Sp := [.v true (.pair (.int .i64) (.pair (.list (.pair (.pair (.int .i8) (.pair (.int .i8) (.pair (.int .i8) (.pair (.int .i8) (.pair (.int .i8) (.int .i8)))))) (.pair (.pair (.int .i64) (.int .i64)) (.int .i64)))) (.pair .bool (.pair (.int .i64) (.int .i64))))), .v true (.pair (.int .i64) (.pair (.list (.pair (.pair (.int .i8) (.pair (.int .i8) (.pair (.int .i8) (.pair (.int .i8) (.pair (.int .i8) (.int .i8)))))) (.pair (.pair (.int .i64) (.int .i64)) (.int .i64)))) (.pair .bool (.pair (.int .i64) (.int .i64)))))]
abbrev laws_eqTablebs : List (Bs × Bool) := []
abbrev laws_eqTablers : List (Bool × List Rp) := [(false, [.v false .bool])]
noncomputable def laws_eqTablekp : Keep := { loop := fun id => match id with | _ => [], join := fun id => match id with | _ => none }
noncomputable def laws_eqTablec : Code := bodyOf Go.Proofs.Try.f35
noncomputable def laws_eqTableF (n : Nat) : Fun := { id := 35, sp := laws_eqTablesp, bs := laws_eqTablebs, rs := laws_eqTablers, f := fun x y => laws_eqTable n x.1 x.2.1 }

theorem laws_eqTable_eq (n : Nat) (a0 : (Int) × ((List (((Int) × ((Int) × ((Int) × ((Int) × ((Int) × (Int)))))) × (((Int) × (Int)) × (Int)))) × ((Bool) × ((Int) × (Int))))) (a1 : (Int) × ((List (((Int) × ((Int) × ((Int) × ((Int) × ((Int) × (Int)))))) × (((Int) × (Int)) × (Int)))) × ((Bool) × ((Int) × (Int))))) : runBody ([laws_eqObsSF n, laws_eqFracF n]) ty 27 n laws_eqTablekp laws_eqTablec Go.Proofs.Try.f35.results.toList laws_eqTablers laws_eqTablesp laws_eqTablebs (a0, (a1, ())) () = laws_eqTable n a0 a1 := by
  have h : runBody ([laws_eqObsSF n, laws_eqFracF n]) ty 27 n laws_eqTablekp laws_eqTablec Go.Proofs.Try.f35.results.toList laws_eqTablers laws_eqTablesp laws_eqTablebs (a0, (a1, ())) () = laws_eqTable_t n a0 a1 := by kernel_rfl
  rw [h]
  rfl

theorem laws_eqTable_ok (n : Nat) : FunOk P (laws_eqTableF n) :=
  funOk_mk (C := [laws_eqObsSF n, laws_eqFracF n]) (N := 27) (kp := laws_eqTablekp) (c := laws_eqTablec) (n := n) (G := fun x y => laws_eqTable n x.1 x.2.1) follows (AllOk.mem (⟨laws_eqObsS_ok n, ⟨laws_eqFrac_ok n, trivial⟩⟩ : AllOk P ([laws_eqObsSF n, laws_eqFracF n]))) (by kernel_rfl : P.funcs[35]? = some Go.Proofs.Try.f35) (by kernel_rfl) (by kernel_rfl) (by kernel_rfl)
    (fun x y => laws_eqTable_eq n x.1 x.2.1) (fun _ _ => map_same (fun _ => rfl) _) (fun _ _ _ _ => rfl)

abbrev laws_FnExactSameTablesp : List Sp := [.v true (.pair (.int .i64) (.pair (.list (.pair (.pair (.int .i8) (.pair (.int .i8) (.pair (.int .i8) (.pair (.int .i8) (.pair (.int .i8) (.int .i8)))))) (.pair (.pair (.int .i64) (.int .i64)) (.int .i64)))) (.pair .bool (.pair (.int .i64) (.int .i64))))), .v true (.pair (.int .i64) (.pair (.list (.pair (.pair (.int .i8) (.pair (.int .i8) (.pair (.int .i8) (.pair (.int .i8) (.pair (.int .i8) (.int .i8)))))) (.pair (.pair (.int .i64) (.int .i64)) (.int .i64)))) (.pair .bool (.pair (.int .i64) (.int .i64)))))]
abbrev laws_FnExactSameTablebs : List (Bs × Bool) := []
abbrev laws_FnExactSameTablers : List (Bool × List Rp) := [(false, [.v false .bool])]
noncomputable def laws_FnExactSameTablekp : Keep := { loop := fun id => match id with | _ => [], join := fun id => match id with | _ => none }
noncomputable def laws_FnExactSameTablec : Code := bodyOf Go.Proofs.Try.f7
noncomputable def laws_FnExactSameTableF (n : Nat) : Fun := { id := 7, sp := laws_FnExactSameTablesp, bs := laws_FnExactSameTablebs, rs := laws_FnExactSameTablers, f := fun x y => laws_FnExactSameTable n x.1 x.2.1 }

theorem laws_FnExactSameTable_eq (n : Nat) (a0 : (Int) × ((List (((Int) × ((Int) × ((Int) × ((Int) × ((Int) × (Int)))))) × (((Int) × (Int)) × (Int)))) × ((Bool) × ((Int) × (Int))))) (a1 : (Int) × ((List (((Int) × ((Int) × ((Int) × ((Int) × ((Int) × (Int)))))) × (((Int) × (Int)) × (Int)))) × ((Bool) × ((Int) × (Int))))) : runBody ([laws_szTableF n, laws_toTableF n, spec_SameTableF n, impl_SameTableF n, laws_eqTableF n]) ty 45 n laws_FnExactSameTablekp laws_FnExactSameTablec Go.Proofs.Try.f7.results.toList laws_FnExactSameTablers laws_FnExactSameTablesp laws_FnExactSameTablebs (a0, (a1, ())) () = laws_FnExactSameTable n a0 a1 := by
  have h : runBody ([laws_szTableF n, laws_toTableF n, spec_SameTableF n, impl_SameTableF n, laws_eqTableF n]) ty 45 n laws_FnExactSameTablekp laws_FnExactSameTablec Go.Proofs.Try.f7.results.toList laws_FnExactSameTablers laws_FnExactSameTablesp laws_FnExactSameTablebs (a0, (a1, ())) () = laws_FnExactSameTable_t n a0 a1 := by kernel_rfl
  rw [h]
  rfl

theorem laws_FnExactSameTable_ok (n : Nat) : FunOk P (laws_FnExactSameTableF n) :=
  funOk_mk (C := [laws_szTableF n, laws_toTableF n, spec_SameTableF n, impl_SameTableF n, laws_eqTableF n]) (N := 45) (kp := laws_FnExactSameTablekp) (c := laws_FnExactSameTablec) (n := n) (G := fun x y => laws_FnExactSameTable n x.1 x.2.1) follows (AllOk.mem (⟨laws_szTable_ok n, ⟨laws_toTable_ok n, ⟨spec_SameTable_ok n, ⟨impl_SameTable_ok n, ⟨laws_eqTable_ok n, trivial⟩⟩⟩⟩⟩ : AllOk P ([laws_szTableF n, laws_toTableF n, spec_SameTableF n, impl_SameTableF n, laws_eqTableF n]))) (by kernel_rfl : P.funcs[7]? = some Go.Proofs.Try.f7) (by kernel_rfl) (by kernel_rfl) (by kernel_rfl)
    (fun x y => laws_FnExactSameTable_eq n x.1 x.2.1) (fun _ _ => map_same (fun _ => rfl) _) (fun _ _ _ _ => rfl)

end Go.Abs
