import Derived.Test.YtmkhdpdepomohaaDResidualsOf0
import Derived.Test.YtmkhdpdepomohaaProg
import Derived.Test.YtmkhdpdepomohaaRow
import Derived.KernelRfl
namespace Go.Abs
open Go.Proofs
set_option maxRecDepth 100000
set_option linter.unusedVariables false

noncomputable abbrev P : Program := Try.prog
noncomputable abbrev ty : Nat → Option TyI := tyOf P
def bodyOf (f : Func) : Code := match f.body with | some c => c | none => .skip
theorem follows : P.follows .mixedOrders = true := by kernel_rfl

abbrev laws_szObsSsp : List Sp := [.v false (.list (.pair (.pair (.int .i8) (.pair (.int .i8) (.pair (.int .i8) (.pair (.int .i8) (.pair (.int .i8) (.int .i8)))))) (.pair (.pair (.int .i64) (.int .i64)) (.int .i64)))), .v false (.int .i64)]
abbrev laws_szObsSbs : List (Bs × Bool) := []
abbrev laws_szObsSrs : List (Bool × List Rp) := [(false, [.v false (.int .i64)])]
noncomputable def laws_szObsSkp : Keep := { loop := fun id => match id with | _ => ([], []), join := fun id => match id with | _ => none }
noncomputable def laws_szObsSc : Code := bodyOf Go.Proofs.Try.f116
noncomputable def laws_szObsSF (n : Nat) : Fun := { id := 116, sp := laws_szObsSsp, bs := laws_szObsSbs, rs := laws_szObsSrs, f := fun x y => laws_szObsS n x.1 x.2.1 }

theorem laws_szObsS_eq (n : Nat) (a0 : List (((Int) × ((Int) × ((Int) × ((Int) × ((Int) × (Int)))))) × (((Int) × (Int)) × (Int)))) (a1 : Int) : runBody ([]) ty 12 n laws_szObsSkp laws_szObsSc Go.Proofs.Try.f116.results.toList laws_szObsSrs laws_szObsSsp laws_szObsSbs (a0, (a1, ())) () = laws_szObsS n a0 a1 := by
  have h : runBody ([]) ty 12 n laws_szObsSkp laws_szObsSc Go.Proofs.Try.f116.results.toList laws_szObsSrs laws_szObsSsp laws_szObsSbs (a0, (a1, ())) () = laws_szObsS_t n a0 a1 := by kernel_rfl
  rw [h]
  rfl

theorem laws_szObsS_ok (n : Nat) : FunOk P (laws_szObsSF n) :=
  funOk_mk (C := []) (N := 12) (kp := laws_szObsSkp) (c := laws_szObsSc) (n := n) (G := fun x y => laws_szObsS n x.1 x.2.1) follows (AllOk.mem (trivial : AllOk P ([]))) (by kernel_rfl : P.funcs[116]? = some Go.Proofs.Try.f116) (by kernel_rfl) (by kernel_rfl) (by kernel_rfl)
    (fun x y => laws_szObsS_eq n x.1 x.2.1) (fun _ _ => map_same (fun _ => rfl) _) (fun _ _ _ _ => rfl)

abbrev laws_szTablesp : List Sp := [.v true (.pair (.int .i64) (.pair (.list (.pair (.pair (.int .i8) (.pair (.int .i8) (.pair (.int .i8) (.pair (.int .i8) (.pair (.int .i8) (.int .i8)))))) (.pair (.pair (.int .i64) (.int .i64)) (.int .i64)))) (.pair .bool (.pair (.int .i64) (.int .i64))))), .v false (.int .i64)]
abbrev laws_szTablebs : List (Bs × Bool) := []
abbrev laws_szTablers : List (Bool × List Rp) := [(false, [.v false (.int .i64)])]
noncomputable def laws_szTablekp : Keep := { loop := fun id => match id with | _ => ([], []), join := fun id => match id with | _ => none }
noncomputable def laws_szTablec : Code := bodyOf Go.Proofs.Try.f54
noncomputable def laws_szTableF (n : Nat) : Fun := { id := 54, sp := laws_szTablesp, bs := laws_szTablebs, rs := laws_szTablers, f := fun x y => laws_szTable n x.1 x.2.1 }

theorem laws_szTable_eq (n : Nat) (a0 : (Int) × ((List (((Int) × ((Int) × ((Int) × ((Int) × ((Int) × (Int)))))) × (((Int) × (Int)) × (Int)))) × ((Bool) × ((Int) × (Int))))) (a1 : Int) : runBody ([laws_szObsSF n]) ty 12 n laws_szTablekp laws_szTablec Go.Proofs.Try.f54.results.toList laws_szTablers laws_szTablesp laws_szTablebs (a0, (a1, ())) () = laws_szTable n a0 a1 := by
  have h : runBody ([laws_szObsSF n]) ty 12 n laws_szTablekp laws_szTablec Go.Proofs.Try.f54.results.toList laws_szTablers laws_szTablesp laws_szTablebs (a0, (a1, ())) () = laws_szTable_t n a0 a1 := by kernel_rfl
  rw [h]
  rfl

theorem laws_szTable_ok (n : Nat) : FunOk P (laws_szTableF n) :=
  funOk_mk (C := [laws_szObsSF n]) (N := 12) (kp := laws_szTablekp) (c := laws_szTablec) (n := n) (G := fun x y => laws_szTable n x.1 x.2.1) follows (AllOk.mem (⟨laws_szObsS_ok n, trivial⟩ : AllOk P ([laws_szObsSF n]))) (by kernel_rfl : P.funcs[54]? = some Go.Proofs.Try.f54) (by kernel_rfl) (by kernel_rfl) (by kernel_rfl)
    (fun x y => laws_szTable_eq n x.1 x.2.1) (fun _ _ => map_same (fun _ => rfl) _) (fun _ _ _ _ => rfl)

abbrev laws_szFracSsp : List Sp := [.v false (.list (.pair (.int .i64) (.int .i64))), .v false (.int .i64)]
abbrev laws_szFracSbs : List (Bs × Bool) := []
abbrev laws_szFracSrs : List (Bool × List Rp) := [(false, [.v false (.int .i64)])]
noncomputable def laws_szFracSkp : Keep := { loop := fun id => match id with | _ => ([], []), join := fun id => match id with | _ => none }
noncomputable def laws_szFracSc : Code := bodyOf Go.Proofs.Try.f38
noncomputable def laws_szFracSF (n : Nat) : Fun := { id := 38, sp := laws_szFracSsp, bs := laws_szFracSbs, rs := laws_szFracSrs, f := fun x y => laws_szFracS n x.1 x.2.1 }

theorem laws_szFracS_eq (n : Nat) (a0 : List ((Int) × (Int))) (a1 : Int) : runBody ([]) ty 12 n laws_szFracSkp laws_szFracSc Go.Proofs.Try.f38.results.toList laws_szFracSrs laws_szFracSsp laws_szFracSbs (a0, (a1, ())) () = laws_szFracS n a0 a1 := by
  have h : runBody ([]) ty 12 n laws_szFracSkp laws_szFracSc Go.Proofs.Try.f38.results.toList laws_szFracSrs laws_szFracSsp laws_szFracSbs (a0, (a1, ())) () = laws_szFracS_t n a0 a1 := by kernel_rfl
  rw [h]
  rfl

theorem laws_szFracS_ok (n : Nat) : FunOk P (laws_szFracSF n) :=
  funOk_mk (C := []) (N := 12) (kp := laws_szFracSkp) (c := laws_szFracSc) (n := n) (G := fun x y => laws_szFracS n x.1 x.2.1) follows (AllOk.mem (trivial : AllOk P ([]))) (by kernel_rfl : P.funcs[38]? = some Go.Proofs.Try.f38) (by kernel_rfl) (by kernel_rfl) (by kernel_rfl)
    (fun x y => laws_szFracS_eq n x.1 x.2.1) (fun _ _ => map_same (fun _ => rfl) _) (fun _ _ _ _ => rfl)

abbrev laws_toInt8A6sp : List Sp := [.v true (.pair (.int .i8) (.pair (.int .i8) (.pair (.int .i8) (.pair (.int .i8) (.pair (.int .i8) (.int .i8))))))]
abbrev laws_toInt8A6bs : List (Bs × Bool) := []
abbrev laws_toInt8A6rs : List (Bool × List Rp) := [(true, [.v false (.pair (.int .i8) (.pair (.int .i8) (.pair (.int .i8) (.pair (.int .i8) (.pair (.int .i8) (.int .i8))))))])]
noncomputable def laws_toInt8A6kp : Keep := { loop := fun id => match id with | 3 => ([4, 3, 1, 2], []) | _ => ([], []), join := fun id => match id with | _ => none }
noncomputable def laws_toInt8A6c : Code := bodyOf Go.Proofs.Try.f181
noncomputable def laws_toInt8A6F (n : Nat) : Fun := { id := 181, sp := laws_toInt8A6sp, bs := laws_toInt8A6bs, rs := laws_toInt8A6rs, f := fun x y => laws_toInt8A6 n x.1 }

theorem laws_toInt8A6_l3_eq (n : Nat) : ∀ (k : Nat) (v4 : Int) (b0_0 : Int) (b0_1 : Int) (b0_2 : Int) (b0_3 : Int) (b0_4 : Int) (b0_5 : Int) (b1_0 : Int) (b1_1 : Int) (b1_2 : Int) (b1_3 : Int) (b1_4 : Int) (b1_5 : Int) (b2_0 : Int) (b2_1 : Int) (b2_2 : Int) (b2_3 : Int) (b2_4 : Int) (b2_5 : Int), iter (interp ([]) ty 15 0 n laws_toInt8A6kp (codeAt laws_toInt8A6c [1, 1, 0, 1, 0, 0])) (canon 0 (laws_toInt8A6kp.loop 3)) (kAt ([]) ty 15 0 n laws_toInt8A6kp laws_toInt8A6c [1, 1, 0, 1, 0] [] (ending ty 0 Go.Proofs.Try.f181.results.toList laws_toInt8A6rs laws_toInt8A6bs)) k { env := [(4, .one (.sc (.int .i64 v4))), (3, .one (.ref 0 0 0 0 0 0)), (1, .one (.ref 1 0 0 0 0 0)), (2, .one (.ref 2 0 0 0 0 0))], bx := [(0, .var 124 [.sc (.int .i8 b0_0), .sc (.int .i8 b0_1), .sc (.int .i8 b0_2), .sc (.int .i8 b0_3), .sc (.int .i8 b0_4), .sc (.int .i8 b0_5)]), (1, .var 124 [.sc (.int .i8 b1_0), .sc (.int .i8 b1_1), .sc (.int .i8 b1_2), .sc (.int .i8 b1_3), .sc (.int .i8 b1_4), .sc (.int .i8 b1_5)]), (2, .var 124 [.sc (.int .i8 b2_0), .sc (.int .i8 b2_1), .sc (.int .i8 b2_2), .sc (.int .i8 b2_3), .sc (.int .i8 b2_4), .sc (.int .i8 b2_5)])], nx := 3 } = laws_toInt8A6_l3 n k v4 b0_0 b0_1 b0_2 b0_3 b0_4 b0_5 b1_0 b1_1 b1_2 b1_3 b1_4 b1_5 b2_0 b2_1 b2_2 b2_3 b2_4 b2_5
  | 0, _, _, _, _, _, _, _, _, _, _, _, _, _, _, _, _, _, _, _ => by kernel_rfl
  | k + 1, v4, b0_0, b0_1, b0_2, b0_3, b0_4, b0_5, b1_0, b1_1, b1_2, b1_3, b1_4, b1_5, b2_0, b2_1, b2_2, b2_3, b2_4, b2_5 => by
    have h : iter (interp ([]) ty 15 0 n laws_toInt8A6kp (codeAt laws_toInt8A6c [1, 1, 0, 1, 0, 0])) (canon 0 (laws_toInt8A6kp.loop 3)) (kAt ([]) ty 15 0 n laws_toInt8A6kp laws_toInt8A6c [1, 1, 0, 1, 0] [] (ending ty 0 Go.Proofs.Try.f181.results.toList laws_toInt8A6rs laws_toInt8A6bs)) (k + 1) { env := [(4, .one (.sc (.int .i64 v4))), (3, .one (.ref 0 0 0 0 0 0)), (1, .one (.ref 1 0 0 0 0 0)), (2, .one (.ref 2 0 0 0 0 0))], bx := [(0, .var 124 [.sc (.int .i8 b0_0), .sc (.int .i8 b0_1), .sc (.int .i8 b0_2), .sc (.int .i8 b0_3), .sc (.int .i8 b0_4), .sc (.int .i8 b0_5)]), (1, .var 124 [.sc (.int .i8 b1_0), .sc (.int .i8 b1_1), .sc (.int .i8 b1_2), .sc (.int .i8 b1_3), .sc (.int .i8 b1_4), .sc (.int .i8 b1_5)]), (2, .var 124 [.sc (.int .i8 b2_0), .sc (.int .i8 b2_1), .sc (.int .i8 b2_2), .sc (.int .i8 b2_3), .sc (.int .i8 b2_4), .sc (.int .i8 b2_5)])], nx := 3 } = laws_toInt8A6_t3 n (fun v4 b0_0 b0_1 b0_2 b0_3 b0_4 b0_5 b1_0 b1_1 b1_2 b1_3 b1_4 b1_5 b2_0 b2_1 b2_2 b2_3 b2_4 b2_5 => iter (interp ([]) ty 15 0 n laws_toInt8A6kp (codeAt laws_toInt8A6c [1, 1, 0, 1, 0, 0])) (canon 0 (laws_toInt8A6kp.loop 3)) (kAt ([]) ty 15 0 n laws_toInt8A6kp laws_toInt8A6c [1, 1, 0, 1, 0] [] (ending ty 0 Go.Proofs.Try.f181.results.toList laws_toInt8A6rs laws_toInt8A6bs)) k { env := [(4, .one (.sc (.int .i64 v4))), (3, .one (.ref 0 0 0 0 0 0)), (1, .one (.ref 1 0 0 0 0 0)), (2, .one (.ref 2 0 0 0 0 0))], bx := [(0, .var 124 [.sc (.int .i8 b0_0), .sc (.int .i8 b0_1), .sc (.int .i8 b0_2), .sc (.int .i8 b0_3), .sc (.int .i8 b0_4), .sc (.int .i8 b0_5)]), (1, .var 124 [.sc (.int .i8 b1_0), .sc (.int .i8 b1_1), .sc (.int .i8 b1_2), .sc (.int .i8 b1_3), .sc (.int .i8 b1_4), .sc (.int .i8 b1_5)]), (2, .var 124 [.sc (.int .i8 b2_0), .sc (.int .i8 b2_1), .sc (.int .i8 b2_2), .sc (.int .i8 b2_3), .sc (.int .i8 b2_4), .sc (.int .i8 b2_5)])], nx := 3 }) v4 b0_0 b0_1 b0_2 b0_3 b0_4 b0_5 b1_0 b1_1 b1_2 b1_3 b1_4 b1_5 b2_0 b2_1 b2_2 b2_3 b2_4 b2_5 := by kernel_rfl
    rw [h]
    have e := congrArg (fun g => laws_toInt8A6_t3 n g v4 b0_0 b0_1 b0_2 b0_3 b0_4 b0_5 b1_0 b1_1 b1_2 b1_3 b1_4 b1_5 b2_0 b2_1 b2_2 b2_3 b2_4 b2_5) (funext fun v4 => funext fun b0_0 => funext fun b0_1 => funext fun b0_2 => funext fun b0_3 => funext fun b0_4 => funext fun b0_5 => funext fun b1_0 => funext fun b1_1 => funext fun b1_2 => funext fun b1_3 => funext fun b1_4 => funext fun b1_5 => funext fun b2_0 => funext fun b2_1 => funext fun b2_2 => funext fun b2_3 => funext fun b2_4 => funext fun b2_5 => laws_toInt8A6_l3_eq n k v4 b0_0 b0_1 b0_2 b0_3 b0_4 b0_5 b1_0 b1_1 b1_2 b1_3 b1_4 b1_5 b2_0 b2_1 b2_2 b2_3 b2_4 b2_5)
    exact e

theorem laws_toInt8A6_eq (n : Nat) (a0 : (Int) × ((Int) × ((Int) × ((Int) × ((Int) × (Int)))))) : runBody ([]) ty 15 n laws_toInt8A6kp laws_toInt8A6c Go.Proofs.Try.f181.results.toList laws_toInt8A6rs laws_toInt8A6sp laws_toInt8A6bs (a0, ()) () = laws_toInt8A6 n a0 := by
  have h : runBody ([]) ty 15 n laws_toInt8A6kp laws_toInt8A6c Go.Proofs.Try.f181.results.toList laws_toInt8A6rs laws_toInt8A6sp laws_toInt8A6bs (a0, ()) () = laws_toInt8A6_t n (fun k v4 b0_0 b0_1 b0_2 b0_3 b0_4 b0_5 b1_0 b1_1 b1_2 b1_3 b1_4 b1_5 b2_0 b2_1 b2_2 b2_3 b2_4 b2_5 => iter (interp ([]) ty 15 0 n laws_toInt8A6kp (codeAt laws_toInt8A6c [1, 1, 0, 1, 0, 0])) (canon 0 (laws_toInt8A6kp.loop 3)) (kAt ([]) ty 15 0 n laws_toInt8A6kp laws_toInt8A6c [1, 1, 0, 1, 0] [] (ending ty 0 Go.Proofs.Try.f181.results.toList laws_toInt8A6rs laws_toInt8A6bs)) k { env := [(4, .one (.sc (.int .i64 v4))), (3, .one (.ref 0 0 0 0 0 0)), (1, .one (.ref 1 0 0 0 0 0)), (2, .one (.ref 2 0 0 0 0 0))], bx := [(0, .var 124 [.sc (.int .i8 b0_0), .sc (.int .i8 b0_1), .sc (.int .i8 b0_2), .sc (.int .i8 b0_3), .sc (.int .i8 b0_4), .sc (.int .i8 b0_5)]), (1, .var 124 [.sc (.int .i8 b1_0), .sc (.int .i8 b1_1), .sc (.int .i8 b1_2), .sc (.int .i8 b1_3), .sc (.int .i8 b1_4), .sc (.int .i8 b1_5)]), (2, .var 124 [.sc (.int .i8 b2_0), .sc (.int .i8 b2_1), .sc (.int .i8 b2_2), .sc (.int .i8 b2_3), .sc (.int .i8 b2_4), .sc (.int .i8 b2_5)])], nx := 3 }) a0 := by kernel_rfl
  rw [h]
  have e := congrArg (fun h3 => laws_toInt8A6_t n h3 a0) (funext fun k => funext fun v4 => funext fun b0_0 => funext fun b0_1 => funext fun b0_2 => funext fun b0_3 => funext fun b0_4 => funext fun b0_5 => funext fun b1_0 => funext fun b1_1 => funext fun b1_2 => funext fun b1_3 => funext fun b1_4 => funext fun b1_5 => funext fun b2_0 => funext fun b2_1 => funext fun b2_2 => funext fun b2_3 => funext fun b2_4 => funext fun b2_5 => laws_toInt8A6_l3_eq n k v4 b0_0 b0_1 b0_2 b0_3 b0_4 b0_5 b1_0 b1_1 b1_2 b1_3 b1_4 b1_5 b2_0 b2_1 b2_2 b2_3 b2_4 b2_5)
  exact e

theorem laws_toInt8A6_ok (n : Nat) : FunOk P (laws_toInt8A6F n) :=
  funOk_mk (C := []) (N := 15) (kp := laws_toInt8A6kp) (c := laws_toInt8A6c) (n := n) (G := fun x y => laws_toInt8A6 n x.1) follows (AllOk.mem (trivial : AllOk P ([]))) (by kernel_rfl : P.funcs[181]? = some Go.Proofs.Try.f181) (by kernel_rfl) (by kernel_rfl) (by kernel_rfl)
    (fun x y => laws_toInt8A6_eq n x.1) (fun _ _ => map_same (fun _ => rfl) _) (fun _ _ _ _ => rfl)

abbrev laws_toFracsp : List Sp := [.v true (.pair (.int .i64) (.int .i64))]
abbrev laws_toFracbs : List (Bs × Bool) := []
abbrev laws_toFracrs : List (Bool × List Rp) := [(true, [.v false (.pair (.int .i64) (.int .i64))])]
noncomputable def laws_toFrackp : Keep := { loop := fun id => match id with | _ => ([], []), join := fun id => match id with | _ => none }
noncomputable def laws_toFracc : Code := bodyOf Go.Proofs.Try.f41
noncomputable def laws_toFracF (n : Nat) : Fun := { id := 41, sp := laws_toFracsp, bs := laws_toFracbs, rs := laws_toFracrs, f := fun x y => laws_toFrac n x.1 }

theorem laws_toFrac_eq (n : Nat) (a0 : (Int) × (Int)) : runBody ([]) ty 11 n laws_toFrackp laws_toFracc Go.Proofs.Try.f41.results.toList laws_toFracrs laws_toFracsp laws_toFracbs (a0, ()) () = laws_toFrac n a0 := by
  have h : runBody ([]) ty 11 n laws_toFrackp laws_toFracc Go.Proofs.Try.f41.results.toList laws_toFracrs laws_toFracsp laws_toFracbs (a0, ()) () = laws_toFrac_t n a0 := by kernel_rfl
  rw [h]
  rfl

theorem laws_toFrac_ok (n : Nat) : FunOk P (laws_toFracF n) :=
  funOk_mk (C := []) (N := 11) (kp := laws_toFrackp) (c := laws_toFracc) (n := n) (G := fun x y => laws_toFrac n x.1) follows (AllOk.mem (trivial : AllOk P ([]))) (by kernel_rfl : P.funcs[41]? = some Go.Proofs.Try.f41) (by kernel_rfl) (by kernel_rfl) (by kernel_rfl)
    (fun x y => laws_toFrac_eq n x.1) (fun _ _ => map_same (fun _ => rfl) _) (fun _ _ _ _ => rfl)

abbrev laws_toObssp : List Sp := [.v true (.pair (.pair (.int .i8) (.pair (.int .i8) (.pair (.int .i8) (.pair (.int .i8) (.pair (.int .i8) (.int .i8)))))) (.pair (.pair (.int .i64) (.int .i64)) (.int .i64)))]
abbrev laws_toObsbs : List (Bs × Bool) := []
abbrev laws_toObsrs : List (Bool × List Rp) := [(true, [.v false (.pair (.pair (.int .i8) (.pair (.int .i8) (.pair (.int .i8) (.pair (.int .i8) (.pair (.int .i8) (.int .i8)))))) (.pair (.pair (.int .i64) (.int .i64)) (.int .i64)))])]
noncomputable def laws_toObskp : Keep := { loop := fun id => match id with | _ => ([], []), join := fun id => match id with | _ => none }
noncomputable def laws_toObsc : Code := bodyOf Go.Proofs.Try.f159
noncomputable def laws_toObsF (n : Nat) : Fun := { id := 159, sp := laws_toObssp, bs := laws_toObsbs, rs := laws_toObsrs, f := fun x y => laws_toObs n x.1 }

theorem laws_toObs_eq (n : Nat) (a0 : ((Int) × ((Int) × ((Int) × ((Int) × ((Int) × (Int)))))) × (((Int) × (Int)) × (Int))) : runBody ([laws_toInt8A6F n, laws_toFracF n]) ty 16 n laws_toObskp laws_toObsc Go.Proofs.Try.f159.results.toList laws_toObsrs laws_toObssp laws_toObsbs (a0, ()) () = laws_toObs n a0 := by
  have h : runBody ([laws_toInt8A6F n, laws_toFracF n]) ty 16 n laws_toObskp laws_toObsc Go.Proofs.Try.f159.results.toList laws_toObsrs laws_toObssp laws_toObsbs (a0, ()) () = laws_toObs_t n a0 := by kernel_rfl
  rw [h]
  rfl

theorem laws_toObs_ok (n : Nat) : FunOk P (laws_toObsF n) :=
  funOk_mk (C := [laws_toInt8A6F n, laws_toFracF n]) (N := 16) (kp := laws_toObskp) (c := laws_toObsc) (n := n) (G := fun x y => laws_toObs n x.1) follows (AllOk.mem (⟨laws_toInt8A6_ok n, ⟨laws_toFrac_ok n, trivial⟩⟩ : AllOk P ([laws_toInt8A6F n, laws_toFracF n]))) (by kernel_rfl : P.funcs[159]? = some Go.Proofs.Try.f159) (by kernel_rfl) (by kernel_rfl) (by kernel_rfl)
    (fun x y => laws_toObs_eq n x.1) (fun _ _ => map_same (fun _ => rfl) _) (fun _ _ _ _ => rfl)

abbrev laws_toObsSsp : List Sp := [.v false (.list (.pair (.pair (.int .i8) (.pair (.int .i8) (.pair (.int .i8) (.pair (.int .i8) (.pair (.int .i8) (.int .i8)))))) (.pair (.pair (.int .i64) (.int .i64)) (.int .i64))))]
abbrev laws_toObsSbs : List (Bs × Bool) := []
abbrev laws_toObsSrs : List (Bool × List Rp) := [(false, [.new  (.pair (.pair (.int .i8) (.pair (.int .i8) (.pair (.int .i8) (.pair (.int .i8) (.pair (.int .i8) (.int .i8)))))) (.pair (.pair (.int .i64) (.int .i64)) (.int .i64)))])]
noncomputable def laws_toObsSkp : Keep := { loop := fun id => match id with | 3 => ([4, 0, 3], []) | _ => ([], []), join := fun id => match id with | _ => none }
noncomputable def laws_toObsSc : Code := bodyOf Go.Proofs.Try.f118
noncomputable def laws_toObsSF (n : Nat) : Fun := { id := 118, sp := laws_toObsSsp, bs := laws_toObsSbs, rs := laws_toObsSrs, f := fun x y => laws_toObsS n x.1 }

theorem laws_toObsS_l3_eq (n : Nat) : ∀ (k : Nat) (v4 : Int) (v0 : List (((Int) × ((Int) × ((Int) × ((Int) × ((Int) × (Int)))))) × (((Int) × (Int)) × (Int)))) (b0 : List (((Int) × ((Int) × ((Int) × ((Int) × ((Int) × (Int)))))) × (((Int) × (Int)) × (Int)))), iter (interp ([laws_toObsF n]) ty 23 0 n laws_toObsSkp (codeAt laws_toObsSc [1, 1, 0, 1, 0, 0])) (canon 0 (laws_toObsSkp.loop 3)) (kAt ([laws_toObsF n]) ty 23 0 n laws_toObsSkp laws_toObsSc [1, 1, 0, 1, 0] [] (ending ty 0 Go.Proofs.Try.f118.results.toList laws_toObsSrs laws_toObsSbs)) k { env := [(4, .one (.sc (.int .i64 v4))), (0, .one (.list true (.pair (.pair (.int .i8) (.pair (.int .i8) (.pair (.int .i8) (.pair (.int .i8) (.pair (.int .i8) (.int .i8)))))) (.pair (.pair (.int .i64) (.int .i64)) (.int .i64))) v0)), (3, .one (.slice 0 0 none))], bx := [(0, .row 0 (.pair (.pair (.int .i8) (.pair (.int .i8) (.pair (.int .i8) (.pair (.int .i8) (.pair (.int .i8) (.int .i8)))))) (.pair (.pair (.int .i64) (.int .i64)) (.int .i64))) b0)], nx := 1 } = laws_toObsS_l3 n k v4 v0 b0
  | 0, _, _, _ => by kernel_rfl
  | k + 1, v4, v0, b0 => by
    have h : iter (interp ([laws_toObsF n]) ty 23 0 n laws_toObsSkp (codeAt laws_toObsSc [1, 1, 0, 1, 0, 0])) (canon 0 (laws_toObsSkp.loop 3)) (kAt ([laws_toObsF n]) ty 23 0 n laws_toObsSkp laws_toObsSc [1, 1, 0, 1, 0] [] (ending ty 0 Go.Proofs.Try.f118.results.toList laws_toObsSrs laws_toObsSbs)) (k + 1) { env := [(4, .one (.sc (.int .i64 v4))), (0, .one (.list true (.pair (.pair (.int .i8) (.pair (.int .i8) (.pair (.int .i8) (.pair (.int .i8) (.pair (.int .i8) (.int .i8)))))) (.pair (.pair (.int .i64) (.int .i64)) (.int .i64))) v0)), (3, .one (.slice 0 0 none))], bx := [(0, .row 0 (.pair (.pair (.int .i8) (.pair (.int .i8) (.pair (.int .i8) (.pair (.int .i8) (.pair (.int .i8) (.int .i8)))))) (.pair (.pair (.int .i64) (.int .i64)) (.int .i64))) b0)], nx := 1 } = laws_toObsS_t3 n (fun v4 v0 b0 => iter (interp ([laws_toObsF n]) ty 23 0 n laws_toObsSkp (codeAt laws_toObsSc [1, 1, 0, 1, 0, 0])) (canon 0 (laws_toObsSkp.loop 3)) (kAt ([laws_toObsF n]) ty 23 0 n laws_toObsSkp laws_toObsSc [1, 1, 0, 1, 0] [] (ending ty 0 Go.Proofs.Try.f118.results.toList laws_toObsSrs laws_toObsSbs)) k { env := [(4, .one (.sc (.int .i64 v4))), (0, .one (.list true (.pair (.pair (.int .i8) (.pair (.int .i8) (.pair (.int .i8) (.pair (.int .i8) (.pair (.int .i8) (.int .i8)))))) (.pair (.pair (.int .i64) (.int .i64)) (.int .i64))) v0)), (3, .one (.slice 0 0 none))], bx := [(0, .row 0 (.pair (.pair (.int .i8) (.pair (.int .i8) (.pair (.int .i8) (.pair (.int .i8) (.pair (.int .i8) (.int .i8)))))) (.pair (.pair (.int .i64) (.int .i64)) (.int .i64))) b0)], nx := 1 }) v4 v0 b0 := by kernel_rfl
    rw [h]
    have e := congrArg (fun g => laws_toObsS_t3 n g v4 v0 b0) (funext fun v4 => funext fun v0 => funext fun b0 => laws_toObsS_l3_eq n k v4 v0 b0)
    exact e

theorem laws_toObsS_eq (n : Nat) (a0 : List (((Int) × ((Int) × ((Int) × ((Int) × ((Int) × (Int)))))) × (((Int) × (Int)) × (Int)))) : runBody ([laws_toObsF n]) ty 23 n laws_toObsSkp laws_toObsSc Go.Proofs.Try.f118.results.toList laws_toObsSrs laws_toObsSsp laws_toObsSbs (a0, ()) () = laws_toObsS n a0 := by
  have h : runBody ([laws_toObsF n]) ty 23 n laws_toObsSkp laws_toObsSc Go.Proofs.Try.f118.results.toList laws_toObsSrs laws_toObsSsp laws_toObsSbs (a0, ()) () = laws_toObsS_t n (fun k v4 v0 b0 => iter (interp ([laws_toObsF n]) ty 23 0 n laws_toObsSkp (codeAt laws_toObsSc [1, 1, 0, 1, 0, 0])) (canon 0 (laws_toObsSkp.loop 3)) (kAt ([laws_toObsF n]) ty 23 0 n laws_toObsSkp laws_toObsSc [1, 1, 0, 1, 0] [] (ending ty 0 Go.Proofs.Try.f118.results.toList laws_toObsSrs laws_toObsSbs)) k { env := [(4, .one (.sc (.int .i64 v4))), (0, .one (.list true (.pair (.pair (.int .i8) (.pair (.int .i8) (.pair (.int .i8) (.pair (.int .i8) (.pair (.int .i8) (.int .i8)))))) (.pair (.pair (.int .i64) (.int .i64)) (.int .i64))) v0)), (3, .one (.slice 0 0 none))], bx := [(0, .row 0 (.pair (.pair (.int .i8) (.pair (.int .i8) (.pair (.int .i8) (.pair (.int .i8) (.pair (.int .i8) (.int .i8)))))) (.pair (.pair (.int .i64) (.int .i64)) (.int .i64))) b0)], nx := 1 }) a0 := by kernel_rfl
  rw [h]
  have e := congrArg (fun h3 => laws_toObsS_t n h3 a0) (funext fun k => funext fun v4 => funext fun v0 => funext fun b0 => laws_toObsS_l3_eq n k v4 v0 b0)
  exact e

theorem laws_toObsS_ok (n : Nat) : FunOk P (laws_toObsSF n) :=
  funOk_mk (C := [laws_toObsF n]) (N := 23) (kp := laws_toObsSkp) (c := laws_toObsSc) (n := n) (G := fun x y => laws_toObsS n x.1) follows (AllOk.mem (⟨laws_toObs_ok n, trivial⟩ : AllOk P ([laws_toObsF n]))) (by kernel_rfl : P.funcs[118]? = some Go.Proofs.Try.f118) (by kernel_rfl) (by kernel_rfl) (by kernel_rfl)
    (fun x y => laws_toObsS_eq n x.1) (fun _ _ => map_same (fun _ => rfl) _) (fun _ _ _ _ => rfl)

abbrev laws_toTablesp : List Sp := [.v true (.pair (.int .i64) (.pair (.list (.pair (.pair (.int .i8) (.pair (.int .i8) (.pair (.int .i8) (.pair (.int .i8) (.pair (.int .i8) (.int .i8)))))) (.pair (.pair (.int .i64) (.int .i64)) (.int .i64)))) (.pair .bool (.pair (.int .i64) (.int .i64)))))]
abbrev laws_toTablebs : List (Bs × Bool) := []
abbrev laws_toTablers : List (Bool × List Rp) := [(true, [.v false (.int .i64), .new (.pair (.pair (.int .i8) (.pair (.int .i8) (.pair (.int .i8) (.pair (.int .i8) (.pair (.int .i8) (.int .i8)))))) (.pair (.pair (.int .i64) (.int .i64)) (.int .i64))), .v false (.pair .bool (.pair (.int .i64) (.int .i64)))])]
noncomputable def laws_toTablekp : Keep := { loop := fun id => match id with | _ => ([], []), join := fun id => match id with | _ => none }
noncomputable def laws_toTablec : Code := bodyOf Go.Proofs.Try.f56
noncomputable def laws_toTableF (n : Nat) : Fun := { id := 56, sp := laws_toTablesp, bs := laws_toTablebs, rs := laws_toTablers, f := fun x y => laws_toTable n x.1 }

theorem laws_toTable_eq (n : Nat) (a0 : (Int) × ((List (((Int) × ((Int) × ((Int) × ((Int) × ((Int) × (Int)))))) × (((Int) × (Int)) × (Int)))) × ((Bool) × ((Int) × (Int))))) : runBody ([laws_toObsSF n, laws_toFracF n]) ty 19 n laws_toTablekp laws_toTablec Go.Proofs.Try.f56.results.toList laws_toTablers laws_toTablesp laws_toTablebs (a0, ()) () = laws_toTable n a0 := by
  have h : runBody ([laws_toObsSF n, laws_toFracF n]) ty 19 n laws_toTablekp laws_toTablec Go.Proofs.Try.f56.results.toList laws_toTablers laws_toTablesp laws_toTablebs (a0, ()) () = laws_toTable_t n a0 := by kernel_rfl
  rw [h]
  rfl

theorem laws_toTable_ok (n : Nat) : FunOk P (laws_toTableF n) :=
  funOk_mk (C := [laws_toObsSF n, laws_toFracF n]) (N := 19) (kp := laws_toTablekp) (c := laws_toTablec) (n := n) (G := fun x y => laws_toTable n x.1) follows (AllOk.mem (⟨laws_toObsS_ok n, ⟨laws_toFrac_ok n, trivial⟩⟩ : AllOk P ([laws_toObsSF n, laws_toFracF n]))) (by kernel_rfl : P.funcs[56]? = some Go.Proofs.Try.f56) (by kernel_rfl) (by kernel_rfl) (by kernel_rfl)
    (fun x y => laws_toTable_eq n x.1) (fun _ _ => map_same (fun _ => rfl) _) (fun _ _ _ _ => rfl)

abbrev laws_toFracSsp : List Sp := [.v false (.list (.pair (.int .i64) (.int .i64)))]
abbrev laws_toFracSbs : List (Bs × Bool) := []
abbrev laws_toFracSrs : List (Bool × List Rp) := [(false, [.new  (.pair (.int .i64) (.int .i64))])]
noncomputable def laws_toFracSkp : Keep := { loop := fun id => match id with | 3 => ([4, 0, 3], []) | _ => ([], []), join := fun id => match id with | _ => none }
noncomputable def laws_toFracSc : Code := bodyOf Go.Proofs.Try.f40
noncomputable def laws_toFracSF (n : Nat) : Fun := { id := 40, sp := laws_toFracSsp, bs := laws_toFracSbs, rs := laws_toFracSrs, f := fun x y => laws_toFracS n x.1 }

theorem laws_toFracS_l3_eq (n : Nat) : ∀ (k : Nat) (v4 : Int) (v0 : List ((Int) × (Int))) (b0 : List ((Int) × (Int))), iter (interp ([laws_toFracF n]) ty 23 0 n laws_toFracSkp (codeAt laws_toFracSc [1, 1, 0, 1, 0, 0])) (canon 0 (laws_toFracSkp.loop 3)) (kAt ([laws_toFracF n]) ty 23 0 n laws_toFracSkp laws_toFracSc [1, 1, 0, 1, 0] [] (ending ty 0 Go.Proofs.Try.f40.results.toList laws_toFracSrs laws_toFracSbs)) k { env := [(4, .one (.sc (.int .i64 v4))), (0, .one (.list true (.pair (.int .i64) (.int .i64)) v0)), (3, .one (.slice 0 0 none))], bx := [(0, .row 0 (.pair (.int .i64) (.int .i64)) b0)], nx := 1 } = laws_toFracS_l3 n k v4 v0 b0
  | 0, _, _, _ => by kernel_rfl
  | k + 1, v4, v0, b0 => by
    have h : iter (interp ([laws_toFracF n]) ty 23 0 n laws_toFracSkp (codeAt laws_toFracSc [1, 1, 0, 1, 0, 0])) (canon 0 (laws_toFracSkp.loop 3)) (kAt ([laws_toFracF n]) ty 23 0 n laws_toFracSkp laws_toFracSc [1, 1, 0, 1, 0] [] (ending ty 0 Go.Proofs.Try.f40.results.toList laws_toFracSrs laws_toFracSbs)) (k + 1) { env := [(4, .one (.sc (.int .i64 v4))), (0, .one (.list true (.pair (.int .i64) (.int .i64)) v0)), (3, .one (.slice 0 0 none))], bx := [(0, .row 0 (.pair (.int .i64) (.int .i64)) b0)], nx := 1 } = laws_toFracS_t3 n (fun v4 v0 b0 => iter (interp ([laws_toFracF n]) ty 23 0 n laws_toFracSkp (codeAt laws_toFracSc [1, 1, 0, 1, 0, 0])) (canon 0 (laws_toFracSkp.loop 3)) (kAt ([laws_toFracF n]) ty 23 0 n laws_toFracSkp laws_toFracSc [1, 1, 0, 1, 0] [] (ending ty 0 Go.Proofs.Try.f40.results.toList laws_toFracSrs laws_toFracSbs)) k { env := [(4, .one (.sc (.int .i64 v4))), (0, .one (.list true (.pair (.int .i64) (.int .i64)) v0)), (3, .one (.slice 0 0 none))], bx := [(0, .row 0 (.pair (.int .i64) (.int .i64)) b0)], nx := 1 }) v4 v0 b0 := by kernel_rfl
    rw [h]
    have e := congrArg (fun g => laws_toFracS_t3 n g v4 v0 b0) (funext fun v4 => funext fun v0 => funext fun b0 => laws_toFracS_l3_eq n k v4 v0 b0)
    exact e

theorem laws_toFracS_eq (n : Nat) (a0 : List ((Int) × (Int))) : runBody ([laws_toFracF n]) ty 23 n laws_toFracSkp laws_toFracSc Go.Proofs.Try.f40.results.toList laws_toFracSrs laws_toFracSsp laws_toFracSbs (a0, ()) () = laws_toFracS n a0 := by
  have h : runBody ([laws_toFracF n]) ty 23 n laws_toFracSkp laws_toFracSc Go.Proofs.Try.f40.results.toList laws_toFracSrs laws_toFracSsp laws_toFracSbs (a0, ()) () = laws_toFracS_t n (fun k v4 v0 b0 => iter (interp ([laws_toFracF n]) ty 23 0 n laws_toFracSkp (codeAt laws_toFracSc [1, 1, 0, 1, 0, 0])) (canon 0 (laws_toFracSkp.loop 3)) (kAt ([laws_toFracF n]) ty 23 0 n laws_toFracSkp laws_toFracSc [1, 1, 0, 1, 0] [] (ending ty 0 Go.Proofs.Try.f40.results.toList laws_toFracSrs laws_toFracSbs)) k { env := [(4, .one (.sc (.int .i64 v4))), (0, .one (.list true (.pair (.int .i64) (.int .i64)) v0)), (3, .one (.slice 0 0 none))], bx := [(0, .row 0 (.pair (.int .i64) (.int .i64)) b0)], nx := 1 }) a0 := by kernel_rfl
  rw [h]
  have e := congrArg (fun h3 => laws_toFracS_t n h3 a0) (funext fun k => funext fun v4 => funext fun v0 => funext fun b0 => laws_toFracS_l3_eq n k v4 v0 b0)
  exact e

theorem laws_toFracS_ok (n : Nat) : FunOk P (laws_toFracSF n) :=
  funOk_mk (C := [laws_toFracF n]) (N := 23) (kp := laws_toFracSkp) (c := laws_toFracSc) (n := n) (G := fun x y => laws_toFracS n x.1) follows (AllOk.mem (⟨laws_toFrac_ok n, trivial⟩ : AllOk P ([laws_toFracF n]))) (by kernel_rfl : P.funcs[40]? = some Go.Proofs.Try.f40) (by kernel_rfl) (by kernel_rfl) (by kernel_rfl)
    (fun x y => laws_toFracS_eq n x.1) (fun _ _ => map_same (fun _ => rfl) _) (fun _ _ _ _ => rfl)

abbrev spec_l00Insp : List Sp := [.v false (.int .i64), .v false (.int .i64), .v false (.int .i64)]
abbrev spec_l00Inbs : List (Bs × Bool) := []
abbrev spec_l00Inrs : List (Bool × List Rp) := [(false, [.v false .bool])]
noncomputable def spec_l00Inkp : Keep := { loop := fun id => match id with | _ => ([], []), join := fun id => match id with | _ => none }
noncomputable def spec_l00Inc : Code := bodyOf Go.Proofs.Try.f94
noncomputable def spec_l00InF (n : Nat) : Fun := { id := 94, sp := spec_l00Insp, bs := spec_l00Inbs, rs := spec_l00Inrs, f := fun x y => spec_l00In n x.1 x.2.1 x.2.2.1 }

theorem spec_l00In_eq (n : Nat) (a0 : Int) (a1 : Int) (a2 : Int) : runBody ([]) ty 15 n spec_l00Inkp spec_l00Inc Go.Proofs.Try.f94.results.toList spec_l00Inrs spec_l00Insp spec_l00Inbs (a0, (a1, (a2, ()))) () = spec_l00In n a0 a1 a2 := by
  have h : runBody ([]) ty 15 n spec_l00Inkp spec_l00Inc Go.Proofs.Try.f94.results.toList spec_l00Inrs spec_l00Insp spec_l00Inbs (a0, (a1, (a2, ()))) () = spec_l00In_t n a0 a1 a2 := by kernel_rfl
  rw [h]
  rfl

theorem spec_l00In_ok (n : Nat) : FunOk P (spec_l00InF n) :=
  funOk_mk (C := []) (N := 15) (kp := spec_l00Inkp) (c := spec_l00Inc) (n := n) (G := fun x y => spec_l00In n x.1 x.2.1 x.2.2.1) follows (AllOk.mem (trivial : AllOk P ([]))) (by kernel_rfl : P.funcs[94]? = some Go.Proofs.Try.f94) (by kernel_rfl) (by kernel_rfl) (by kernel_rfl)
    (fun x y => spec_l00In_eq n x.1 x.2.1 x.2.2.1) (fun _ _ => map_same (fun _ => rfl) _) (fun _ _ _ _ => rfl)

abbrev spec_l01Abssp : List Sp := [.v false (.int .i64)]
abbrev spec_l01Absbs : List (Bs × Bool) := []
abbrev spec_l01Absrs : List (Bool × List Rp) := [(false, [.v false (.int .i64)])]
noncomputable def spec_l01Abskp : Keep := { loop := fun id => match id with | _ => ([], []), join := fun id => match id with | _ => none }
noncomputable def spec_l01Absc : Code := bodyOf Go.Proofs.Try.f144
noncomputable def spec_l01AbsF (n : Nat) : Fun := { id := 144, sp := spec_l01Abssp, bs := spec_l01Absbs, rs := spec_l01Absrs, f := fun x y => spec_l01Abs n x.1 }

theorem spec_l01Abs_eq (n : Nat) (a0 : Int) : runBody ([]) ty 8 n spec_l01Abskp spec_l01Absc Go.Proofs.Try.f144.results.toList spec_l01Absrs spec_l01Abssp spec_l01Absbs (a0, ()) () = spec_l01Abs n a0 := by
  have h : runBody ([]) ty 8 n spec_l01Abskp spec_l01Absc Go.Proofs.Try.f144.results.toList spec_l01Absrs spec_l01Abssp spec_l01Absbs (a0, ()) () = spec_l01Abs_t n a0 := by kernel_rfl
  rw [h]
  rfl

theorem spec_l01Abs_ok (n : Nat) : FunOk P (spec_l01AbsF n) :=
  funOk_mk (C := []) (N := 8) (kp := spec_l01Abskp) (c := spec_l01Absc) (n := n) (G := fun x y => spec_l01Abs n x.1) follows (AllOk.mem (trivial : AllOk P ([]))) (by kernel_rfl : P.funcs[144]? = some Go.Proofs.Try.f144) (by kernel_rfl) (by kernel_rfl) (by kernel_rfl)
    (fun x y => spec_l01Abs_eq n x.1) (fun _ _ => map_same (fun _ => rfl) _) (fun _ _ _ _ => rfl)

abbrev spec_l01Gcdsp : List Sp := [.v false (.int .i64), .v false (.int .i64)]
abbrev spec_l01Gcdbs : List (Bs × Bool) := []
abbrev spec_l01Gcdrs : List (Bool × List Rp) := [(false, [.v false (.int .i64)])]
noncomputable def spec_l01Gcdkp : Keep := { loop := fun id => match id with | 1 => ([1, 0], []) | _ => ([], []), join := fun id => match id with | _ => none }
noncomputable def spec_l01Gcdc : Code := bodyOf Go.Proofs.Try.f143
noncomputable def spec_l01GcdF (n : Nat) : Fun := { id := 143, sp := spec_l01Gcdsp, bs := spec_l01Gcdbs, rs := spec_l01Gcdrs, f := fun x y => spec_l01Gcd n x.1 x.2.1 }

theorem spec_l01Gcd_l1_eq (n : Nat) : ∀ (k : Nat) (v1 : Int) (v0 : Int), iter (interp ([]) ty 14 0 n spec_l01Gcdkp (codeAt spec_l01Gcdc [1, 0, 0, 0])) (canon 0 (spec_l01Gcdkp.loop 1)) (kAt ([]) ty 14 0 n spec_l01Gcdkp spec_l01Gcdc [1, 0, 0] [] (ending ty 0 Go.Proofs.Try.f143.results.toList spec_l01Gcdrs spec_l01Gcdbs)) k { env := [(1, .one (.sc (.int .i64 v1))), (0, .one (.sc (.int .i64 v0)))], bx := [], nx := 0 } = spec_l01Gcd_l1 n k v1 v0
  | 0, _, _ => by kernel_rfl
  | k + 1, v1, v0 => by
    have h : iter (interp ([]) ty 14 0 n spec_l01Gcdkp (codeAt spec_l01Gcdc [1, 0, 0, 0])) (canon 0 (spec_l01Gcdkp.loop 1)) (kAt ([]) ty 14 0 n spec_l01Gcdkp spec_l01Gcdc [1, 0, 0] [] (ending ty 0 Go.Proofs.Try.f143.results.toList spec_l01Gcdrs spec_l01Gcdbs)) (k + 1) { env := [(1, .one (.sc (.int .i64 v1))), (0, .one (.sc (.int .i64 v0)))], bx := [], nx := 0 } = spec_l01Gcd_t1 n (fun v1 v0 => iter (interp ([]) ty 14 0 n spec_l01Gcdkp (codeAt spec_l01Gcdc [1, 0, 0, 0])) (canon 0 (spec_l01Gcdkp.loop 1)) (kAt ([]) ty 14 0 n spec_l01Gcdkp spec_l01Gcdc [1, 0, 0] [] (ending ty 0 Go.Proofs.Try.f143.results.toList spec_l01Gcdrs spec_l01Gcdbs)) k { env := [(1, .one (.sc (.int .i64 v1))), (0, .one (.sc (.int .i64 v0)))], bx := [], nx := 0 }) v1 v0 := by kernel_rfl
    rw [h]
    have e := congrArg (fun g => spec_l01Gcd_t1 n g v1 v0) (funext fun v1 => funext fun v0 => spec_l01Gcd_l1_eq n k v1 v0)
    exact e

theorem spec_l01Gcd_eq (n : Nat) (a0 : Int) (a1 : Int) : runBody ([]) ty 14 n spec_l01Gcdkp spec_l01Gcdc Go.Proofs.Try.f143.results.toList spec_l01Gcdrs spec_l01Gcdsp spec_l01Gcdbs (a0, (a1, ())) () = spec_l01Gcd n a0 a1 := by
  have h : runBody ([]) ty 14 n spec_l01Gcdkp spec_l01Gcdc Go.Proofs.Try.f143.results.toList spec_l01Gcdrs spec_l01Gcdsp spec_l01Gcdbs (a0, (a1, ())) () = spec_l01Gcd_t n (fun k v1 v0 => iter (interp ([]) ty 14 0 n spec_l01Gcdkp (codeAt spec_l01Gcdc [1, 0, 0, 0])) (canon 0 (spec_l01Gcdkp.loop 1)) (kAt ([]) ty 14 0 n spec_l01Gcdkp spec_l01Gcdc [1, 0, 0] [] (ending ty 0 Go.Proofs.Try.f143.results.toList spec_l01Gcdrs spec_l01Gcdbs)) k { env := [(1, .one (.sc (.int .i64 v1))), (0, .one (.sc (.int .i64 v0)))], bx := [], nx := 0 }) a0 a1 := by kernel_rfl
  rw [h]
  have e := congrArg (fun h1 => spec_l01Gcd_t n h1 a0 a1) (funext fun k => funext fun v1 => funext fun v0 => spec_l01Gcd_l1_eq n k v1 v0)
  exact e

theorem spec_l01Gcd_ok (n : Nat) : FunOk P (spec_l01GcdF n) :=
  funOk_mk (C := []) (N := 14) (kp := spec_l01Gcdkp) (c := spec_l01Gcdc) (n := n) (G := fun x y => spec_l01Gcd n x.1 x.2.1) follows (AllOk.mem (trivial : AllOk P ([]))) (by kernel_rfl : P.funcs[143]? = some Go.Proofs.Try.f143) (by kernel_rfl) (by kernel_rfl) (by kernel_rfl)
    (fun x y => spec_l01Gcd_eq n x.1 x.2.1) (fun _ _ => map_same (fun _ => rfl) _) (fun _ _ _ _ => rfl)

abbrev spec_l01Oksp : List Sp := [.v true (.pair (.int .i64) (.int .i64))]
abbrev spec_l01Okbs : List (Bs × Bool) := []
abbrev spec_l01Okrs : List (Bool × List Rp) := [(false, [.v false .bool])]
noncomputable def spec_l01Okkp : Keep := { loop := fun id => match id with | _ => ([], []), join := fun id => match id with | _ => none }
noncomputable def spec_l01Okc : Code := bodyOf Go.Proofs.Try.f93
noncomputable def spec_l01OkF (n : Nat) : Fun := { id := 93, sp := spec_l01Oksp, bs := spec_l01Okbs, rs := spec_l01Okrs, f := fun x y => spec_l01Ok n x.1 }

theorem spec_l01Ok_eq (n : Nat) (a0 : (Int) × (Int)) : runBody ([spec_l00InF n, spec_l01AbsF n, spec_l01GcdF n]) ty 20 n spec_l01Okkp spec_l01Okc Go.Proofs.Try.f93.results.toList spec_l01Okrs spec_l01Oksp spec_l01Okbs (a0, ()) () = spec_l01Ok n a0 := by
  have h : runBody ([spec_l00InF n, spec_l01AbsF n, spec_l01GcdF n]) ty 20 n spec_l01Okkp spec_l01Okc Go.Proofs.Try.f93.results.toList spec_l01Okrs spec_l01Oksp spec_l01Okbs (a0, ()) () = spec_l01Ok_t n a0 := by kernel_rfl
  rw [h]
  rfl

theorem spec_l01Ok_ok (n : Nat) : FunOk P (spec_l01OkF n) :=
  funOk_mk (C := [spec_l00InF n, spec_l01AbsF n, spec_l01GcdF n]) (N := 20) (kp := spec_l01Okkp) (c := spec_l01Okc) (n := n) (G := fun x y => spec_l01Ok n x.1) follows (AllOk.mem (⟨spec_l00In_ok n, ⟨spec_l01Abs_ok n, ⟨spec_l01Gcd_ok n, trivial⟩⟩⟩ : AllOk P ([spec_l00InF n, spec_l01AbsF n, spec_l01GcdF n]))) (by kernel_rfl : P.funcs[93]? = some Go.Proofs.Try.f93) (by kernel_rfl) (by kernel_rfl) (by kernel_rfl)
    (fun x y => spec_l01Ok_eq n x.1) (fun _ _ => map_same (fun _ => rfl) _) (fun _ _ _ _ => rfl)

abbrev spec_l04Obs_esp : List Sp := [.er (.pair (.pair (.int .i8) (.pair (.int .i8) (.pair (.int .i8) (.pair (.int .i8) (.pair (.int .i8) (.int .i8)))))) (.pair (.pair (.int .i64) (.int .i64)) (.int .i64))), .v false (.int .i64)]
abbrev spec_l04Obs_ebs : List (Bs × Bool) := []
abbrev spec_l04Obs_ers : List (Bool × List Rp) := [(false, [.v false .bool])]
noncomputable def spec_l04Obs_ekp : Keep := { loop := fun id => match id with | 3 => ([6, 5, 1, 0], []) | _ => ([], []), join := fun id => match id with | _ => none }
noncomputable def spec_l04Obs_ec : Code := bodyOf Go.Proofs.Try.f158
noncomputable def spec_l04Obs_eF (n : Nat) : Fun := { id := 158, sp := spec_l04Obs_esp, bs := spec_l04Obs_ebs, rs := spec_l04Obs_ers, f := fun x y => spec_l04Obs_e n x.1 x.2.1 }

theorem spec_l04Obs_e_l3_eq (n : Nat) : ∀ (k : Nat) (v6 : Int) (v5 : Bool) (v1 : Int) (v0 : ((Int) × ((Int) × ((Int) × ((Int) × ((Int) × (Int)))))) × (((Int) × (Int)) × (Int))), iter (interp ([spec_l01OkF n, spec_l00InF n]) ty 53 0 n spec_l04Obs_ekp (codeAt spec_l04Obs_ec [1, 1, 0, 1, 0, 0])) (canon 0 (spec_l04Obs_ekp.loop 3)) (kAt ([spec_l01OkF n, spec_l00InF n]) ty 53 0 n spec_l04Obs_ekp spec_l04Obs_ec [1, 1, 0, 1, 0] [] (ending ty 0 Go.Proofs.Try.f158.results.toList spec_l04Obs_ers spec_l04Obs_ebs)) k { env := [(6, .one (.sc (.int .i64 v6))), (5, .one (.sc (.bool v5))), (1, .one (.sc (.int .i64 v1))), (0, .one (.eref true (.pair (.pair (.int .i8) (.pair (.int .i8) (.pair (.int .i8) (.pair (.int .i8) (.pair (.int .i8) (.int .i8)))))) (.pair (.pair (.int .i64) (.int .i64)) (.int .i64))) [v0] 0 0 0 0))], bx := [], nx := 0 } = spec_l04Obs_e_l3 n k v6 v5 v1 v0
  | 0, _, _, _, _ => by kernel_rfl
  | k + 1, v6, v5, v1, v0 => by
    have h : iter (interp ([spec_l01OkF n, spec_l00InF n]) ty 53 0 n spec_l04Obs_ekp (codeAt spec_l04Obs_ec [1, 1, 0, 1, 0, 0])) (canon 0 (spec_l04Obs_ekp.loop 3)) (kAt ([spec_l01OkF n, spec_l00InF n]) ty 53 0 n spec_l04Obs_ekp spec_l04Obs_ec [1, 1, 0, 1, 0] [] (ending ty 0 Go.Proofs.Try.f158.results.toList spec_l04Obs_ers spec_l04Obs_ebs)) (k + 1) { env := [(6, .one (.sc (.int .i64 v6))), (5, .one (.sc (.bool v5))), (1, .one (.sc (.int .i64 v1))), (0, .one (.eref true (.pair (.pair (.int .i8) (.pair (.int .i8) (.pair (.int .i8) (.pair (.int .i8) (.pair (.int .i8) (.int .i8)))))) (.pair (.pair (.int .i64) (.int .i64)) (.int .i64))) [v0] 0 0 0 0))], bx := [], nx := 0 } = spec_l04Obs_e_t3 n (fun v6 v5 v1 v0 => iter (interp ([spec_l01OkF n, spec_l00InF n]) ty 53 0 n spec_l04Obs_ekp (codeAt spec_l04Obs_ec [1, 1, 0, 1, 0, 0])) (canon 0 (spec_l04Obs_ekp.loop 3)) (kAt ([spec_l01OkF n, spec_l00InF n]) ty 53 0 n spec_l04Obs_ekp spec_l04Obs_ec [1, 1, 0, 1, 0] [] (ending ty 0 Go.Proofs.Try.f158.results.toList spec_l04Obs_ers spec_l04Obs_ebs)) k { env := [(6, .one (.sc (.int .i64 v6))), (5, .one (.sc (.bool v5))), (1, .one (.sc (.int .i64 v1))), (0, .one (.eref true (.pair (.pair (.int .i8) (.pair (.int .i8) (.pair (.int .i8) (.pair (.int .i8) (.pair (.int .i8) (.int .i8)))))) (.pair (.pair (.int .i64) (.int .i64)) (.int .i64))) [v0] 0 0 0 0))], bx := [], nx := 0 }) v6 v5 v1 v0 := by kernel_rfl
    rw [h]
    have e := congrArg (fun g => spec_l04Obs_e_t3 n g v6 v5 v1 v0) (funext fun v6 => funext fun v5 => funext fun v1 => funext fun v0 => spec_l04Obs_e_l3_eq n k v6 v5 v1 v0)
    exact e

theorem spec_l04Obs_e_eq (n : Nat) (a0 : ((Int) × ((Int) × ((Int) × ((Int) × ((Int) × (Int)))))) × (((Int) × (Int)) × (Int))) (a1 : Int) : runBody ([spec_l01OkF n, spec_l00InF n]) ty 53 n spec_l04Obs_ekp spec_l04Obs_ec Go.Proofs.Try.f158.results.toList spec_l04Obs_ers spec_l04Obs_esp spec_l04Obs_ebs (a0, (a1, ())) () = spec_l04Obs_e n a0 a1 := by
  have h : runBody ([spec_l01OkF n, spec_l00InF n]) ty 53 n spec_l04Obs_ekp spec_l04Obs_ec Go.Proofs.Try.f158.results.toList spec_l04Obs_ers spec_l04Obs_esp spec_l04Obs_ebs (a0, (a1, ())) () = spec_l04Obs_e_t n (fun k v6 v5 v1 v0 => iter (interp ([spec_l01OkF n, spec_l00InF n]) ty 53 0 n spec_l04Obs_ekp (codeAt spec_l04Obs_ec [1, 1, 0, 1, 0, 0])) (canon 0 (spec_l04Obs_ekp.loop 3)) (kAt ([spec_l01OkF n, spec_l00InF n]) ty 53 0 n spec_l04Obs_ekp spec_l04Obs_ec [1, 1, 0, 1, 0] [] (ending ty 0 Go.Proofs.Try.f158.results.toList spec_l04Obs_ers spec_l04Obs_ebs)) k { env := [(6, .one (.sc (.int .i64 v6))), (5, .one (.sc (.bool v5))), (1, .one (.sc (.int .i64 v1))), (0, .one (.eref true (.pair (.pair (.int .i8) (.pair (.int .i8) (.pair (.int .i8) (.pair (.int .i8) (.pair (.int .i8) (.int .i8)))))) (.pair (.pair (.int .i64) (.int .i64)) (.int .i64))) [v0] 0 0 0 0))], bx := [], nx := 0 }) a0 a1 := by kernel_rfl
  rw [h]
  have e := congrArg (fun h3 => spec_l04Obs_e_t n h3 a0 a1) (funext fun k => funext fun v6 => funext fun v5 => funext fun v1 => funext fun v0 => spec_l04Obs_e_l3_eq n k v6 v5 v1 v0)
  exact e

theorem spec_l04Obs_e_ok (n : Nat) : FunOk P (spec_l04Obs_eF n) :=
  funOk_mk (C := [spec_l01OkF n, spec_l00InF n]) (N := 53) (kp := spec_l04Obs_ekp) (c := spec_l04Obs_ec) (n := n) (G := fun x y => spec_l04Obs_e n x.1 x.2.1) follows (AllOk.mem (⟨spec_l01Ok_ok n, ⟨spec_l00In_ok n, trivial⟩⟩ : AllOk P ([spec_l01OkF n, spec_l00InF n]))) (by kernel_rfl : P.funcs[158]? = some Go.Proofs.Try.f158) (by kernel_rfl) (by kernel_rfl) (by kernel_rfl)
    (fun x y => spec_l04Obs_e_eq n x.1 x.2.1) (fun _ _ => map_same (fun _ => rfl) _) (fun _ _ _ _ => rfl)

abbrev spec_l04Oksp : List Sp := [.ref 0]
abbrev spec_l04Okbs : List (Bs × Bool) := [(.var 59 (.pair (.int .i64) (.pair (.list (.pair (.pair (.int .i8) (.pair (.int .i8) (.pair (.int .i8) (.pair (.int .i8) (.pair (.int .i8) (.int .i8)))))) (.pair (.pair (.int .i64) (.int .i64)) (.int .i64)))) (.pair .bool (.pair (.int .i64) (.int .i64))))), true)]
abbrev spec_l04Okrs : List (Bool × List Rp) := [(false, [.v false .bool])]
noncomputable def spec_l04Okkp : Keep := { loop := fun id => match id with | 4 => ([3, 0], []) | _ => ([], []), join := fun id => match id with | _ => none }
noncomputable def spec_l04Okc : Code := bodyOf Go.Proofs.Try.f117
noncomputable def spec_l04OkF (n : Nat) : Fun := { id := 117, sp := spec_l04Oksp, bs := spec_l04Okbs, rs := spec_l04Okrs, f := fun x y => spec_l04Ok n y.1 }

theorem spec_l04Ok_l4_eq (n : Nat) : ∀ (k : Nat) (v3 : Int) (b0_0 : Int) (b0_1 : List (((Int) × ((Int) × ((Int) × ((Int) × ((Int) × (Int)))))) × (((Int) × (Int)) × (Int)))) (b0_2 : Bool) (b0_3 : Int) (b0_4 : Int), iter (interp ([spec_l00InF n, spec_l01OkF n, spec_l04Obs_eF n]) ty 62 1 n spec_l04Okkp (codeAt spec_l04Okc [1, 1, 0, 1, 0, 0])) (canon 1 (spec_l04Okkp.loop 4)) (kAt ([spec_l00InF n, spec_l01OkF n, spec_l04Obs_eF n]) ty 62 1 n spec_l04Okkp spec_l04Okc [1, 1, 0, 1, 0] [] (ending ty 1 Go.Proofs.Try.f117.results.toList spec_l04Okrs spec_l04Okbs)) k { env := [(3, .one (.sc (.int .i64 v3))), (0, .one (.ref 0 0 0 0 0 0))], bx := [(0, .var 59 [.sc (.int .i64 b0_0), .list true (.pair (.pair (.int .i8) (.pair (.int .i8) (.pair (.int .i8) (.pair (.int .i8) (.pair (.int .i8) (.int .i8)))))) (.pair (.pair (.int .i64) (.int .i64)) (.int .i64))) b0_1, .sc (.bool b0_2), .sc (.int .i64 b0_3), .sc (.int .i64 b0_4)])], nx := 1 } = spec_l04Ok_l4 n k v3 b0_0 b0_1 b0_2 b0_3 b0_4
  | 0, _, _, _, _, _, _ => by kernel_rfl
  | k + 1, v3, b0_0, b0_1, b0_2, b0_3, b0_4 => by
    have h : iter (interp ([spec_l00InF n, spec_l01OkF n, spec_l04Obs_eF n]) ty 62 1 n spec_l04Okkp (codeAt spec_l04Okc [1, 1, 0, 1, 0, 0])) (canon 1 (spec_l04Okkp.loop 4)) (kAt ([spec_l00InF n, spec_l01OkF n, spec_l04Obs_eF n]) ty 62 1 n spec_l04Okkp spec_l04Okc [1, 1, 0, 1, 0] [] (ending ty 1 Go.Proofs.Try.f117.results.toList spec_l04Okrs spec_l04Okbs)) (k + 1) { env := [(3, .one (.sc (.int .i64 v3))), (0, .one (.ref 0 0 0 0 0 0))], bx := [(0, .var 59 [.sc (.int .i64 b0_0), .list true (.pair (.pair (.int .i8) (.pair (.int .i8) (.pair (.int .i8) (.pair (.int .i8) (.pair (.int .i8) (.int .i8)))))) (.pair (.pair (.int .i64) (.int .i64)) (.int .i64))) b0_1, .sc (.bool b0_2), .sc (.int .i64 b0_3), .sc (.int .i64 b0_4)])], nx := 1 } = spec_l04Ok_t4 n (fun v3 b0_0 b0_1 b0_2 b0_3 b0_4 => iter (interp ([spec_l00InF n, spec_l01OkF n, spec_l04Obs_eF n]) ty 62 1 n spec_l04Okkp (codeAt spec_l04Okc [1, 1, 0, 1, 0, 0])) (canon 1 (spec_l04Okkp.loop 4)) (kAt ([spec_l00InF n, spec_l01OkF n, spec_l04Obs_eF n]) ty 62 1 n spec_l04Okkp spec_l04Okc [1, 1, 0, 1, 0] [] (ending ty 1 Go.Proofs.Try.f117.results.toList spec_l04Okrs spec_l04Okbs)) k { env := [(3, .one (.sc (.int .i64 v3))), (0, .one (.ref 0 0 0 0 0 0))], bx := [(0, .var 59 [.sc (.int .i64 b0_0), .list true (.pair (.pair (.int .i8) (.pair (.int .i8) (.pair (.int .i8) (.pair (.int .i8) (.pair (.int .i8) (.int .i8)))))) (.pair (.pair (.int .i64) (.int .i64)) (.int .i64))) b0_1, .sc (.bool b0_2), .sc (.int .i64 b0_3), .sc (.int .i64 b0_4)])], nx := 1 }) v3 b0_0 b0_1 b0_2 b0_3 b0_4 := by kernel_rfl
    rw [h]
    have e := congrArg (fun g => spec_l04Ok_t4 n g v3 b0_0 b0_1 b0_2 b0_3 b0_4) (funext fun v3 => funext fun b0_0 => funext fun b0_1 => funext fun b0_2 => funext fun b0_3 => funext fun b0_4 => spec_l04Ok_l4_eq n k v3 b0_0 b0_1 b0_2 b0_3 b0_4)
    exact e

theorem spec_l04Ok_eq (n : Nat) (b0 : (Int) × ((List (((Int) × ((Int) × ((Int) × ((Int) × ((Int) × (Int)))))) × (((Int) × (Int)) × (Int)))) × ((Bool) × ((Int) × (Int))))) : runBody ([spec_l00InF n, spec_l01OkF n, spec_l04Obs_eF n]) ty 62 n spec_l04Okkp spec_l04Okc Go.Proofs.Try.f117.results.toList spec_l04Okrs spec_l04Oksp spec_l04Okbs ((), ()) (b0, ()) = spec_l04Ok n b0 := by
  have h : runBody ([spec_l00InF n, spec_l01OkF n, spec_l04Obs_eF n]) ty 62 n spec_l04Okkp spec_l04Okc Go.Proofs.Try.f117.results.toList spec_l04Okrs spec_l04Oksp spec_l04Okbs ((), ()) (b0, ()) = spec_l04Ok_t n (fun k v3 b0_0 b0_1 b0_2 b0_3 b0_4 => iter (interp ([spec_l00InF n, spec_l01OkF n, spec_l04Obs_eF n]) ty 62 1 n spec_l04Okkp (codeAt spec_l04Okc [1, 1, 0, 1, 0, 0])) (canon 1 (spec_l04Okkp.loop 4)) (kAt ([spec_l00InF n, spec_l01OkF n, spec_l04Obs_eF n]) ty 62 1 n spec_l04Okkp spec_l04Okc [1, 1, 0, 1, 0] [] (ending ty 1 Go.Proofs.Try.f117.results.toList spec_l04Okrs spec_l04Okbs)) k { env := [(3, .one (.sc (.int .i64 v3))), (0, .one (.ref 0 0 0 0 0 0))], bx := [(0, .var 59 [.sc (.int .i64 b0_0), .list true (.pair (.pair (.int .i8) (.pair (.int .i8) (.pair (.int .i8) (.pair (.int .i8) (.pair (.int .i8) (.int .i8)))))) (.pair (.pair (.int .i64) (.int .i64)) (.int .i64))) b0_1, .sc (.bool b0_2), .sc (.int .i64 b0_3), .sc (.int .i64 b0_4)])], nx := 1 }) b0 := by kernel_rfl
  rw [h]
  have e := congrArg (fun h4 => spec_l04Ok_t n h4 b0) (funext fun k => funext fun v3 => funext fun b0_0 => funext fun b0_1 => funext fun b0_2 => funext fun b0_3 => funext fun b0_4 => spec_l04Ok_l4_eq n k v3 b0_0 b0_1 b0_2 b0_3 b0_4)
  exact e

theorem spec_l04Ok_ok (n : Nat) : FunOk P (spec_l04OkF n) :=
  funOk_mk (C := [spec_l00InF n, spec_l01OkF n, spec_l04Obs_eF n]) (N := 62) (kp := spec_l04Okkp) (c := spec_l04Okc) (n := n) (G := fun x y => spec_l04Ok n y.1) follows (AllOk.mem (⟨spec_l00In_ok n, ⟨spec_l01Ok_ok n, ⟨spec_l04Obs_e_ok n, trivial⟩⟩⟩ : AllOk P ([spec_l00InF n, spec_l01OkF n, spec_l04Obs_eF n]))) (by kernel_rfl : P.funcs[117]? = some Go.Proofs.Try.f117) (by kernel_rfl) (by kernel_rfl) (by kernel_rfl)
    (fun x y => spec_l04Ok_eq n y.1) (fun _ _ => map_same (fun _ => rfl) _) (fun _ _ _ _ => rfl)

abbrev spec_l04Fracssp : List Sp := [.v false (.list (.pair (.int .i64) (.int .i64)))]
abbrev spec_l04Fracsbs : List (Bs × Bool) := []
abbrev spec_l04Fracsrs : List (Bool × List Rp) := [(false, [.v false .bool])]
noncomputable def spec_l04Fracskp : Keep := { loop := fun id => match id with | 2 => ([3, 0], []) | _ => ([], []), join := fun id => match id with | _ => none }
noncomputable def spec_l04Fracsc : Code := bodyOf Go.Proofs.Try.f92
noncomputable def spec_l04FracsF (n : Nat) : Fun := { id := 92, sp := spec_l04Fracssp, bs := spec_l04Fracsbs, rs := spec_l04Fracsrs, f := fun x y => spec_l04Fracs n x.1 }

theorem spec_l04Fracs_l2_eq (n : Nat) : ∀ (k : Nat) (v3 : Int) (v0 : List ((Int) × (Int))), iter (interp ([spec_l01OkF n]) ty 16 0 n spec_l04Fracskp (codeAt spec_l04Fracsc [1, 0, 1, 0, 0])) (canon 0 (spec_l04Fracskp.loop 2)) (kAt ([spec_l01OkF n]) ty 16 0 n spec_l04Fracskp spec_l04Fracsc [1, 0, 1, 0] [] (ending ty 0 Go.Proofs.Try.f92.results.toList spec_l04Fracsrs spec_l04Fracsbs)) k { env := [(3, .one (.sc (.int .i64 v3))), (0, .one (.list true (.pair (.int .i64) (.int .i64)) v0))], bx := [], nx := 0 } = spec_l04Fracs_l2 n k v3 v0
  | 0, _, _ => by kernel_rfl
  | k + 1, v3, v0 => by
    have h : iter (interp ([spec_l01OkF n]) ty 16 0 n spec_l04Fracskp (codeAt spec_l04Fracsc [1, 0, 1, 0, 0])) (canon 0 (spec_l04Fracskp.loop 2)) (kAt ([spec_l01OkF n]) ty 16 0 n spec_l04Fracskp spec_l04Fracsc [1, 0, 1, 0] [] (ending ty 0 Go.Proofs.Try.f92.results.toList spec_l04Fracsrs spec_l04Fracsbs)) (k + 1) { env := [(3, .one (.sc (.int .i64 v3))), (0, .one (.list true (.pair (.int .i64) (.int .i64)) v0))], bx := [], nx := 0 } = spec_l04Fracs_t2 n (fun v3 v0 => iter (interp ([spec_l01OkF n]) ty 16 0 n spec_l04Fracskp (codeAt spec_l04Fracsc [1, 0, 1, 0, 0])) (canon 0 (spec_l04Fracskp.loop 2)) (kAt ([spec_l01OkF n]) ty 16 0 n spec_l04Fracskp spec_l04Fracsc [1, 0, 1, 0] [] (ending ty 0 Go.Proofs.Try.f92.results.toList spec_l04Fracsrs spec_l04Fracsbs)) k { env := [(3, .one (.sc (.int .i64 v3))), (0, .one (.list true (.pair (.int .i64) (.int .i64)) v0))], bx := [], nx := 0 }) v3 v0 := by kernel_rfl
    rw [h]
    have e := congrArg (fun g => spec_l04Fracs_t2 n g v3 v0) (funext fun v3 => funext fun v0 => spec_l04Fracs_l2_eq n k v3 v0)
    exact e

theorem spec_l04Fracs_eq (n : Nat) (a0 : List ((Int) × (Int))) : runBody ([spec_l01OkF n]) ty 16 n spec_l04Fracskp spec_l04Fracsc Go.Proofs.Try.f92.results.toList spec_l04Fracsrs spec_l04Fracssp spec_l04Fracsbs (a0, ()) () = spec_l04Fracs n a0 := by
  have h : runBody ([spec_l01OkF n]) ty 16 n spec_l04Fracskp spec_l04Fracsc Go.Proofs.Try.f92.results.toList spec_l04Fracsrs spec_l04Fracssp spec_l04Fracsbs (a0, ()) () = spec_l04Fracs_t n (fun k v3 v0 => iter (interp ([spec_l01OkF n]) ty 16 0 n spec_l04Fracskp (codeAt spec_l04Fracsc [1, 0, 1, 0, 0])) (canon 0 (spec_l04Fracskp.loop 2)) (kAt ([spec_l01OkF n]) ty 16 0 n spec_l04Fracskp spec_l04Fracsc [1, 0, 1, 0] [] (ending ty 0 Go.Proofs.Try.f92.results.toList spec_l04Fracsrs spec_l04Fracsbs)) k { env := [(3, .one (.sc (.int .i64 v3))), (0, .one (.list true (.pair (.int .i64) (.int .i64)) v0))], bx := [], nx := 0 }) a0 := by kernel_rfl
  rw [h]
  have e := congrArg (fun h2 => spec_l04Fracs_t n h2 a0) (funext fun k => funext fun v3 => funext fun v0 => spec_l04Fracs_l2_eq n k v3 v0)
  exact e

theorem spec_l04Fracs_ok (n : Nat) : FunOk P (spec_l04FracsF n) :=
  funOk_mk (C := [spec_l01OkF n]) (N := 16) (kp := spec_l04Fracskp) (c := spec_l04Fracsc) (n := n) (G := fun x y => spec_l04Fracs n x.1) follows (AllOk.mem (⟨spec_l01Ok_ok n, trivial⟩ : AllOk P ([spec_l01OkF n]))) (by kernel_rfl : P.funcs[92]? = some Go.Proofs.Try.f92) (by kernel_rfl) (by kernel_rfl) (by kernel_rfl)
    (fun x y => spec_l04Fracs_eq n x.1) (fun _ _ => map_same (fun _ => rfl) _) (fun _ _ _ _ => rfl)

abbrev spec_l04Askedsp : List Sp := [.ref 0, .v false (.list (.pair (.int .i64) (.int .i64)))]
abbrev spec_l04Askedbs : List (Bs × Bool) := [(.var 59 (.pair (.int .i64) (.pair (.list (.pair (.pair (.int .i8) (.pair (.int .i8) (.pair (.int .i8) (.pair (.int .i8) (.pair (.int .i8) (.int .i8)))))) (.pair (.pair (.int .i64) (.int .i64)) (.int .i64)))) (.pair .bool (.pair (.int .i64) (.int .i64))))), true)]
abbrev spec_l04Askedrs : List (Bool × List Rp) := [(false, [.v false (.int .i64)])]
noncomputable def spec_l04Askedkp : Keep := { loop := fun id => match id with | _ => ([], []), join := fun id => match id with | _ => none }
noncomputable def spec_l04Askedc : Code := bodyOf Go.Proofs.Try.f128
noncomputable def spec_l04AskedF (n : Nat) : Fun := { id := 128, sp := spec_l04Askedsp, bs := spec_l04Askedbs, rs := spec_l04Askedrs, f := fun x y => spec_l04Asked n x.2.1 y.1 }

theorem spec_l04Asked_eq (n : Nat) (a1 : List ((Int) × (Int))) (b0 : (Int) × ((List (((Int) × ((Int) × ((Int) × ((Int) × ((Int) × (Int)))))) × (((Int) × (Int)) × (Int)))) × ((Bool) × ((Int) × (Int))))) : runBody ([spec_l04OkF n, spec_l04FracsF n]) ty 20 n spec_l04Askedkp spec_l04Askedc Go.Proofs.Try.f128.results.toList spec_l04Askedrs spec_l04Askedsp spec_l04Askedbs ((), (a1, ())) (b0, ()) = spec_l04Asked n a1 b0 := by
  have h : runBody ([spec_l04OkF n, spec_l04FracsF n]) ty 20 n spec_l04Askedkp spec_l04Askedc Go.Proofs.Try.f128.results.toList spec_l04Askedrs spec_l04Askedsp spec_l04Askedbs ((), (a1, ())) (b0, ()) = spec_l04Asked_t n a1 b0 := by kernel_rfl
  rw [h]
  rfl

theorem spec_l04Asked_ok (n : Nat) : FunOk P (spec_l04AskedF n) :=
  funOk_mk (C := [spec_l04OkF n, spec_l04FracsF n]) (N := 20) (kp := spec_l04Askedkp) (c := spec_l04Askedc) (n := n) (G := fun x y => spec_l04Asked n x.2.1 y.1) follows (AllOk.mem (⟨spec_l04Ok_ok n, ⟨spec_l04Fracs_ok n, trivial⟩⟩ : AllOk P ([spec_l04OkF n, spec_l04FracsF n]))) (by kernel_rfl : P.funcs[128]? = some Go.Proofs.Try.f128) (by kernel_rfl) (by kernel_rfl) (by kernel_rfl)
    (fun x y => spec_l04Asked_eq n x.2.1 y.1) (fun _ _ => map_same (fun _ => rfl) _) (fun _ _ _ _ => rfl)

abbrev spec_l01Wholesp : List Sp := [.v false (.int .i64)]
abbrev spec_l01Wholebs : List (Bs × Bool) := []
abbrev spec_l01Wholers : List (Bool × List Rp) := [(true, [.v false (.pair (.int .i64) (.int .i64))])]
noncomputable def spec_l01Wholekp : Keep := { loop := fun id => match id with | _ => ([], []), join := fun id => match id with | _ => none }
noncomputable def spec_l01Wholec : Code := bodyOf Go.Proofs.Try.f171
noncomputable def spec_l01WholeF (n : Nat) : Fun := { id := 171, sp := spec_l01Wholesp, bs := spec_l01Wholebs, rs := spec_l01Wholers, f := fun x y => spec_l01Whole n x.1 }

theorem spec_l01Whole_eq (n : Nat) (a0 : Int) : runBody ([]) ty 5 n spec_l01Wholekp spec_l01Wholec Go.Proofs.Try.f171.results.toList spec_l01Wholers spec_l01Wholesp spec_l01Wholebs (a0, ()) () = spec_l01Whole n a0 := by
  have h : runBody ([]) ty 5 n spec_l01Wholekp spec_l01Wholec Go.Proofs.Try.f171.results.toList spec_l01Wholers spec_l01Wholesp spec_l01Wholebs (a0, ()) () = spec_l01Whole_t n a0 := by kernel_rfl
  rw [h]
  rfl

theorem spec_l01Whole_ok (n : Nat) : FunOk P (spec_l01WholeF n) :=
  funOk_mk (C := []) (N := 5) (kp := spec_l01Wholekp) (c := spec_l01Wholec) (n := n) (G := fun x y => spec_l01Whole n x.1) follows (AllOk.mem (trivial : AllOk P ([]))) (by kernel_rfl : P.funcs[171]? = some Go.Proofs.Try.f171) (by kernel_rfl) (by kernel_rfl) (by kernel_rfl)
    (fun x y => spec_l01Whole_eq n x.1) (fun _ _ => map_same (fun _ => rfl) _) (fun _ _ _ _ => rfl)

abbrev spec_l01Reducedsp : List Sp := [.v false (.int .i64), .v false (.int .i64)]
abbrev spec_l01Reducedbs : List (Bs × Bool) := []
abbrev spec_l01Reducedrs : List (Bool × List Rp) := [(true, [.v false (.pair (.int .i64) (.int .i64))]), (false, [.v false (.int .i64)])]
noncomputable def spec_l01Reducedkp : Keep := { loop := fun id => match id with | _ => ([], []), join := fun id => match id with | _ => none }
noncomputable def spec_l01Reducedc : Code := bodyOf Go.Proofs.Try.f160
noncomputable def spec_l01ReducedF (n : Nat) : Fun := { id := 160, sp := spec_l01Reducedsp, bs := spec_l01Reducedbs, rs := spec_l01Reducedrs, f := fun x y => spec_l01Reduced n x.1 x.2.1 }

theorem spec_l01Reduced_eq (n : Nat) (a0 : Int) (a1 : Int) : runBody ([spec_l01AbsF n, spec_l01GcdF n, spec_l01OkF n]) ty 33 n spec_l01Reducedkp spec_l01Reducedc Go.Proofs.Try.f160.results.toList spec_l01Reducedrs spec_l01Reducedsp spec_l01Reducedbs (a0, (a1, ())) () = spec_l01Reduced n a0 a1 := by
  have h : runBody ([spec_l01AbsF n, spec_l01GcdF n, spec_l01OkF n]) ty 33 n spec_l01Reducedkp spec_l01Reducedc Go.Proofs.Try.f160.results.toList spec_l01Reducedrs spec_l01Reducedsp spec_l01Reducedbs (a0, (a1, ())) () = spec_l01Reduced_t n a0 a1 := by kernel_rfl
  rw [h]
  rfl

theorem spec_l01Reduced_ok (n : Nat) : FunOk P (spec_l01ReducedF n) :=
  funOk_mk (C := [spec_l01AbsF n, spec_l01GcdF n, spec_l01OkF n]) (N := 33) (kp := spec_l01Reducedkp) (c := spec_l01Reducedc) (n := n) (G := fun x y => spec_l01Reduced n x.1 x.2.1) follows (AllOk.mem (⟨spec_l01Abs_ok n, ⟨spec_l01Gcd_ok n, ⟨spec_l01Ok_ok n, trivial⟩⟩⟩ : AllOk P ([spec_l01AbsF n, spec_l01GcdF n, spec_l01OkF n]))) (by kernel_rfl : P.funcs[160]? = some Go.Proofs.Try.f160) (by kernel_rfl) (by kernel_rfl) (by kernel_rfl)
    (fun x y => spec_l01Reduced_eq n x.1 x.2.1) (fun _ _ => map_same (fun _ => rfl) _) (fun _ _ _ _ => rfl)

abbrev spec_l01Mulsp : List Sp := [.v true (.pair (.int .i64) (.int .i64)), .v true (.pair (.int .i64) (.int .i64))]
abbrev spec_l01Mulbs : List (Bs × Bool) := []
abbrev spec_l01Mulrs : List (Bool × List Rp) := [(true, [.v false (.pair (.int .i64) (.int .i64))]), (false, [.v false (.int .i64)])]
noncomputable def spec_l01Mulkp : Keep := { loop := fun id => match id with | _ => ([], []), join := fun id => match id with | _ => none }
noncomputable def spec_l01Mulc : Code := bodyOf Go.Proofs.Try.f182
noncomputable def spec_l01MulF (n : Nat) : Fun := { id := 182, sp := spec_l01Mulsp, bs := spec_l01Mulbs, rs := spec_l01Mulrs, f := fun x y => spec_l01Mul n x.1 x.2.1 }

theorem spec_l01Mul_eq (n : Nat) (a0 : (Int) × (Int)) (a1 : (Int) × (Int)) : runBody ([spec_l01ReducedF n]) ty 19 n spec_l01Mulkp spec_l01Mulc Go.Proofs.Try.f182.results.toList spec_l01Mulrs spec_l01Mulsp spec_l01Mulbs (a0, (a1, ())) () = spec_l01Mul n a0 a1 := by
  have h : runBody ([spec_l01ReducedF n]) ty 19 n spec_l01Mulkp spec_l01Mulc Go.Proofs.Try.f182.results.toList spec_l01Mulrs spec_l01Mulsp spec_l01Mulbs (a0, (a1, ())) () = spec_l01Mul_t n a0 a1 := by kernel_rfl
  rw [h]
  rfl

theorem spec_l01Mul_ok (n : Nat) : FunOk P (spec_l01MulF n) :=
  funOk_mk (C := [spec_l01ReducedF n]) (N := 19) (kp := spec_l01Mulkp) (c := spec_l01Mulc) (n := n) (G := fun x y => spec_l01Mul n x.1 x.2.1) follows (AllOk.mem (⟨spec_l01Reduced_ok n, trivial⟩ : AllOk P ([spec_l01ReducedF n]))) (by kernel_rfl : P.funcs[182]? = some Go.Proofs.Try.f182) (by kernel_rfl) (by kernel_rfl) (by kernel_rfl)
    (fun x y => spec_l01Mul_eq n x.1 x.2.1) (fun _ _ => map_same (fun _ => rfl) _) (fun _ _ _ _ => rfl)

abbrev spec_l01Negsp : List Sp := [.v true (.pair (.int .i64) (.int .i64))]
abbrev spec_l01Negbs : List (Bs × Bool) := []
abbrev spec_l01Negrs : List (Bool × List Rp) := [(true, [.v false (.pair (.int .i64) (.int .i64))])]
noncomputable def spec_l01Negkp : Keep := { loop := fun id => match id with | _ => ([], []), join := fun id => match id with | _ => none }
noncomputable def spec_l01Negc : Code := bodyOf Go.Proofs.Try.f184
noncomputable def spec_l01NegF (n : Nat) : Fun := { id := 184, sp := spec_l01Negsp, bs := spec_l01Negbs, rs := spec_l01Negrs, f := fun x y => spec_l01Neg n x.1 }

theorem spec_l01Neg_eq (n : Nat) (a0 : (Int) × (Int)) : runBody ([]) ty 9 n spec_l01Negkp spec_l01Negc Go.Proofs.Try.f184.results.toList spec_l01Negrs spec_l01Negsp spec_l01Negbs (a0, ()) () = spec_l01Neg n a0 := by
  have h : runBody ([]) ty 9 n spec_l01Negkp spec_l01Negc Go.Proofs.Try.f184.results.toList spec_l01Negrs spec_l01Negsp spec_l01Negbs (a0, ()) () = spec_l01Neg_t n a0 := by kernel_rfl
  rw [h]
  rfl

theorem spec_l01Neg_ok (n : Nat) : FunOk P (spec_l01NegF n) :=
  funOk_mk (C := []) (N := 9) (kp := spec_l01Negkp) (c := spec_l01Negc) (n := n) (G := fun x y => spec_l01Neg n x.1) follows (AllOk.mem (trivial : AllOk P ([]))) (by kernel_rfl : P.funcs[184]? = some Go.Proofs.Try.f184) (by kernel_rfl) (by kernel_rfl) (by kernel_rfl)
    (fun x y => spec_l01Neg_eq n x.1) (fun _ _ => map_same (fun _ => rfl) _) (fun _ _ _ _ => rfl)

abbrev spec_l01Addsp : List Sp := [.v true (.pair (.int .i64) (.int .i64)), .v true (.pair (.int .i64) (.int .i64))]
abbrev spec_l01Addbs : List (Bs × Bool) := []
abbrev spec_l01Addrs : List (Bool × List Rp) := [(true, [.v false (.pair (.int .i64) (.int .i64))]), (false, [.v false (.int .i64)])]
noncomputable def spec_l01Addkp : Keep := { loop := fun id => match id with | _ => ([], []), join := fun id => match id with | _ => none }
noncomputable def spec_l01Addc : Code := bodyOf Go.Proofs.Try.f122
noncomputable def spec_l01AddF (n : Nat) : Fun := { id := 122, sp := spec_l01Addsp, bs := spec_l01Addbs, rs := spec_l01Addrs, f := fun x y => spec_l01Add n x.1 x.2.1 }

theorem spec_l01Add_eq (n : Nat) (a0 : (Int) × (Int)) (a1 : (Int) × (Int)) : runBody ([spec_l01ReducedF n]) ty 25 n spec_l01Addkp spec_l01Addc Go.Proofs.Try.f122.results.toList spec_l01Addrs spec_l01Addsp spec_l01Addbs (a0, (a1, ())) () = spec_l01Add n a0 a1 := by
  have h : runBody ([spec_l01ReducedF n]) ty 25 n spec_l01Addkp spec_l01Addc Go.Proofs.Try.f122.results.toList spec_l01Addrs spec_l01Addsp spec_l01Addbs (a0, (a1, ())) () = spec_l01Add_t n a0 a1 := by kernel_rfl
  rw [h]
  rfl

theorem spec_l01Add_ok (n : Nat) : FunOk P (spec_l01AddF n) :=
  funOk_mk (C := [spec_l01ReducedF n]) (N := 25) (kp := spec_l01Addkp) (c := spec_l01Addc) (n := n) (G := fun x y => spec_l01Add n x.1 x.2.1) follows (AllOk.mem (⟨spec_l01Reduced_ok n, trivial⟩ : AllOk P ([spec_l01ReducedF n]))) (by kernel_rfl : P.funcs[122]? = some Go.Proofs.Try.f122) (by kernel_rfl) (by kernel_rfl) (by kernel_rfl)
    (fun x y => spec_l01Add_eq n x.1 x.2.1) (fun _ _ => map_same (fun _ => rfl) _) (fun _ _ _ _ => rfl)

abbrev spec_l01Subsp : List Sp := [.v true (.pair (.int .i64) (.int .i64)), .v true (.pair (.int .i64) (.int .i64))]
abbrev spec_l01Subbs : List (Bs × Bool) := []
abbrev spec_l01Subrs : List (Bool × List Rp) := [(true, [.v false (.pair (.int .i64) (.int .i64))]), (false, [.v false (.int .i64)])]
noncomputable def spec_l01Subkp : Keep := { loop := fun id => match id with | _ => ([], []), join := fun id => match id with | _ => none }
noncomputable def spec_l01Subc : Code := bodyOf Go.Proofs.Try.f168
noncomputable def spec_l01SubF (n : Nat) : Fun := { id := 168, sp := spec_l01Subsp, bs := spec_l01Subbs, rs := spec_l01Subrs, f := fun x y => spec_l01Sub n x.1 x.2.1 }

theorem spec_l01Sub_eq (n : Nat) (a0 : (Int) × (Int)) (a1 : (Int) × (Int)) : runBody ([spec_l01NegF n, spec_l01AddF n]) ty 12 n spec_l01Subkp spec_l01Subc Go.Proofs.Try.f168.results.toList spec_l01Subrs spec_l01Subsp spec_l01Subbs (a0, (a1, ())) () = spec_l01Sub n a0 a1 := by
  have h : runBody ([spec_l01NegF n, spec_l01AddF n]) ty 12 n spec_l01Subkp spec_l01Subc Go.Proofs.Try.f168.results.toList spec_l01Subrs spec_l01Subsp spec_l01Subbs (a0, (a1, ())) () = spec_l01Sub_t n a0 a1 := by kernel_rfl
  rw [h]
  rfl

theorem spec_l01Sub_ok (n : Nat) : FunOk P (spec_l01SubF n) :=
  funOk_mk (C := [spec_l01NegF n, spec_l01AddF n]) (N := 12) (kp := spec_l01Subkp) (c := spec_l01Subc) (n := n) (G := fun x y => spec_l01Sub n x.1 x.2.1) follows (AllOk.mem (⟨spec_l01Neg_ok n, ⟨spec_l01Add_ok n, trivial⟩⟩ : AllOk P ([spec_l01NegF n, spec_l01AddF n]))) (by kernel_rfl : P.funcs[168]? = some Go.Proofs.Try.f168) (by kernel_rfl) (by kernel_rfl) (by kernel_rfl)
    (fun x y => spec_l01Sub_eq n x.1 x.2.1) (fun _ _ => map_same (fun _ => rfl) _) (fun _ _ _ _ => rfl)

abbrev spec_l04Lesssp : List Sp := [.v true (.pair (.int .i64) (.int .i64)), .v true (.pair (.int .i64) (.int .i64)), .v true (.pair (.int .i64) (.int .i64))]
abbrev spec_l04Lessbs : List (Bs × Bool) := []
abbrev spec_l04Lessrs : List (Bool × List Rp) := [(true, [.v false (.pair (.int .i64) (.int .i64))]), (false, [.v false (.int .i64)])]
noncomputable def spec_l04Lesskp : Keep := { loop := fun id => match id with | _ => ([], []), join := fun id => match id with | _ => none }
noncomputable def spec_l04Lessc : Code := bodyOf Go.Proofs.Try.f170
noncomputable def spec_l04LessF (n : Nat) : Fun := { id := 170, sp := spec_l04Lesssp, bs := spec_l04Lessbs, rs := spec_l04Lessrs, f := fun x y => spec_l04Less n x.1 x.2.1 x.2.2.1 }

theorem spec_l04Less_eq (n : Nat) (a0 : (Int) × (Int)) (a1 : (Int) × (Int)) (a2 : (Int) × (Int)) : runBody ([spec_l01MulF n, spec_l01SubF n]) ty 25 n spec_l04Lesskp spec_l04Lessc Go.Proofs.Try.f170.results.toList spec_l04Lessrs spec_l04Lesssp spec_l04Lessbs (a0, (a1, (a2, ()))) () = spec_l04Less n a0 a1 a2 := by
  have h : runBody ([spec_l01MulF n, spec_l01SubF n]) ty 25 n spec_l04Lesskp spec_l04Lessc Go.Proofs.Try.f170.results.toList spec_l04Lessrs spec_l04Lesssp spec_l04Lessbs (a0, (a1, (a2, ()))) () = spec_l04Less_t n a0 a1 a2 := by kernel_rfl
  rw [h]
  rfl

theorem spec_l04Less_ok (n : Nat) : FunOk P (spec_l04LessF n) :=
  funOk_mk (C := [spec_l01MulF n, spec_l01SubF n]) (N := 25) (kp := spec_l04Lesskp) (c := spec_l04Lessc) (n := n) (G := fun x y => spec_l04Less n x.1 x.2.1 x.2.2.1) follows (AllOk.mem (⟨spec_l01Mul_ok n, ⟨spec_l01Sub_ok n, trivial⟩⟩ : AllOk P ([spec_l01MulF n, spec_l01SubF n]))) (by kernel_rfl : P.funcs[170]? = some Go.Proofs.Try.f170) (by kernel_rfl) (by kernel_rfl) (by kernel_rfl)
    (fun x y => spec_l04Less_eq n x.1 x.2.1 x.2.2.1) (fun _ _ => map_same (fun _ => rfl) _) (fun _ _ _ _ => rfl)

abbrev spec_l04Residual_esp : List Sp := [.er (.pair (.pair (.int .i8) (.pair (.int .i8) (.pair (.int .i8) (.pair (.int .i8) (.pair (.int .i8) (.int .i8)))))) (.pair (.pair (.int .i64) (.int .i64)) (.int .i64))), .v false (.list (.pair (.int .i64) (.int .i64)))]
abbrev spec_l04Residual_ebs : List (Bs × Bool) := []
abbrev spec_l04Residual_ers : List (Bool × List Rp) := [(true, [.v false (.pair (.int .i64) (.int .i64))]), (false, [.v false (.int .i64)])]
noncomputable def spec_l04Residual_ekp : Keep := { loop := fun id => match id with | 3 => ([7, 4, 6, 1, 0], []) | _ => ([], []), join := fun id => match id with | _ => none }
noncomputable def spec_l04Residual_ec : Code := bodyOf Go.Proofs.Try.f129
noncomputable def spec_l04Residual_eF (n : Nat) : Fun := { id := 129, sp := spec_l04Residual_esp, bs := spec_l04Residual_ebs, rs := spec_l04Residual_ers, f := fun x y => spec_l04Residual_e n x.1 x.2.1 }

theorem spec_l04Residual_e_l3_eq (n : Nat) : ∀ (k : Nat) (v7 : Int) (v1 : List ((Int) × (Int))) (v0 : ((Int) × ((Int) × ((Int) × ((Int) × ((Int) × (Int)))))) × (((Int) × (Int)) × (Int))) (b0_0 : Int) (b0_1 : Int) (b1_0 : Int) (b1_1 : Int), iter (interp ([spec_l01WholeF n, spec_l04LessF n]) ty 50 0 n spec_l04Residual_ekp (codeAt spec_l04Residual_ec [1, 1, 0, 1, 0, 0])) (canon 0 (spec_l04Residual_ekp.loop 3)) (kAt ([spec_l01WholeF n, spec_l04LessF n]) ty 50 0 n spec_l04Residual_ekp spec_l04Residual_ec [1, 1, 0, 1, 0] [] (ending ty 0 Go.Proofs.Try.f129.results.toList spec_l04Residual_ers spec_l04Residual_ebs)) k { env := [(7, .one (.sc (.int .i64 v7))), (4, .one (.ref 0 0 0 0 0 0)), (6, .one (.ref 1 0 0 0 0 0)), (1, .one (.list true (.pair (.int .i64) (.int .i64)) v1)), (0, .one (.eref true (.pair (.pair (.int .i8) (.pair (.int .i8) (.pair (.int .i8) (.pair (.int .i8) (.pair (.int .i8) (.int .i8)))))) (.pair (.pair (.int .i64) (.int .i64)) (.int .i64))) [v0] 0 0 0 0))], bx := [(0, .var 45 [.sc (.int .i64 b0_0), .sc (.int .i64 b0_1)]), (1, .var 45 [.sc (.int .i64 b1_0), .sc (.int .i64 b1_1)])], nx := 2 } = spec_l04Residual_e_l3 n k v7 v1 v0 b0_0 b0_1 b1_0 b1_1
  | 0, _, _, _, _, _, _, _ => by kernel_rfl
  | k + 1, v7, v1, v0, b0_0, b0_1, b1_0, b1_1 => by
    have h : iter (interp ([spec_l01WholeF n, spec_l04LessF n]) ty 50 0 n spec_l04Residual_ekp (codeAt spec_l04Residual_ec [1, 1, 0, 1, 0, 0])) (canon 0 (spec_l04Residual_ekp.loop 3)) (kAt ([spec_l01WholeF n, spec_l04LessF n]) ty 50 0 n spec_l04Residual_ekp spec_l04Residual_ec [1, 1, 0, 1, 0] [] (ending ty 0 Go.Proofs.Try.f129.results.toList spec_l04Residual_ers spec_l04Residual_ebs)) (k + 1) { env := [(7, .one (.sc (.int .i64 v7))), (4, .one (.ref 0 0 0 0 0 0)), (6, .one (.ref 1 0 0 0 0 0)), (1, .one (.list true (.pair (.int .i64) (.int .i64)) v1)), (0, .one (.eref true (.pair (.pair (.int .i8) (.pair (.int .i8) (.pair (.int .i8) (.pair (.int .i8) (.pair (.int .i8) (.int .i8)))))) (.pair (.pair (.int .i64) (.int .i64)) (.int .i64))) [v0] 0 0 0 0))], bx := [(0, .var 45 [.sc (.int .i64 b0_0), .sc (.int .i64 b0_1)]), (1, .var 45 [.sc (.int .i64 b1_0), .sc (.int .i64 b1_1)])], nx := 2 } = spec_l04Residual_e_t3 n (fun v7 v1 v0 b0_0 b0_1 b1_0 b1_1 => iter (interp ([spec_l01WholeF n, spec_l04LessF n]) ty 50 0 n spec_l04Residual_ekp (codeAt spec_l04Residual_ec [1, 1, 0, 1, 0, 0])) (canon 0 (spec_l04Residual_ekp.loop 3)) (kAt ([spec_l01WholeF n, spec_l04LessF n]) ty 50 0 n spec_l04Residual_ekp spec_l04Residual_ec [1, 1, 0, 1, 0] [] (ending ty 0 Go.Proofs.Try.f129.results.toList spec_l04Residual_ers spec_l04Residual_ebs)) k { env := [(7, .one (.sc (.int .i64 v7))), (4, .one (.ref 0 0 0 0 0 0)), (6, .one (.ref 1 0 0 0 0 0)), (1, .one (.list true (.pair (.int .i64) (.int .i64)) v1)), (0, .one (.eref true (.pair (.pair (.int .i8) (.pair (.int .i8) (.pair (.int .i8) (.pair (.int .i8) (.pair (.int .i8) (.int .i8)))))) (.pair (.pair (.int .i64) (.int .i64)) (.int .i64))) [v0] 0 0 0 0))], bx := [(0, .var 45 [.sc (.int .i64 b0_0), .sc (.int .i64 b0_1)]), (1, .var 45 [.sc (.int .i64 b1_0), .sc (.int .i64 b1_1)])], nx := 2 }) v7 v1 v0 b0_0 b0_1 b1_0 b1_1 := by kernel_rfl
    rw [h]
    have e := congrArg (fun g => spec_l04Residual_e_t3 n g v7 v1 v0 b0_0 b0_1 b1_0 b1_1) (funext fun v7 => funext fun v1 => funext fun v0 => funext fun b0_0 => funext fun b0_1 => funext fun b1_0 => funext fun b1_1 => spec_l04Residual_e_l3_eq n k v7 v1 v0 b0_0 b0_1 b1_0 b1_1)
    exact e

theorem spec_l04Residual_e_eq (n : Nat) (a0 : ((Int) × ((Int) × ((Int) × ((Int) × ((Int) × (Int)))))) × (((Int) × (Int)) × (Int))) (a1 : List ((Int) × (Int))) : runBody ([spec_l01WholeF n, spec_l04LessF n]) ty 50 n spec_l04Residual_ekp spec_l04Residual_ec Go.Proofs.Try.f129.results.toList spec_l04Residual_ers spec_l04Residual_esp spec_l04Residual_ebs (a0, (a1, ())) () = spec_l04Residual_e n a0 a1 := by
  have h : runBody ([spec_l01WholeF n, spec_l04LessF n]) ty 50 n spec_l04Residual_ekp spec_l04Residual_ec Go.Proofs.Try.f129.results.toList spec_l04Residual_ers spec_l04Residual_esp spec_l04Residual_ebs (a0, (a1, ())) () = spec_l04Residual_e_t n (fun k v7 v1 v0 b0_0 b0_1 b1_0 b1_1 => iter (interp ([spec_l01WholeF n, spec_l04LessF n]) ty 50 0 n spec_l04Residual_ekp (codeAt spec_l04Residual_ec [1, 1, 0, 1, 0, 0])) (canon 0 (spec_l04Residual_ekp.loop 3)) (kAt ([spec_l01WholeF n, spec_l04LessF n]) ty 50 0 n spec_l04Residual_ekp spec_l04Residual_ec [1, 1, 0, 1, 0] [] (ending ty 0 Go.Proofs.Try.f129.results.toList spec_l04Residual_ers spec_l04Residual_ebs)) k { env := [(7, .one (.sc (.int .i64 v7))), (4, .one (.ref 0 0 0 0 0 0)), (6, .one (.ref 1 0 0 0 0 0)), (1, .one (.list true (.pair (.int .i64) (.int .i64)) v1)), (0, .one (.eref true (.pair (.pair (.int .i8) (.pair (.int .i8) (.pair (.int .i8) (.pair (.int .i8) (.pair (.int .i8) (.int .i8)))))) (.pair (.pair (.int .i64) (.int .i64)) (.int .i64))) [v0] 0 0 0 0))], bx := [(0, .var 45 [.sc (.int .i64 b0_0), .sc (.int .i64 b0_1)]), (1, .var 45 [.sc (.int .i64 b1_0), .sc (.int .i64 b1_1)])], nx := 2 }) a0 a1 := by kernel_rfl
  rw [h]
  have e := congrArg (fun h3 => spec_l04Residual_e_t n h3 a0 a1) (funext fun k => funext fun v7 => funext fun v1 => funext fun v0 => funext fun b0_0 => funext fun b0_1 => funext fun b1_0 => funext fun b1_1 => spec_l04Residual_e_l3_eq n k v7 v1 v0 b0_0 b0_1 b1_0 b1_1)
  exact e

theorem spec_l04Residual_e_ok (n : Nat) : FunOk P (spec_l04Residual_eF n) :=
  funOk_mk (C := [spec_l01WholeF n, spec_l04LessF n]) (N := 50) (kp := spec_l04Residual_ekp) (c := spec_l04Residual_ec) (n := n) (G := fun x y => spec_l04Residual_e n x.1 x.2.1) follows (AllOk.mem (⟨spec_l01Whole_ok n, ⟨spec_l04Less_ok n, trivial⟩⟩ : AllOk P ([spec_l01WholeF n, spec_l04LessF n]))) (by kernel_rfl : P.funcs[129]? = some Go.Proofs.Try.f129) (by kernel_rfl) (by kernel_rfl) (by kernel_rfl)
    (fun x y => spec_l04Residual_e_eq n x.1 x.2.1) (fun _ _ => map_same (fun _ => rfl) _) (fun _ _ _ _ => rfl)

abbrev spec_ResidualsOfsp : List Sp := [.v true (.pair (.int .i64) (.pair (.list (.pair (.pair (.int .i8) (.pair (.int .i8) (.pair (.int .i8) (.pair (.int .i8) (.pair (.int .i8) (.int .i8)))))) (.pair (.pair (.int .i64) (.int .i64)) (.int .i64)))) (.pair .bool (.pair (.int .i64) (.int .i64))))), .v false (.list (.pair (.int .i64) (.int .i64)))]
abbrev spec_ResidualsOfbs : List (Bs × Bool) := []
abbrev spec_ResidualsOfrs : List (Bool × List Rp) := [(false, [.new  (.pair (.int .i64) (.int .i64))]), (false, [.v false (.int .i64)])]
noncomputable def spec_ResidualsOfkp : Keep := { loop := fun id => match id with | 6 => ([8, 7, 1, 2], []) | _ => ([], []), join := fun id => match id with | _ => none }
noncomputable def spec_ResidualsOfc : Code := bodyOf Go.Proofs.Try.f68
noncomputable def spec_ResidualsOfF (n : Nat) : Fun := { id := 68, sp := spec_ResidualsOfsp, bs := spec_ResidualsOfbs, rs := spec_ResidualsOfrs, f := fun x y => spec_ResidualsOf n x.1 x.2.1 }

theorem spec_ResidualsOf_l6_eq (n : Nat) : ∀ (k : Nat) (v8 : Int) (v1 : List ((Int) × (Int))) (b0 : List ((Int) × (Int))) (b1_0 : Int) (b1_1 : List (((Int) × ((Int) × ((Int) × ((Int) × ((Int) × (Int)))))) × (((Int) × (Int)) × (Int)))) (b1_2 : Bool) (b1_3 : Int) (b1_4 : Int), iter (interp ([spec_l04AskedF n, spec_l04Residual_eF n]) ty 43 0 n spec_ResidualsOfkp (codeAt spec_ResidualsOfc [1, 1, 1, 0, 1, 0, 0])) (canon 0 (spec_ResidualsOfkp.loop 6)) (kAt ([spec_l04AskedF n, spec_l04Residual_eF n]) ty 43 0 n spec_ResidualsOfkp spec_ResidualsOfc [1, 1, 1, 0, 1, 0] [] (ending ty 0 Go.Proofs.Try.f68.results.toList spec_ResidualsOfrs spec_ResidualsOfbs)) k { env := [(8, .one (.sc (.int .i64 v8))), (7, .one (.slice 0 0 none)), (1, .one (.list true (.pair (.int .i64) (.int .i64)) v1)), (2, .one (.ref 1 0 0 0 0 0))], bx := [(0, .row 0 (.pair (.int .i64) (.int .i64)) b0), (1, .var 59 [.sc (.int .i64 b1_0), .list true (.pair (.pair (.int .i8) (.pair (.int .i8) (.pair (.int .i8) (.pair (.int .i8) (.pair (.int .i8) (.int .i8)))))) (.pair (.pair (.int .i64) (.int .i64)) (.int .i64))) b1_1, .sc (.bool b1_2), .sc (.int .i64 b1_3), .sc (.int .i64 b1_4)])], nx := 2 } = spec_ResidualsOf_l6 n k v8 v1 b0 b1_0 b1_1 b1_2 b1_3 b1_4
  | 0, _, _, _, _, _, _, _, _ => by kernel_rfl
  | k + 1, v8, v1, b0, b1_0, b1_1, b1_2, b1_3, b1_4 => by
    have h : iter (interp ([spec_l04AskedF n, spec_l04Residual_eF n]) ty 43 0 n spec_ResidualsOfkp (codeAt spec_ResidualsOfc [1, 1, 1, 0, 1, 0, 0])) (canon 0 (spec_ResidualsOfkp.loop 6)) (kAt ([spec_l04AskedF n, spec_l04Residual_eF n]) ty 43 0 n spec_ResidualsOfkp spec_ResidualsOfc [1, 1, 1, 0, 1, 0] [] (ending ty 0 Go.Proofs.Try.f68.results.toList spec_ResidualsOfrs spec_ResidualsOfbs)) (k + 1) { env := [(8, .one (.sc (.int .i64 v8))), (7, .one (.slice 0 0 none)), (1, .one (.list true (.pair (.int .i64) (.int .i64)) v1)), (2, .one (.ref 1 0 0 0 0 0))], bx := [(0, .row 0 (.pair (.int .i64) (.int .i64)) b0), (1, .var 59 [.sc (.int .i64 b1_0), .list true (.pair (.pair (.int .i8) (.pair (.int .i8) (.pair (.int .i8) (.pair (.int .i8) (.pair (.int .i8) (.int .i8)))))) (.pair (.pair (.int .i64) (.int .i64)) (.int .i64))) b1_1, .sc (.bool b1_2), .sc (.int .i64 b1_3), .sc (.int .i64 b1_4)])], nx := 2 } = spec_ResidualsOf_t6 n (fun v8 v1 b0 b1_0 b1_1 b1_2 b1_3 b1_4 => iter (interp ([spec_l04AskedF n, spec_l04Residual_eF n]) ty 43 0 n spec_ResidualsOfkp (codeAt spec_ResidualsOfc [1, 1, 1, 0, 1, 0, 0])) (canon 0 (spec_ResidualsOfkp.loop 6)) (kAt ([spec_l04AskedF n, spec_l04Residual_eF n]) ty 43 0 n spec_ResidualsOfkp spec_ResidualsOfc [1, 1, 1, 0, 1, 0] [] (ending ty 0 Go.Proofs.Try.f68.results.toList spec_ResidualsOfrs spec_ResidualsOfbs)) k { env := [(8, .one (.sc (.int .i64 v8))), (7, .one (.slice 0 0 none)), (1, .one (.list true (.pair (.int .i64) (.int .i64)) v1)), (2, .one (.ref 1 0 0 0 0 0))], bx := [(0, .row 0 (.pair (.int .i64) (.int .i64)) b0), (1, .var 59 [.sc (.int .i64 b1_0), .list true (.pair (.pair (.int .i8) (.pair (.int .i8) (.pair (.int .i8) (.pair (.int .i8) (.pair (.int .i8) (.int .i8)))))) (.pair (.pair (.int .i64) (.int .i64)) (.int .i64))) b1_1, .sc (.bool b1_2), .sc (.int .i64 b1_3), .sc (.int .i64 b1_4)])], nx := 2 }) v8 v1 b0 b1_0 b1_1 b1_2 b1_3 b1_4 := by kernel_rfl
    rw [h]
    have e := congrArg (fun g => spec_ResidualsOf_t6 n g v8 v1 b0 b1_0 b1_1 b1_2 b1_3 b1_4) (funext fun v8 => funext fun v1 => funext fun b0 => funext fun b1_0 => funext fun b1_1 => funext fun b1_2 => funext fun b1_3 => funext fun b1_4 => spec_ResidualsOf_l6_eq n k v8 v1 b0 b1_0 b1_1 b1_2 b1_3 b1_4)
    exact e

theorem spec_ResidualsOf_eq (n : Nat) (a0 : (Int) × ((List (((Int) × ((Int) × ((Int) × ((Int) × ((Int) × (Int)))))) × (((Int) × (Int)) × (Int)))) × ((Bool) × ((Int) × (Int))))) (a1 : List ((Int) × (Int))) : runBody ([spec_l04AskedF n, spec_l04Residual_eF n]) ty 43 n spec_ResidualsOfkp spec_ResidualsOfc Go.Proofs.Try.f68.results.toList spec_ResidualsOfrs spec_ResidualsOfsp spec_ResidualsOfbs (a0, (a1, ())) () = spec_ResidualsOf n a0 a1 := by
  have h : runBody ([spec_l04AskedF n, spec_l04Residual_eF n]) ty 43 n spec_ResidualsOfkp spec_ResidualsOfc Go.Proofs.Try.f68.results.toList spec_ResidualsOfrs spec_ResidualsOfsp spec_ResidualsOfbs (a0, (a1, ())) () = spec_ResidualsOf_t n (fun k v8 v1 b0 b1_0 b1_1 b1_2 b1_3 b1_4 => iter (interp ([spec_l04AskedF n, spec_l04Residual_eF n]) ty 43 0 n spec_ResidualsOfkp (codeAt spec_ResidualsOfc [1, 1, 1, 0, 1, 0, 0])) (canon 0 (spec_ResidualsOfkp.loop 6)) (kAt ([spec_l04AskedF n, spec_l04Residual_eF n]) ty 43 0 n spec_ResidualsOfkp spec_ResidualsOfc [1, 1, 1, 0, 1, 0] [] (ending ty 0 Go.Proofs.Try.f68.results.toList spec_ResidualsOfrs spec_ResidualsOfbs)) k { env := [(8, .one (.sc (.int .i64 v8))), (7, .one (.slice 0 0 none)), (1, .one (.list true (.pair (.int .i64) (.int .i64)) v1)), (2, .one (.ref 1 0 0 0 0 0))], bx := [(0, .row 0 (.pair (.int .i64) (.int .i64)) b0), (1, .var 59 [.sc (.int .i64 b1_0), .list true (.pair (.pair (.int .i8) (.pair (.int .i8) (.pair (.int .i8) (.pair (.int .i8) (.pair (.int .i8) (.int .i8)))))) (.pair (.pair (.int .i64) (.int .i64)) (.int .i64))) b1_1, .sc (.bool b1_2), .sc (.int .i64 b1_3), .sc (.int .i64 b1_4)])], nx := 2 }) a0 a1 := by kernel_rfl
  rw [h]
  have e := congrArg (fun h6 => spec_ResidualsOf_t n h6 a0 a1) (funext fun k => funext fun v8 => funext fun v1 => funext fun b0 => funext fun b1_0 => funext fun b1_1 => funext fun b1_2 => funext fun b1_3 => funext fun b1_4 => spec_ResidualsOf_l6_eq n k v8 v1 b0 b1_0 b1_1 b1_2 b1_3 b1_4)
  exact e

theorem spec_ResidualsOf_ok (n : Nat) : FunOk P (spec_ResidualsOfF n) :=
  funOk_mk (C := [spec_l04AskedF n, spec_l04Residual_eF n]) (N := 43) (kp := spec_ResidualsOfkp) (c := spec_ResidualsOfc) (n := n) (G := fun x y => spec_ResidualsOf n x.1 x.2.1) follows (AllOk.mem (⟨spec_l04Asked_ok n, ⟨spec_l04Residual_e_ok n, trivial⟩⟩ : AllOk P ([spec_l04AskedF n, spec_l04Residual_eF n]))) (by kernel_rfl : P.funcs[68]? = some Go.Proofs.Try.f68) (by kernel_rfl) (by kernel_rfl) (by kernel_rfl)
    (fun x y => spec_ResidualsOf_eq n x.1 x.2.1) (fun _ _ => map_same (fun _ => rfl) _) (fun _ _ _ _ => rfl)

abbrev impl_withinsp : List Sp := [.v false (.int .i64), .v false (.int .i64), .v false (.int .i64)]
abbrev impl_withinbs : List (Bs × Bool) := []
abbrev impl_withinrs : List (Bool × List Rp) := [(false, [.v false .bool])]
noncomputable def impl_withinkp : Keep := { loop := fun id => match id with | _ => ([], []), join := fun id => match id with | _ => none }
noncomputable def impl_withinc : Code := bodyOf Go.Proofs.Try.f110
noncomputable def impl_withinF (n : Nat) : Fun := { id := 110, sp := impl_withinsp, bs := impl_withinbs, rs := impl_withinrs, f := fun x y => impl_within n x.1 x.2.1 x.2.2.1 }

theorem impl_within_eq (n : Nat) (a0 : Int) (a1 : Int) (a2 : Int) : runBody ([]) ty 15 n impl_withinkp impl_withinc Go.Proofs.Try.f110.results.toList impl_withinrs impl_withinsp impl_withinbs (a0, (a1, (a2, ()))) () = impl_within n a0 a1 a2 := by
  have h : runBody ([]) ty 15 n impl_withinkp impl_withinc Go.Proofs.Try.f110.results.toList impl_withinrs impl_withinsp impl_withinbs (a0, (a1, (a2, ()))) () = impl_within_t n a0 a1 a2 := by kernel_rfl
  rw [h]
  rfl

theorem impl_within_ok (n : Nat) : FunOk P (impl_withinF n) :=
  funOk_mk (C := []) (N := 15) (kp := impl_withinkp) (c := impl_withinc) (n := n) (G := fun x y => impl_within n x.1 x.2.1 x.2.2.1) follows (AllOk.mem (trivial : AllOk P ([]))) (by kernel_rfl : P.funcs[110]? = some Go.Proofs.Try.f110) (by kernel_rfl) (by kernel_rfl) (by kernel_rfl)
    (fun x y => impl_within_eq n x.1 x.2.1 x.2.2.1) (fun _ _ => map_same (fun _ => rfl) _) (fun _ _ _ _ => rfl)

abbrev impl_gcdsp : List Sp := [.v false (.int .i64), .v false (.int .i64)]
abbrev impl_gcdbs : List (Bs × Bool) := []
abbrev impl_gcdrs : List (Bool × List Rp) := [(false, [.v false (.int .i64)])]
noncomputable def impl_gcdkp : Keep := { loop := fun id => match id with | 1 => ([1, 0], []) | _ => ([], []), join := fun id => match id with | _ => none }
noncomputable def impl_gcdc : Code := bodyOf Go.Proofs.Try.f147
noncomputable def impl_gcdF (n : Nat) : Fun := { id := 147, sp := impl_gcdsp, bs := impl_gcdbs, rs := impl_gcdrs, f := fun x y => impl_gcd n x.1 x.2.1 }

theorem impl_gcd_l1_eq (n : Nat) : ∀ (k : Nat) (v1 : Int) (v0 : Int), iter (interp ([]) ty 15 0 n impl_gcdkp (codeAt impl_gcdc [1, 0, 0, 0])) (canon 0 (impl_gcdkp.loop 1)) (kAt ([]) ty 15 0 n impl_gcdkp impl_gcdc [1, 0, 0] [] (ending ty 0 Go.Proofs.Try.f147.results.toList impl_gcdrs impl_gcdbs)) k { env := [(1, .one (.sc (.int .i64 v1))), (0, .one (.sc (.int .i64 v0)))], bx := [], nx := 0 } = impl_gcd_l1 n k v1 v0
  | 0, _, _ => by kernel_rfl
  | k + 1, v1, v0 => by
    have h : iter (interp ([]) ty 15 0 n impl_gcdkp (codeAt impl_gcdc [1, 0, 0, 0])) (canon 0 (impl_gcdkp.loop 1)) (kAt ([]) ty 15 0 n impl_gcdkp impl_gcdc [1, 0, 0] [] (ending ty 0 Go.Proofs.Try.f147.results.toList impl_gcdrs impl_gcdbs)) (k + 1) { env := [(1, .one (.sc (.int .i64 v1))), (0, .one (.sc (.int .i64 v0)))], bx := [], nx := 0 } = impl_gcd_t1 n (fun v1 v0 => iter (interp ([]) ty 15 0 n impl_gcdkp (codeAt impl_gcdc [1, 0, 0, 0])) (canon 0 (impl_gcdkp.loop 1)) (kAt ([]) ty 15 0 n impl_gcdkp impl_gcdc [1, 0, 0] [] (ending ty 0 Go.Proofs.Try.f147.results.toList impl_gcdrs impl_gcdbs)) k { env := [(1, .one (.sc (.int .i64 v1))), (0, .one (.sc (.int .i64 v0)))], bx := [], nx := 0 }) v1 v0 := by kernel_rfl
    rw [h]
    have e := congrArg (fun g => impl_gcd_t1 n g v1 v0) (funext fun v1 => funext fun v0 => impl_gcd_l1_eq n k v1 v0)
    exact e

theorem impl_gcd_eq (n : Nat) (a0 : Int) (a1 : Int) : runBody ([]) ty 15 n impl_gcdkp impl_gcdc Go.Proofs.Try.f147.results.toList impl_gcdrs impl_gcdsp impl_gcdbs (a0, (a1, ())) () = impl_gcd n a0 a1 := by
  have h : runBody ([]) ty 15 n impl_gcdkp impl_gcdc Go.Proofs.Try.f147.results.toList impl_gcdrs impl_gcdsp impl_gcdbs (a0, (a1, ())) () = impl_gcd_t n (fun k v1 v0 => iter (interp ([]) ty 15 0 n impl_gcdkp (codeAt impl_gcdc [1, 0, 0, 0])) (canon 0 (impl_gcdkp.loop 1)) (kAt ([]) ty 15 0 n impl_gcdkp impl_gcdc [1, 0, 0] [] (ending ty 0 Go.Proofs.Try.f147.results.toList impl_gcdrs impl_gcdbs)) k { env := [(1, .one (.sc (.int .i64 v1))), (0, .one (.sc (.int .i64 v0)))], bx := [], nx := 0 }) a0 a1 := by kernel_rfl
  rw [h]
  have e := congrArg (fun h1 => impl_gcd_t n h1 a0 a1) (funext fun k => funext fun v1 => funext fun v0 => impl_gcd_l1_eq n k v1 v0)
  exact e

theorem impl_gcd_ok (n : Nat) : FunOk P (impl_gcdF n) :=
  funOk_mk (C := []) (N := 15) (kp := impl_gcdkp) (c := impl_gcdc) (n := n) (G := fun x y => impl_gcd n x.1 x.2.1) follows (AllOk.mem (trivial : AllOk P ([]))) (by kernel_rfl : P.funcs[147]? = some Go.Proofs.Try.f147) (by kernel_rfl) (by kernel_rfl) (by kernel_rfl)
    (fun x y => impl_gcd_eq n x.1 x.2.1) (fun _ _ => map_same (fun _ => rfl) _) (fun _ _ _ _ => rfl)

abbrev impl_ValidFracsp : List Sp := [.v true (.pair (.int .i64) (.int .i64))]
abbrev impl_ValidFracbs : List (Bs × Bool) := []
abbrev impl_ValidFracrs : List (Bool × List Rp) := [(false, [.v false .bool])]
noncomputable def impl_ValidFrackp : Keep := { loop := fun id => match id with | _ => ([], []), join := fun id => match id with | _ => none }
noncomputable def impl_ValidFracc : Code := bodyOf Go.Proofs.Try.f97
noncomputable def impl_ValidFracF (n : Nat) : Fun := { id := 97, sp := impl_ValidFracsp, bs := impl_ValidFracbs, rs := impl_ValidFracrs, f := fun x y => impl_ValidFrac n x.1 }

theorem impl_ValidFrac_eq (n : Nat) (a0 : (Int) × (Int)) : runBody ([impl_withinF n, impl_gcdF n]) ty 19 n impl_ValidFrackp impl_ValidFracc Go.Proofs.Try.f97.results.toList impl_ValidFracrs impl_ValidFracsp impl_ValidFracbs (a0, ()) () = impl_ValidFrac n a0 := by
  have h : runBody ([impl_withinF n, impl_gcdF n]) ty 19 n impl_ValidFrackp impl_ValidFracc Go.Proofs.Try.f97.results.toList impl_ValidFracrs impl_ValidFracsp impl_ValidFracbs (a0, ()) () = impl_ValidFrac_t n a0 := by kernel_rfl
  rw [h]
  rfl

theorem impl_ValidFrac_ok (n : Nat) : FunOk P (impl_ValidFracF n) :=
  funOk_mk (C := [impl_withinF n, impl_gcdF n]) (N := 19) (kp := impl_ValidFrackp) (c := impl_ValidFracc) (n := n) (G := fun x y => impl_ValidFrac n x.1) follows (AllOk.mem (⟨impl_within_ok n, ⟨impl_gcd_ok n, trivial⟩⟩ : AllOk P ([impl_withinF n, impl_gcdF n]))) (by kernel_rfl : P.funcs[97]? = some Go.Proofs.Try.f97) (by kernel_rfl) (by kernel_rfl) (by kernel_rfl)
    (fun x y => impl_ValidFrac_eq n x.1) (fun _ _ => map_same (fun _ => rfl) _) (fun _ _ _ _ => rfl)

abbrev impl_ValidTablesp : List Sp := [.v true (.pair (.int .i64) (.pair (.list (.pair (.pair (.int .i8) (.pair (.int .i8) (.pair (.int .i8) (.pair (.int .i8) (.pair (.int .i8) (.int .i8)))))) (.pair (.pair (.int .i64) (.int .i64)) (.int .i64)))) (.pair .bool (.pair (.int .i64) (.int .i64)))))]
abbrev impl_ValidTablebs : List (Bs × Bool) := []
abbrev impl_ValidTablers : List (Bool × List Rp) := [(false, [.v false .bool])]
noncomputable def impl_ValidTablekp : Keep := { loop := fun id => match id with | 4 => ([1, 38, 36, 37], []) | 8 => ([44, 5, 1, 43, 36, 37, 38, 4], []) | _ => ([], []), join := fun id => match id with | _ => none }
noncomputable def impl_ValidTablec : Code := bodyOf Go.Proofs.Try.f119
noncomputable def impl_ValidTableF (n : Nat) : Fun := { id := 119, sp := impl_ValidTablesp, bs := impl_ValidTablebs, rs := impl_ValidTablers, f := fun x y => impl_ValidTable n x.1 }

theorem impl_ValidTable_l8_eq (n : Nat) (G4 : St → Option ((((Bool) × (Unit)) × (Unit)) × (Unit))) : ∀ (k : Nat) (v44 : Int) (v5 : Bool) (v43_0 : Int) (v43_1 : Int) (v43_2 : Int) (v43_3 : Int) (v43_4 : Int) (v43_5 : Int) (v36 : List (((Int) × ((Int) × ((Int) × ((Int) × ((Int) × (Int)))))) × (((Int) × (Int)) × (Int)))) (v37 : Int) (v38 : Int) (b0_0 : Int) (b0_1 : List (((Int) × ((Int) × ((Int) × ((Int) × ((Int) × (Int)))))) × (((Int) × (Int)) × (Int)))) (b0_2 : Bool) (b0_3 : Int) (b0_4 : Int) (b1_0 : Int) (b1_1 : Int) (b1_2 : Int) (b1_3 : Int) (b1_4 : Int) (b1_5 : Int) (b1_6 : Int) (b1_7 : Int) (b1_8 : Int), iter (interp ([impl_withinF n, impl_ValidFracF n]) ty 83 0 n impl_ValidTablekp (codeAt impl_ValidTablec [1, 1, 0, 1, 0, 0, 1, 1, 0, 0, 1, 1, 0, 1, 0, 0])) (canon 0 (impl_ValidTablekp.loop 8)) (kAt ([impl_withinF n, impl_ValidFracF n]) ty 83 0 n impl_ValidTablekp impl_ValidTablec [1, 1, 0, 1, 0, 0, 1, 1, 0, 0, 1, 1, 0, 1, 0] [G4] (ending ty 0 Go.Proofs.Try.f119.results.toList impl_ValidTablers impl_ValidTablebs)) k { env := [(44, .one (.sc (.int .i64 v44))), (5, .one (.sc (.bool v5))), (1, .one (.ref 0 0 0 0 0 0)), (43, .agg [.sc (.int .i8 v43_0), .sc (.int .i8 v43_1), .sc (.int .i8 v43_2), .sc (.int .i8 v43_3), .sc (.int .i8 v43_4), .sc (.int .i8 v43_5)]), (36, .one (.list true (.pair (.pair (.int .i8) (.pair (.int .i8) (.pair (.int .i8) (.pair (.int .i8) (.pair (.int .i8) (.int .i8)))))) (.pair (.pair (.int .i64) (.int .i64)) (.int .i64))) v36)), (37, .one (.sc (.int .i64 v37))), (38, .one (.sc (.int .i64 v38))), (4, .one (.ref 1 0 0 0 0 0))], bx := [(0, .var 59 [.sc (.int .i64 b0_0), .list true (.pair (.pair (.int .i8) (.pair (.int .i8) (.pair (.int .i8) (.pair (.int .i8) (.pair (.int .i8) (.int .i8)))))) (.pair (.pair (.int .i64) (.int .i64)) (.int .i64))) b0_1, .sc (.bool b0_2), .sc (.int .i64 b0_3), .sc (.int .i64 b0_4)]), (1, .var 126 [.sc (.int .i8 b1_0), .sc (.int .i8 b1_1), .sc (.int .i8 b1_2), .sc (.int .i8 b1_3), .sc (.int .i8 b1_4), .sc (.int .i8 b1_5), .sc (.int .i64 b1_6), .sc (.int .i64 b1_7), .sc (.int .i64 b1_8)])], nx := 2 } = impl_ValidTable_l8 n (fun v38 v36 v37 b0_0 b0_1 b0_2 b0_3 b0_4 => G4 { env := [(1, .one (.ref 0 0 0 0 0 0)), (38, .one (.sc (.int .i64 v38))), (36, .one (.list true (.pair (.pair (.int .i8) (.pair (.int .i8) (.pair (.int .i8) (.pair (.int .i8) (.pair (.int .i8) (.int .i8)))))) (.pair (.pair (.int .i64) (.int .i64)) (.int .i64))) v36)), (37, .one (.sc (.int .i64 v37)))], bx := [(0, .var 59 [.sc (.int .i64 b0_0), .list true (.pair (.pair (.int .i8) (.pair (.int .i8) (.pair (.int .i8) (.pair (.int .i8) (.pair (.int .i8) (.int .i8)))))) (.pair (.pair (.int .i64) (.int .i64)) (.int .i64))) b0_1, .sc (.bool b0_2), .sc (.int .i64 b0_3), .sc (.int .i64 b0_4)])], nx := 1 }) k v44 v5 v43_0 v43_1 v43_2 v43_3 v43_4 v43_5 v36 v37 v38 b0_0 b0_1 b0_2 b0_3 b0_4 b1_0 b1_1 b1_2 b1_3 b1_4 b1_5 b1_6 b1_7 b1_8
  | 0, _, _, _, _, _, _, _, _, _, _, _, _, _, _, _, _, _, _, _, _, _, _, _, _, _ => by kernel_rfl
  | k + 1, v44, v5, v43_0, v43_1, v43_2, v43_3, v43_4, v43_5, v36, v37, v38, b0_0, b0_1, b0_2, b0_3, b0_4, b1_0, b1_1, b1_2, b1_3, b1_4, b1_5, b1_6, b1_7, b1_8 => by
    have h : iter (interp ([impl_withinF n, impl_ValidFracF n]) ty 83 0 n impl_ValidTablekp (codeAt impl_ValidTablec [1, 1, 0, 1, 0, 0, 1, 1, 0, 0, 1, 1, 0, 1, 0, 0])) (canon 0 (impl_ValidTablekp.loop 8)) (kAt ([impl_withinF n, impl_ValidFracF n]) ty 83 0 n impl_ValidTablekp impl_ValidTablec [1, 1, 0, 1, 0, 0, 1, 1, 0, 0, 1, 1, 0, 1, 0] [G4] (ending ty 0 Go.Proofs.Try.f119.results.toList impl_ValidTablers impl_ValidTablebs)) (k + 1) { env := [(44, .one (.sc (.int .i64 v44))), (5, .one (.sc (.bool v5))), (1, .one (.ref 0 0 0 0 0 0)), (43, .agg [.sc (.int .i8 v43_0), .sc (.int .i8 v43_1), .sc (.int .i8 v43_2), .sc (.int .i8 v43_3), .sc (.int .i8 v43_4), .sc (.int .i8 v43_5)]), (36, .one (.list true (.pair (.pair (.int .i8) (.pair (.int .i8) (.pair (.int .i8) (.pair (.int .i8) (.pair (.int .i8) (.int .i8)))))) (.pair (.pair (.int .i64) (.int .i64)) (.int .i64))) v36)), (37, .one (.sc (.int .i64 v37))), (38, .one (.sc (.int .i64 v38))), (4, .one (.ref 1 0 0 0 0 0))], bx := [(0, .var 59 [.sc (.int .i64 b0_0), .list true (.pair (.pair (.int .i8) (.pair (.int .i8) (.pair (.int .i8) (.pair (.int .i8) (.pair (.int .i8) (.int .i8)))))) (.pair (.pair (.int .i64) (.int .i64)) (.int .i64))) b0_1, .sc (.bool b0_2), .sc (.int .i64 b0_3), .sc (.int .i64 b0_4)]), (1, .var 126 [.sc (.int .i8 b1_0), .sc (.int .i8 b1_1), .sc (.int .i8 b1_2), .sc (.int .i8 b1_3), .sc (.int .i8 b1_4), .sc (.int .i8 b1_5), .sc (.int .i64 b1_6), .sc (.int .i64 b1_7), .sc (.int .i64 b1_8)])], nx := 2 } = impl_ValidTable_t8 n (fun v38 v36 v37 b0_0 b0_1 b0_2 b0_3 b0_4 => G4 { env := [(1, .one (.ref 0 0 0 0 0 0)), (38, .one (.sc (.int .i64 v38))), (36, .one (.list true (.pair (.pair (.int .i8) (.pair (.int .i8) (.pair (.int .i8) (.pair (.int .i8) (.pair (.int .i8) (.int .i8)))))) (.pair (.pair (.int .i64) (.int .i64)) (.int .i64))) v36)), (37, .one (.sc (.int .i64 v37)))], bx := [(0, .var 59 [.sc (.int .i64 b0_0), .list true (.pair (.pair (.int .i8) (.pair (.int .i8) (.pair (.int .i8) (.pair (.int .i8) (.pair (.int .i8) (.int .i8)))))) (.pair (.pair (.int .i64) (.int .i64)) (.int .i64))) b0_1, .sc (.bool b0_2), .sc (.int .i64 b0_3), .sc (.int .i64 b0_4)])], nx := 1 }) (fun v44 v5 v43_0 v43_1 v43_2 v43_3 v43_4 v43_5 v36 v37 v38 b0_0 b0_1 b0_2 b0_3 b0_4 b1_0 b1_1 b1_2 b1_3 b1_4 b1_5 b1_6 b1_7 b1_8 => iter (interp ([impl_withinF n, impl_ValidFracF n]) ty 83 0 n impl_ValidTablekp (codeAt impl_ValidTablec [1, 1, 0, 1, 0, 0, 1, 1, 0, 0, 1, 1, 0, 1, 0, 0])) (canon 0 (impl_ValidTablekp.loop 8)) (kAt ([impl_withinF n, impl_ValidFracF n]) ty 83 0 n impl_ValidTablekp impl_ValidTablec [1, 1, 0, 1, 0, 0, 1, 1, 0, 0, 1, 1, 0, 1, 0] [G4] (ending ty 0 Go.Proofs.Try.f119.results.toList impl_ValidTablers impl_ValidTablebs)) k { env := [(44, .one (.sc (.int .i64 v44))), (5, .one (.sc (.bool v5))), (1, .one (.ref 0 0 0 0 0 0)), (43, .agg [.sc (.int .i8 v43_0), .sc (.int .i8 v43_1), .sc (.int .i8 v43_2), .sc (.int .i8 v43_3), .sc (.int .i8 v43_4), .sc (.int .i8 v43_5)]), (36, .one (.list true (.pair (.pair (.int .i8) (.pair (.int .i8) (.pair (.int .i8) (.pair (.int .i8) (.pair (.int .i8) (.int .i8)))))) (.pair (.pair (.int .i64) (.int .i64)) (.int .i64))) v36)), (37, .one (.sc (.int .i64 v37))), (38, .one (.sc (.int .i64 v38))), (4, .one (.ref 1 0 0 0 0 0))], bx := [(0, .var 59 [.sc (.int .i64 b0_0), .list true (.pair (.pair (.int .i8) (.pair (.int .i8) (.pair (.int .i8) (.pair (.int .i8) (.pair (.int .i8) (.int .i8)))))) (.pair (.pair (.int .i64) (.int .i64)) (.int .i64))) b0_1, .sc (.bool b0_2), .sc (.int .i64 b0_3), .sc (.int .i64 b0_4)]), (1, .var 126 [.sc (.int .i8 b1_0), .sc (.int .i8 b1_1), .sc (.int .i8 b1_2), .sc (.int .i8 b1_3), .sc (.int .i8 b1_4), .sc (.int .i8 b1_5), .sc (.int .i64 b1_6), .sc (.int .i64 b1_7), .sc (.int .i64 b1_8)])], nx := 2 }) v44 v5 v43_0 v43_1 v43_2 v43_3 v43_4 v43_5 v36 v37 v38 b0_0 b0_1 b0_2 b0_3 b0_4 b1_0 b1_1 b1_2 b1_3 b1_4 b1_5 b1_6 b1_7 b1_8 := by kernel_rfl
    rw [h]
    have e := congrArg (fun g => impl_ValidTable_t8 n (fun v38 v36 v37 b0_0 b0_1 b0_2 b0_3 b0_4 => G4 { env := [(1, .one (.ref 0 0 0 0 0 0)), (38, .one (.sc (.int .i64 v38))), (36, .one (.list true (.pair (.pair (.int .i8) (.pair (.int .i8) (.pair (.int .i8) (.pair (.int .i8) (.pair (.int .i8) (.int .i8)))))) (.pair (.pair (.int .i64) (.int .i64)) (.int .i64))) v36)), (37, .one (.sc (.int .i64 v37)))], bx := [(0, .var 59 [.sc (.int .i64 b0_0), .list true (.pair (.pair (.int .i8) (.pair (.int .i8) (.pair (.int .i8) (.pair (.int .i8) (.pair (.int .i8) (.int .i8)))))) (.pair (.pair (.int .i64) (.int .i64)) (.int .i64))) b0_1, .sc (.bool b0_2), .sc (.int .i64 b0_3), .sc (.int .i64 b0_4)])], nx := 1 }) g v44 v5 v43_0 v43_1 v43_2 v43_3 v43_4 v43_5 v36 v37 v38 b0_0 b0_1 b0_2 b0_3 b0_4 b1_0 b1_1 b1_2 b1_3 b1_4 b1_5 b1_6 b1_7 b1_8) (funext fun v44 => funext fun v5 => funext fun v43_0 => funext fun v43_1 => funext fun v43_2 => funext fun v43_3 => funext fun v43_4 => funext fun v43_5 => funext fun v36 => funext fun v37 => funext fun v38 => funext fun b0_0 => funext fun b0_1 => funext fun b0_2 => funext fun b0_3 => funext fun b0_4 => funext fun b1_0 => funext fun b1_1 => funext fun b1_2 => funext fun b1_3 => funext fun b1_4 => funext fun b1_5 => funext fun b1_6 => funext fun b1_7 => funext fun b1_8 => impl_ValidTable_l8_eq n G4 k v44 v5 v43_0 v43_1 v43_2 v43_3 v43_4 v43_5 v36 v37 v38 b0_0 b0_1 b0_2 b0_3 b0_4 b1_0 b1_1 b1_2 b1_3 b1_4 b1_5 b1_6 b1_7 b1_8)
    exact e

theorem impl_ValidTable_l4_eq (n : Nat) : ∀ (k : Nat) (v38 : Int) (v36 : List (((Int) × ((Int) × ((Int) × ((Int) × ((Int) × (Int)))))) × (((Int) × (Int)) × (Int)))) (v37 : Int) (b0_0 : Int) (b0_1 : List (((Int) × ((Int) × ((Int) × ((Int) × ((Int) × (Int)))))) × (((Int) × (Int)) × (Int)))) (b0_2 : Bool) (b0_3 : Int) (b0_4 : Int), iter (interp ([impl_withinF n, impl_ValidFracF n]) ty 83 0 n impl_ValidTablekp (codeAt impl_ValidTablec [1, 1, 0, 1, 0, 0])) (canon 0 (impl_ValidTablekp.loop 4)) (kAt ([impl_withinF n, impl_ValidFracF n]) ty 83 0 n impl_ValidTablekp impl_ValidTablec [1, 1, 0, 1, 0] [] (ending ty 0 Go.Proofs.Try.f119.results.toList impl_ValidTablers impl_ValidTablebs)) k { env := [(1, .one (.ref 0 0 0 0 0 0)), (38, .one (.sc (.int .i64 v38))), (36, .one (.list true (.pair (.pair (.int .i8) (.pair (.int .i8) (.pair (.int .i8) (.pair (.int .i8) (.pair (.int .i8) (.int .i8)))))) (.pair (.pair (.int .i64) (.int .i64)) (.int .i64))) v36)), (37, .one (.sc (.int .i64 v37)))], bx := [(0, .var 59 [.sc (.int .i64 b0_0), .list true (.pair (.pair (.int .i8) (.pair (.int .i8) (.pair (.int .i8) (.pair (.int .i8) (.pair (.int .i8) (.int .i8)))))) (.pair (.pair (.int .i64) (.int .i64)) (.int .i64))) b0_1, .sc (.bool b0_2), .sc (.int .i64 b0_3), .sc (.int .i64 b0_4)])], nx := 1 } = impl_ValidTable_l4 n k v38 v36 v37 b0_0 b0_1 b0_2 b0_3 b0_4
  | 0, _, _, _, _, _, _, _, _ => by kernel_rfl
  | k + 1, v38, v36, v37, b0_0, b0_1, b0_2, b0_3, b0_4 => by
    have h : iter (interp ([impl_withinF n, impl_ValidFracF n]) ty 83 0 n impl_ValidTablekp (codeAt impl_ValidTablec [1, 1, 0, 1, 0, 0])) (canon 0 (impl_ValidTablekp.loop 4)) (kAt ([impl_withinF n, impl_ValidFracF n]) ty 83 0 n impl_ValidTablekp impl_ValidTablec [1, 1, 0, 1, 0] [] (ending ty 0 Go.Proofs.Try.f119.results.toList impl_ValidTablers impl_ValidTablebs)) (k + 1) { env := [(1, .one (.ref 0 0 0 0 0 0)), (38, .one (.sc (.int .i64 v38))), (36, .one (.list true (.pair (.pair (.int .i8) (.pair (.int .i8) (.pair (.int .i8) (.pair (.int .i8) (.pair (.int .i8) (.int .i8)))))) (.pair (.pair (.int .i64) (.int .i64)) (.int .i64))) v36)), (37, .one (.sc (.int .i64 v37)))], bx := [(0, .var 59 [.sc (.int .i64 b0_0), .list true (.pair (.pair (.int .i8) (.pair (.int .i8) (.pair (.int .i8) (.pair (.int .i8) (.pair (.int .i8) (.int .i8)))))) (.pair (.pair (.int .i64) (.int .i64)) (.int .i64))) b0_1, .sc (.bool b0_2), .sc (.int .i64 b0_3), .sc (.int .i64 b0_4)])], nx := 1 } = impl_ValidTable_t4 n (fun k' v44 v5 v43_0 v43_1 v43_2 v43_3 v43_4 v43_5 v36 v37 v38 b0_0 b0_1 b0_2 b0_3 b0_4 b1_0 b1_1 b1_2 b1_3 b1_4 b1_5 b1_6 b1_7 b1_8 => iter (interp ([impl_withinF n, impl_ValidFracF n]) ty 83 0 n impl_ValidTablekp (codeAt impl_ValidTablec [1, 1, 0, 1, 0, 0, 1, 1, 0, 0, 1, 1, 0, 1, 0, 0])) (canon 0 (impl_ValidTablekp.loop 8)) (kAt ([impl_withinF n, impl_ValidFracF n]) ty 83 0 n impl_ValidTablekp impl_ValidTablec [1, 1, 0, 1, 0, 0, 1, 1, 0, 0, 1, 1, 0, 1, 0] [(fun s => iter (interp ([impl_withinF n, impl_ValidFracF n]) ty 83 0 n impl_ValidTablekp (codeAt impl_ValidTablec [1, 1, 0, 1, 0, 0])) (canon 0 (impl_ValidTablekp.loop 4)) (kAt ([impl_withinF n, impl_ValidFracF n]) ty 83 0 n impl_ValidTablekp impl_ValidTablec [1, 1, 0, 1, 0] [] (ending ty 0 Go.Proofs.Try.f119.results.toList impl_ValidTablers impl_ValidTablebs)) k s)] (ending ty 0 Go.Proofs.Try.f119.results.toList impl_ValidTablers impl_ValidTablebs)) k' { env := [(44, .one (.sc (.int .i64 v44))), (5, .one (.sc (.bool v5))), (1, .one (.ref 0 0 0 0 0 0)), (43, .agg [.sc (.int .i8 v43_0), .sc (.int .i8 v43_1), .sc (.int .i8 v43_2), .sc (.int .i8 v43_3), .sc (.int .i8 v43_4), .sc (.int .i8 v43_5)]), (36, .one (.list true (.pair (.pair (.int .i8) (.pair (.int .i8) (.pair (.int .i8) (.pair (.int .i8) (.pair (.int .i8) (.int .i8)))))) (.pair (.pair (.int .i64) (.int .i64)) (.int .i64))) v36)), (37, .one (.sc (.int .i64 v37))), (38, .one (.sc (.int .i64 v38))), (4, .one (.ref 1 0 0 0 0 0))], bx := [(0, .var 59 [.sc (.int .i64 b0_0), .list true (.pair (.pair (.int .i8) (.pair (.int .i8) (.pair (.int .i8) (.pair (.int .i8) (.pair (.int .i8) (.int .i8)))))) (.pair (.pair (.int .i64) (.int .i64)) (.int .i64))) b0_1, .sc (.bool b0_2), .sc (.int .i64 b0_3), .sc (.int .i64 b0_4)]), (1, .var 126 [.sc (.int .i8 b1_0), .sc (.int .i8 b1_1), .sc (.int .i8 b1_2), .sc (.int .i8 b1_3), .sc (.int .i8 b1_4), .sc (.int .i8 b1_5), .sc (.int .i64 b1_6), .sc (.int .i64 b1_7), .sc (.int .i64 b1_8)])], nx := 2 }) (fun v38 v36 v37 b0_0 b0_1 b0_2 b0_3 b0_4 => iter (interp ([impl_withinF n, impl_ValidFracF n]) ty 83 0 n impl_ValidTablekp (codeAt impl_ValidTablec [1, 1, 0, 1, 0, 0])) (canon 0 (impl_ValidTablekp.loop 4)) (kAt ([impl_withinF n, impl_ValidFracF n]) ty 83 0 n impl_ValidTablekp impl_ValidTablec [1, 1, 0, 1, 0] [] (ending ty 0 Go.Proofs.Try.f119.results.toList impl_ValidTablers impl_ValidTablebs)) k { env := [(1, .one (.ref 0 0 0 0 0 0)), (38, .one (.sc (.int .i64 v38))), (36, .one (.list true (.pair (.pair (.int .i8) (.pair (.int .i8) (.pair (.int .i8) (.pair (.int .i8) (.pair (.int .i8) (.int .i8)))))) (.pair (.pair (.int .i64) (.int .i64)) (.int .i64))) v36)), (37, .one (.sc (.int .i64 v37)))], bx := [(0, .var 59 [.sc (.int .i64 b0_0), .list true (.pair (.pair (.int .i8) (.pair (.int .i8) (.pair (.int .i8) (.pair (.int .i8) (.pair (.int .i8) (.int .i8)))))) (.pair (.pair (.int .i64) (.int .i64)) (.int .i64))) b0_1, .sc (.bool b0_2), .sc (.int .i64 b0_3), .sc (.int .i64 b0_4)])], nx := 1 }) v38 v36 v37 b0_0 b0_1 b0_2 b0_3 b0_4 := by kernel_rfl
    rw [h]
    have e := congr (congrArg (fun h8 g => impl_ValidTable_t4 n h8 g v38 v36 v37 b0_0 b0_1 b0_2 b0_3 b0_4) ((funext fun k' => funext fun v44 => funext fun v5 => funext fun v43_0 => funext fun v43_1 => funext fun v43_2 => funext fun v43_3 => funext fun v43_4 => funext fun v43_5 => funext fun v36 => funext fun v37 => funext fun v38 => funext fun b0_0 => funext fun b0_1 => funext fun b0_2 => funext fun b0_3 => funext fun b0_4 => funext fun b1_0 => funext fun b1_1 => funext fun b1_2 => funext fun b1_3 => funext fun b1_4 => funext fun b1_5 => funext fun b1_6 => funext fun b1_7 => funext fun b1_8 => impl_ValidTable_l8_eq n (fun s => iter (interp ([impl_withinF n, impl_ValidFracF n]) ty 83 0 n impl_ValidTablekp (codeAt impl_ValidTablec [1, 1, 0, 1, 0, 0])) (canon 0 (impl_ValidTablekp.loop 4)) (kAt ([impl_withinF n, impl_ValidFracF n]) ty 83 0 n impl_ValidTablekp impl_ValidTablec [1, 1, 0, 1, 0] [] (ending ty 0 Go.Proofs.Try.f119.results.toList impl_ValidTablers impl_ValidTablebs)) k s) k' v44 v5 v43_0 v43_1 v43_2 v43_3 v43_4 v43_5 v36 v37 v38 b0_0 b0_1 b0_2 b0_3 b0_4 b1_0 b1_1 b1_2 b1_3 b1_4 b1_5 b1_6 b1_7 b1_8).trans (congrArg (fun z => impl_ValidTable_l8 n z) (funext fun v38 => funext fun v36 => funext fun v37 => funext fun b0_0 => funext fun b0_1 => funext fun b0_2 => funext fun b0_3 => funext fun b0_4 => impl_ValidTable_l4_eq n k v38 v36 v37 b0_0 b0_1 b0_2 b0_3 b0_4)))) (funext fun v38 => funext fun v36 => funext fun v37 => funext fun b0_0 => funext fun b0_1 => funext fun b0_2 => funext fun b0_3 => funext fun b0_4 => impl_ValidTable_l4_eq n k v38 v36 v37 b0_0 b0_1 b0_2 b0_3 b0_4)
    exact e

theorem impl_ValidTable_eq (n : Nat) (a0 : (Int) × ((List (((Int) × ((Int) × ((Int) × ((Int) × ((Int) × (Int)))))) × (((Int) × (Int)) × (Int)))) × ((Bool) × ((Int) × (Int))))) : runBody ([impl_withinF n, impl_ValidFracF n]) ty 83 n impl_ValidTablekp impl_ValidTablec Go.Proofs.Try.f119.results.toList impl_ValidTablers impl_ValidTablesp impl_ValidTablebs (a0, ()) () = impl_ValidTable n a0 := by
  have h : runBody ([impl_withinF n, impl_ValidFracF n]) ty 83 n impl_ValidTablekp impl_ValidTablec Go.Proofs.Try.f119.results.toList impl_ValidTablers impl_ValidTablesp impl_ValidTablebs (a0, ()) () = impl_ValidTable_t n (fun k v38 v36 v37 b0_0 b0_1 b0_2 b0_3 b0_4 => iter (interp ([impl_withinF n, impl_ValidFracF n]) ty 83 0 n impl_ValidTablekp (codeAt impl_ValidTablec [1, 1, 0, 1, 0, 0])) (canon 0 (impl_ValidTablekp.loop 4)) (kAt ([impl_withinF n, impl_ValidFracF n]) ty 83 0 n impl_ValidTablekp impl_ValidTablec [1, 1, 0, 1, 0] [] (ending ty 0 Go.Proofs.Try.f119.results.toList impl_ValidTablers impl_ValidTablebs)) k { env := [(1, .one (.ref 0 0 0 0 0 0)), (38, .one (.sc (.int .i64 v38))), (36, .one (.list true (.pair (.pair (.int .i8) (.pair (.int .i8) (.pair (.int .i8) (.pair (.int .i8) (.pair (.int .i8) (.int .i8)))))) (.pair (.pair (.int .i64) (.int .i64)) (.int .i64))) v36)), (37, .one (.sc (.int .i64 v37)))], bx := [(0, .var 59 [.sc (.int .i64 b0_0), .list true (.pair (.pair (.int .i8) (.pair (.int .i8) (.pair (.int .i8) (.pair (.int .i8) (.pair (.int .i8) (.int .i8)))))) (.pair (.pair (.int .i64) (.int .i64)) (.int .i64))) b0_1, .sc (.bool b0_2), .sc (.int .i64 b0_3), .sc (.int .i64 b0_4)])], nx := 1 }) a0 := by kernel_rfl
  rw [h]
  have e := congrArg (fun h4 => impl_ValidTable_t n h4 a0) (funext fun k => funext fun v38 => funext fun v36 => funext fun v37 => funext fun b0_0 => funext fun b0_1 => funext fun b0_2 => funext fun b0_3 => funext fun b0_4 => impl_ValidTable_l4_eq n k v38 v36 v37 b0_0 b0_1 b0_2 b0_3 b0_4)
  exact e

theorem impl_ValidTable_ok (n : Nat) : FunOk P (impl_ValidTableF n) :=
  funOk_mk (C := [impl_withinF n, impl_ValidFracF n]) (N := 83) (kp := impl_ValidTablekp) (c := impl_ValidTablec) (n := n) (G := fun x y => impl_ValidTable n x.1) follows (AllOk.mem (⟨impl_within_ok n, ⟨impl_ValidFrac_ok n, trivial⟩⟩ : AllOk P ([impl_withinF n, impl_ValidFracF n]))) (by kernel_rfl : P.funcs[119]? = some Go.Proofs.Try.f119) (by kernel_rfl) (by kernel_rfl) (by kernel_rfl)
    (fun x y => impl_ValidTable_eq n x.1) (fun _ _ => map_same (fun _ => rfl) _) (fun _ _ _ _ => rfl)

abbrev impl_areValid_1sp : List Sp := [.v true (.pair (.int .i64) (.int .i64))]
abbrev impl_areValid_1bs : List (Bs × Bool) := []
abbrev impl_areValid_1rs : List (Bool × List Rp) := [(false, [.v false .bool])]
noncomputable def impl_areValid_1kp : Keep := { loop := fun id => match id with | _ => ([], []), join := fun id => match id with | _ => none }
noncomputable def impl_areValid_1c : Code := bodyOf Go.Proofs.Try.f146
noncomputable def impl_areValid_1F (n : Nat) : Fun := { id := 146, sp := impl_areValid_1sp, bs := impl_areValid_1bs, rs := impl_areValid_1rs, f := fun x y => impl_areValid_1 n x.1 }

theorem impl_areValid_1_eq (n : Nat) (a0 : (Int) × (Int)) : runBody ([impl_ValidFracF n]) ty 6 n impl_areValid_1kp impl_areValid_1c Go.Proofs.Try.f146.results.toList impl_areValid_1rs impl_areValid_1sp impl_areValid_1bs (a0, ()) () = impl_areValid_1 n a0 := by
  have h : runBody ([impl_ValidFracF n]) ty 6 n impl_areValid_1kp impl_areValid_1c Go.Proofs.Try.f146.results.toList impl_areValid_1rs impl_areValid_1sp impl_areValid_1bs (a0, ()) () = impl_areValid_1_t n a0 := by kernel_rfl
  rw [h]
  rfl

theorem impl_areValid_1_ok (n : Nat) : FunOk P (impl_areValid_1F n) :=
  funOk_mk (C := [impl_ValidFracF n]) (N := 6) (kp := impl_areValid_1kp) (c := impl_areValid_1c) (n := n) (G := fun x y => impl_areValid_1 n x.1) follows (AllOk.mem (⟨impl_ValidFrac_ok n, trivial⟩ : AllOk P ([impl_ValidFracF n]))) (by kernel_rfl : P.funcs[146]? = some Go.Proofs.Try.f146) (by kernel_rfl) (by kernel_rfl) (by kernel_rfl)
    (fun x y => impl_areValid_1_eq n x.1) (fun _ _ => map_same (fun _ => rfl) _) (fun _ _ _ _ => rfl)

abbrev slices_IndexFunc_impl_Frac_impl_Frac_at_impl_areValid_1sp : List Sp := [.v false (.list (.pair (.int .i64) (.int .i64))), .cl 146 []]
abbrev slices_IndexFunc_impl_Frac_impl_Frac_at_impl_areValid_1bs : List (Bs × Bool) := []
abbrev slices_IndexFunc_impl_Frac_impl_Frac_at_impl_areValid_1rs : List (Bool × List Rp) := [(false, [.v false (.int .i64)])]
noncomputable def slices_IndexFunc_impl_Frac_impl_Frac_at_impl_areValid_1kp : Keep := { loop := fun id => match id with | 2 => ([8, 0, 1, 7], []) | _ => ([], []), join := fun id => match id with | _ => none }
noncomputable def slices_IndexFunc_impl_Frac_impl_Frac_at_impl_areValid_1c : Code := bodyOf Go.Proofs.Try.f174
noncomputable def slices_IndexFunc_impl_Frac_impl_Frac_at_impl_areValid_1F (n : Nat) : Fun := { id := 174, sp := slices_IndexFunc_impl_Frac_impl_Frac_at_impl_areValid_1sp, bs := slices_IndexFunc_impl_Frac_impl_Frac_at_impl_areValid_1bs, rs := slices_IndexFunc_impl_Frac_impl_Frac_at_impl_areValid_1rs, f := fun x y => slices_IndexFunc_impl_Frac_impl_Frac_at_impl_areValid_1 n x.1 }

theorem slices_IndexFunc_impl_Frac_impl_Frac_at_impl_areValid_1_l2_eq (n : Nat) : ∀ (k : Nat) (v8 : Int) (v0 : List ((Int) × (Int))) (v7 : Int), iter (interp ([impl_areValid_1F n]) ty 19 0 n slices_IndexFunc_impl_Frac_impl_Frac_at_impl_areValid_1kp (codeAt slices_IndexFunc_impl_Frac_impl_Frac_at_impl_areValid_1c [1, 0, 1, 0, 0])) (canon 0 (slices_IndexFunc_impl_Frac_impl_Frac_at_impl_areValid_1kp.loop 2)) (kAt ([impl_areValid_1F n]) ty 19 0 n slices_IndexFunc_impl_Frac_impl_Frac_at_impl_areValid_1kp slices_IndexFunc_impl_Frac_impl_Frac_at_impl_areValid_1c [1, 0, 1, 0] [] (ending ty 0 Go.Proofs.Try.f174.results.toList slices_IndexFunc_impl_Frac_impl_Frac_at_impl_areValid_1rs slices_IndexFunc_impl_Frac_impl_Frac_at_impl_areValid_1bs)) k { env := [(8, .one (.sc (.int .i64 v8))), (0, .one (.list true (.pair (.int .i64) (.int .i64)) v0)), (1, .one (.clos 146 [])), (7, .one (.sc (.int .i64 v7)))], bx := [], nx := 0 } = slices_IndexFunc_impl_Frac_impl_Frac_at_impl_areValid_1_l2 n k v8 v0 v7
  | 0, _, _, _ => by kernel_rfl
  | k + 1, v8, v0, v7 => by
    have h : iter (interp ([impl_areValid_1F n]) ty 19 0 n slices_IndexFunc_impl_Frac_impl_Frac_at_impl_areValid_1kp (codeAt slices_IndexFunc_impl_Frac_impl_Frac_at_impl_areValid_1c [1, 0, 1, 0, 0])) (canon 0 (slices_IndexFunc_impl_Frac_impl_Frac_at_impl_areValid_1kp.loop 2)) (kAt ([impl_areValid_1F n]) ty 19 0 n slices_IndexFunc_impl_Frac_impl_Frac_at_impl_areValid_1kp slices_IndexFunc_impl_Frac_impl_Frac_at_impl_areValid_1c [1, 0, 1, 0] [] (ending ty 0 Go.Proofs.Try.f174.results.toList slices_IndexFunc_impl_Frac_impl_Frac_at_impl_areValid_1rs slices_IndexFunc_impl_Frac_impl_Frac_at_impl_areValid_1bs)) (k + 1) { env := [(8, .one (.sc (.int .i64 v8))), (0, .one (.list true (.pair (.int .i64) (.int .i64)) v0)), (1, .one (.clos 146 [])), (7, .one (.sc (.int .i64 v7)))], bx := [], nx := 0 } = slices_IndexFunc_impl_Frac_impl_Frac_at_impl_areValid_1_t2 n (fun v8 v0 v7 => iter (interp ([impl_areValid_1F n]) ty 19 0 n slices_IndexFunc_impl_Frac_impl_Frac_at_impl_areValid_1kp (codeAt slices_IndexFunc_impl_Frac_impl_Frac_at_impl_areValid_1c [1, 0, 1, 0, 0])) (canon 0 (slices_IndexFunc_impl_Frac_impl_Frac_at_impl_areValid_1kp.loop 2)) (kAt ([impl_areValid_1F n]) ty 19 0 n slices_IndexFunc_impl_Frac_impl_Frac_at_impl_areValid_1kp slices_IndexFunc_impl_Frac_impl_Frac_at_impl_areValid_1c [1, 0, 1, 0] [] (ending ty 0 Go.Proofs.Try.f174.results.toList slices_IndexFunc_impl_Frac_impl_Frac_at_impl_areValid_1rs slices_IndexFunc_impl_Frac_impl_Frac_at_impl_areValid_1bs)) k { env := [(8, .one (.sc (.int .i64 v8))), (0, .one (.list true (.pair (.int .i64) (.int .i64)) v0)), (1, .one (.clos 146 [])), (7, .one (.sc (.int .i64 v7)))], bx := [], nx := 0 }) v8 v0 v7 := by kernel_rfl
    rw [h]
    have e := congrArg (fun g => slices_IndexFunc_impl_Frac_impl_Frac_at_impl_areValid_1_t2 n g v8 v0 v7) (funext fun v8 => funext fun v0 => funext fun v7 => slices_IndexFunc_impl_Frac_impl_Frac_at_impl_areValid_1_l2_eq n k v8 v0 v7)
    exact e

theorem slices_IndexFunc_impl_Frac_impl_Frac_at_impl_areValid_1_eq (n : Nat) (a0 : List ((Int) × (Int))) : runBody ([impl_areValid_1F n]) ty 19 n slices_IndexFunc_impl_Frac_impl_Frac_at_impl_areValid_1kp slices_IndexFunc_impl_Frac_impl_Frac_at_impl_areValid_1c Go.Proofs.Try.f174.results.toList slices_IndexFunc_impl_Frac_impl_Frac_at_impl_areValid_1rs slices_IndexFunc_impl_Frac_impl_Frac_at_impl_areValid_1sp slices_IndexFunc_impl_Frac_impl_Frac_at_impl_areValid_1bs (a0, ((), ())) () = slices_IndexFunc_impl_Frac_impl_Frac_at_impl_areValid_1 n a0 := by
  have h : runBody ([impl_areValid_1F n]) ty 19 n slices_IndexFunc_impl_Frac_impl_Frac_at_impl_areValid_1kp slices_IndexFunc_impl_Frac_impl_Frac_at_impl_areValid_1c Go.Proofs.Try.f174.results.toList slices_IndexFunc_impl_Frac_impl_Frac_at_impl_areValid_1rs slices_IndexFunc_impl_Frac_impl_Frac_at_impl_areValid_1sp slices_IndexFunc_impl_Frac_impl_Frac_at_impl_areValid_1bs (a0, ((), ())) () = slices_IndexFunc_impl_Frac_impl_Frac_at_impl_areValid_1_t n (fun k v8 v0 v7 => iter (interp ([impl_areValid_1F n]) ty 19 0 n slices_IndexFunc_impl_Frac_impl_Frac_at_impl_areValid_1kp (codeAt slices_IndexFunc_impl_Frac_impl_Frac_at_impl_areValid_1c [1, 0, 1, 0, 0])) (canon 0 (slices_IndexFunc_impl_Frac_impl_Frac_at_impl_areValid_1kp.loop 2)) (kAt ([impl_areValid_1F n]) ty 19 0 n slices_IndexFunc_impl_Frac_impl_Frac_at_impl_areValid_1kp slices_IndexFunc_impl_Frac_impl_Frac_at_impl_areValid_1c [1, 0, 1, 0] [] (ending ty 0 Go.Proofs.Try.f174.results.toList slices_IndexFunc_impl_Frac_impl_Frac_at_impl_areValid_1rs slices_IndexFunc_impl_Frac_impl_Frac_at_impl_areValid_1bs)) k { env := [(8, .one (.sc (.int .i64 v8))), (0, .one (.list true (.pair (.int .i64) (.int .i64)) v0)), (1, .one (.clos 146 [])), (7, .one (.sc (.int .i64 v7)))], bx := [], nx := 0 }) a0 := by kernel_rfl
  rw [h]
  have e := congrArg (fun h2 => slices_IndexFunc_impl_Frac_impl_Frac_at_impl_areValid_1_t n h2 a0) (funext fun k => funext fun v8 => funext fun v0 => funext fun v7 => slices_IndexFunc_impl_Frac_impl_Frac_at_impl_areValid_1_l2_eq n k v8 v0 v7)
  exact e

theorem slices_IndexFunc_impl_Frac_impl_Frac_at_impl_areValid_1_ok (n : Nat) : FunOk P (slices_IndexFunc_impl_Frac_impl_Frac_at_impl_areValid_1F n) :=
  funOk_mk (C := [impl_areValid_1F n]) (N := 19) (kp := slices_IndexFunc_impl_Frac_impl_Frac_at_impl_areValid_1kp) (c := slices_IndexFunc_impl_Frac_impl_Frac_at_impl_areValid_1c) (n := n) (G := fun x y => slices_IndexFunc_impl_Frac_impl_Frac_at_impl_areValid_1 n x.1) follows (AllOk.mem (⟨impl_areValid_1_ok n, trivial⟩ : AllOk P ([impl_areValid_1F n]))) (by kernel_rfl : P.funcs[174]? = some Go.Proofs.Try.f174) (by kernel_rfl) (by kernel_rfl) (by kernel_rfl)
    (fun x y => slices_IndexFunc_impl_Frac_impl_Frac_at_impl_areValid_1_eq n x.1) (fun _ _ => map_same (fun _ => rfl) _) (fun _ _ _ _ => rfl)

abbrev slices_ContainsFunc_impl_Frac_impl_Frac_at_impl_areValid_1sp : List Sp := [.v false (.list (.pair (.int .i64) (.int .i64))), .cl 146 []]
abbrev slices_ContainsFunc_impl_Frac_impl_Frac_at_impl_areValid_1bs : List (Bs × Bool) := []
abbrev slices_ContainsFunc_impl_Frac_impl_Frac_at_impl_areValid_1rs : List (Bool × List Rp) := [(false, [.v false .bool])]
noncomputable def slices_ContainsFunc_impl_Frac_impl_Frac_at_impl_areValid_1kp : Keep := { loop := fun id => match id with | _ => ([], []), join := fun id => match id with | _ => none }
noncomputable def slices_ContainsFunc_impl_Frac_impl_Frac_at_impl_areValid_1c : Code := bodyOf Go.Proofs.Try.f145
noncomputable def slices_ContainsFunc_impl_Frac_impl_Frac_at_impl_areValid_1F (n : Nat) : Fun := { id := 145, sp := slices_ContainsFunc_impl_Frac_impl_Frac_at_impl_areValid_1sp, bs := slices_ContainsFunc_impl_Frac_impl_Frac_at_impl_areValid_1bs, rs := slices_ContainsFunc_impl_Frac_impl_Frac_at_impl_areValid_1rs, f := fun x y => slices_ContainsFunc_impl_Frac_impl_Frac_at_impl_areValid_1 n x.1 }

theorem slices_ContainsFunc_impl_Frac_impl_Frac_at_impl_areValid_1_eq (n : Nat) (a0 : List ((Int) × (Int))) : runBody ([slices_IndexFunc_impl_Frac_impl_Frac_at_impl_areValid_1F n]) ty 9 n slices_ContainsFunc_impl_Frac_impl_Frac_at_impl_areValid_1kp slices_ContainsFunc_impl_Frac_impl_Frac_at_impl_areValid_1c Go.Proofs.Try.f145.results.toList slices_ContainsFunc_impl_Frac_impl_Frac_at_impl_areValid_1rs slices_ContainsFunc_impl_Frac_impl_Frac_at_impl_areValid_1sp slices_ContainsFunc_impl_Frac_impl_Frac_at_impl_areValid_1bs (a0, ((), ())) () = slices_ContainsFunc_impl_Frac_impl_Frac_at_impl_areValid_1 n a0 := by
  have h : runBody ([slices_IndexFunc_impl_Frac_impl_Frac_at_impl_areValid_1F n]) ty 9 n slices_ContainsFunc_impl_Frac_impl_Frac_at_impl_areValid_1kp slices_ContainsFunc_impl_Frac_impl_Frac_at_impl_areValid_1c Go.Proofs.Try.f145.results.toList slices_ContainsFunc_impl_Frac_impl_Frac_at_impl_areValid_1rs slices_ContainsFunc_impl_Frac_impl_Frac_at_impl_areValid_1sp slices_ContainsFunc_impl_Frac_impl_Frac_at_impl_areValid_1bs (a0, ((), ())) () = slices_ContainsFunc_impl_Frac_impl_Frac_at_impl_areValid_1_t n a0 := by kernel_rfl
  rw [h]
  rfl

theorem slices_ContainsFunc_impl_Frac_impl_Frac_at_impl_areValid_1_ok (n : Nat) : FunOk P (slices_ContainsFunc_impl_Frac_impl_Frac_at_impl_areValid_1F n) :=
  funOk_mk (C := [slices_IndexFunc_impl_Frac_impl_Frac_at_impl_areValid_1F n]) (N := 9) (kp := slices_ContainsFunc_impl_Frac_impl_Frac_at_impl_areValid_1kp) (c := slices_ContainsFunc_impl_Frac_impl_Frac_at_impl_areValid_1c) (n := n) (G := fun x y => slices_ContainsFunc_impl_Frac_impl_Frac_at_impl_areValid_1 n x.1) follows (AllOk.mem (⟨slices_IndexFunc_impl_Frac_impl_Frac_at_impl_areValid_1_ok n, trivial⟩ : AllOk P ([slices_IndexFunc_impl_Frac_impl_Frac_at_impl_areValid_1F n]))) (by kernel_rfl : P.funcs[145]? = some Go.Proofs.Try.f145) (by kernel_rfl) (by kernel_rfl) (by kernel_rfl)
    (fun x y => slices_ContainsFunc_impl_Frac_impl_Frac_at_impl_areValid_1_eq n x.1) (fun _ _ => map_same (fun _ => rfl) _) (fun _ _ _ _ => rfl)

abbrev impl_areValidsp : List Sp := [.v false (.list (.pair (.int .i64) (.int .i64)))]
abbrev impl_areValidbs : List (Bs × Bool) := []
abbrev impl_areValidrs : List (Bool × List Rp) := [(false, [.v false .bool])]
noncomputable def impl_areValidkp : Keep := { loop := fun id => match id with | _ => ([], []), join := fun id => match id with | _ => none }
noncomputable def impl_areValidc : Code := bodyOf Go.Proofs.Try.f96
noncomputable def impl_areValidF (n : Nat) : Fun := { id := 96, sp := impl_areValidsp, bs := impl_areValidbs, rs := impl_areValidrs, f := fun x y => impl_areValid n x.1 }

theorem impl_areValid_eq (n : Nat) (a0 : List ((Int) × (Int))) : runBody ([slices_ContainsFunc_impl_Frac_impl_Frac_at_impl_areValid_1F n]) ty 6 n impl_areValidkp impl_areValidc Go.Proofs.Try.f96.results.toList impl_areValidrs impl_areValidsp impl_areValidbs (a0, ()) () = impl_areValid n a0 := by
  have h : runBody ([slices_ContainsFunc_impl_Frac_impl_Frac_at_impl_areValid_1F n]) ty 6 n impl_areValidkp impl_areValidc Go.Proofs.Try.f96.results.toList impl_areValidrs impl_areValidsp impl_areValidbs (a0, ()) () = impl_areValid_t n a0 := by kernel_rfl
  rw [h]
  rfl

theorem impl_areValid_ok (n : Nat) : FunOk P (impl_areValidF n) :=
  funOk_mk (C := [slices_ContainsFunc_impl_Frac_impl_Frac_at_impl_areValid_1F n]) (N := 6) (kp := impl_areValidkp) (c := impl_areValidc) (n := n) (G := fun x y => impl_areValid n x.1) follows (AllOk.mem (⟨slices_ContainsFunc_impl_Frac_impl_Frac_at_impl_areValid_1_ok n, trivial⟩ : AllOk P ([slices_ContainsFunc_impl_Frac_impl_Frac_at_impl_areValid_1F n]))) (by kernel_rfl : P.funcs[96]? = some Go.Proofs.Try.f96) (by kernel_rfl) (by kernel_rfl) (by kernel_rfl)
    (fun x y => impl_areValid_eq n x.1) (fun _ _ => map_same (fun _ => rfl) _) (fun _ _ _ _ => rfl)

abbrev impl_answerCodesp : List Sp := [.v true (.pair (.int .i64) (.pair (.list (.pair (.pair (.int .i8) (.pair (.int .i8) (.pair (.int .i8) (.pair (.int .i8) (.pair (.int .i8) (.int .i8)))))) (.pair (.pair (.int .i64) (.int .i64)) (.int .i64)))) (.pair .bool (.pair (.int .i64) (.int .i64))))), .v false (.list (.pair (.int .i64) (.int .i64)))]
abbrev impl_answerCodebs : List (Bs × Bool) := []
abbrev impl_answerCoders : List (Bool × List Rp) := [(false, [.v false (.int .i64)])]
noncomputable def impl_answerCodekp : Keep := { loop := fun id => match id with | _ => ([], []), join := fun id => match id with | _ => none }
noncomputable def impl_answerCodec : Code := bodyOf Go.Proofs.Try.f130
noncomputable def impl_answerCodeF (n : Nat) : Fun := { id := 130, sp := impl_answerCodesp, bs := impl_answerCodebs, rs := impl_answerCoders, f := fun x y => impl_answerCode n x.1 x.2.1 }

theorem impl_answerCode_eq (n : Nat) (a0 : (Int) × ((List (((Int) × ((Int) × ((Int) × ((Int) × ((Int) × (Int)))))) × (((Int) × (Int)) × (Int)))) × ((Bool) × ((Int) × (Int))))) (a1 : List ((Int) × (Int))) : runBody ([impl_ValidTableF n, impl_areValidF n]) ty 20 n impl_answerCodekp impl_answerCodec Go.Proofs.Try.f130.results.toList impl_answerCoders impl_answerCodesp impl_answerCodebs (a0, (a1, ())) () = impl_answerCode n a0 a1 := by
  have h : runBody ([impl_ValidTableF n, impl_areValidF n]) ty 20 n impl_answerCodekp impl_answerCodec Go.Proofs.Try.f130.results.toList impl_answerCoders impl_answerCodesp impl_answerCodebs (a0, (a1, ())) () = impl_answerCode_t n a0 a1 := by kernel_rfl
  rw [h]
  rfl

theorem impl_answerCode_ok (n : Nat) : FunOk P (impl_answerCodeF n) :=
  funOk_mk (C := [impl_ValidTableF n, impl_areValidF n]) (N := 20) (kp := impl_answerCodekp) (c := impl_answerCodec) (n := n) (G := fun x y => impl_answerCode n x.1 x.2.1) follows (AllOk.mem (⟨impl_ValidTable_ok n, ⟨impl_areValid_ok n, trivial⟩⟩ : AllOk P ([impl_ValidTableF n, impl_areValidF n]))) (by kernel_rfl : P.funcs[130]? = some Go.Proofs.Try.f130) (by kernel_rfl) (by kernel_rfl) (by kernel_rfl)
    (fun x y => impl_answerCode_eq n x.1 x.2.1) (fun _ _ => map_same (fun _ => rfl) _) (fun _ _ _ _ => rfl)

abbrev impl_numsp : List Sp := [.v false (.int .i64)]
abbrev impl_numbs : List (Bs × Bool) := []
abbrev impl_numrs : List (Bool × List Rp) := [(true, [.v false (.pair (.int .i64) (.int .i64))])]
noncomputable def impl_numkp : Keep := { loop := fun id => match id with | _ => ([], []), join := fun id => match id with | _ => none }
noncomputable def impl_numc : Code := bodyOf Go.Proofs.Try.f167
noncomputable def impl_numF (n : Nat) : Fun := { id := 167, sp := impl_numsp, bs := impl_numbs, rs := impl_numrs, f := fun x y => impl_num n x.1 }

theorem impl_num_eq (n : Nat) (a0 : Int) : runBody ([]) ty 5 n impl_numkp impl_numc Go.Proofs.Try.f167.results.toList impl_numrs impl_numsp impl_numbs (a0, ()) () = impl_num n a0 := by
  have h : runBody ([]) ty 5 n impl_numkp impl_numc Go.Proofs.Try.f167.results.toList impl_numrs impl_numsp impl_numbs (a0, ()) () = impl_num_t n a0 := by kernel_rfl
  rw [h]
  rfl

theorem impl_num_ok (n : Nat) : FunOk P (impl_numF n) :=
  funOk_mk (C := []) (N := 5) (kp := impl_numkp) (c := impl_numc) (n := n) (G := fun x y => impl_num n x.1) follows (AllOk.mem (trivial : AllOk P ([]))) (by kernel_rfl : P.funcs[167]? = some Go.Proofs.Try.f167) (by kernel_rfl) (by kernel_rfl) (by kernel_rfl)
    (fun x y => impl_num_eq n x.1) (fun _ _ => map_same (fun _ => rfl) _) (fun _ _ _ _ => rfl)

abbrev impl_fracOfsp : List Sp := [.v false (.int .i64), .v false (.int .i64)]
abbrev impl_fracOfbs : List (Bs × Bool) := []
abbrev impl_fracOfrs : List (Bool × List Rp) := [(true, [.v false (.pair (.int .i64) (.int .i64))]), (false, [.v false .bool])]
noncomputable def impl_fracOfkp : Keep := { loop := fun id => match id with | _ => ([], []), join := fun id => match id with | _ => none }
noncomputable def impl_fracOfc : Code := bodyOf Go.Proofs.Try.f186
noncomputable def impl_fracOfF (n : Nat) : Fun := { id := 186, sp := impl_fracOfsp, bs := impl_fracOfbs, rs := impl_fracOfrs, f := fun x y => impl_fracOf n x.1 x.2.1 }

theorem impl_fracOf_eq (n : Nat) (a0 : Int) (a1 : Int) : runBody ([impl_gcdF n, impl_ValidFracF n]) ty 29 n impl_fracOfkp impl_fracOfc Go.Proofs.Try.f186.results.toList impl_fracOfrs impl_fracOfsp impl_fracOfbs (a0, (a1, ())) () = impl_fracOf n a0 a1 := by
  have h : runBody ([impl_gcdF n, impl_ValidFracF n]) ty 29 n impl_fracOfkp impl_fracOfc Go.Proofs.Try.f186.results.toList impl_fracOfrs impl_fracOfsp impl_fracOfbs (a0, (a1, ())) () = impl_fracOf_t n a0 a1 := by kernel_rfl
  rw [h]
  rfl

theorem impl_fracOf_ok (n : Nat) : FunOk P (impl_fracOfF n) :=
  funOk_mk (C := [impl_gcdF n, impl_ValidFracF n]) (N := 29) (kp := impl_fracOfkp) (c := impl_fracOfc) (n := n) (G := fun x y => impl_fracOf n x.1 x.2.1) follows (AllOk.mem (⟨impl_gcd_ok n, ⟨impl_ValidFrac_ok n, trivial⟩⟩ : AllOk P ([impl_gcdF n, impl_ValidFracF n]))) (by kernel_rfl : P.funcs[186]? = some Go.Proofs.Try.f186) (by kernel_rfl) (by kernel_rfl) (by kernel_rfl)
    (fun x y => impl_fracOf_eq n x.1 x.2.1) (fun _ _ => map_same (fun _ => rfl) _) (fun _ _ _ _ => rfl)

abbrev impl_zerosp : List Sp := []
abbrev impl_zerobs : List (Bs × Bool) := []
abbrev impl_zerors : List (Bool × List Rp) := [(true, [.v false (.pair (.int .i64) (.int .i64))])]
noncomputable def impl_zerokp : Keep := { loop := fun id => match id with | _ => ([], []), join := fun id => match id with | _ => none }
noncomputable def impl_zeroc : Code := bodyOf Go.Proofs.Try.f187
noncomputable def impl_zeroF (n : Nat) : Fun := { id := 187, sp := impl_zerosp, bs := impl_zerobs, rs := impl_zerors, f := fun x y => impl_zero n }

theorem impl_zero_eq (n : Nat) : runBody ([]) ty 2 n impl_zerokp impl_zeroc Go.Proofs.Try.f187.results.toList impl_zerors impl_zerosp impl_zerobs () () = impl_zero n := by
  have h : runBody ([]) ty 2 n impl_zerokp impl_zeroc Go.Proofs.Try.f187.results.toList impl_zerors impl_zerosp impl_zerobs () () = impl_zero_t n := by kernel_rfl
  rw [h]
  rfl

theorem impl_zero_ok (n : Nat) : FunOk P (impl_zeroF n) :=
  funOk_mk (C := []) (N := 2) (kp := impl_zerokp) (c := impl_zeroc) (n := n) (G := fun x y => impl_zero n) follows (AllOk.mem (trivial : AllOk P ([]))) (by kernel_rfl : P.funcs[187]? = some Go.Proofs.Try.f187) (by kernel_rfl) (by kernel_rfl) (by kernel_rfl)
    (fun x y => impl_zero_eq n) (fun _ _ => map_same (fun _ => rfl) _) (fun _ _ _ _ => rfl)

abbrev impl_calc_toldsp : List Sp := [.ref 0, .v false (.int .i64), .v false (.int .i64)]
abbrev impl_calc_toldbs : List (Bs × Bool) := [(.var 155 .bool, true)]
abbrev impl_calc_toldrs : List (Bool × List Rp) := [(true, [.v false (.pair (.int .i64) (.int .i64))])]
noncomputable def impl_calc_toldkp : Keep := { loop := fun id => match id with | _ => ([], []), join := fun id => match id with | _ => none }
noncomputable def impl_calc_toldc : Code := bodyOf Go.Proofs.Try.f183
noncomputable def impl_calc_toldF (n : Nat) : Fun := { id := 183, sp := impl_calc_toldsp, bs := impl_calc_toldbs, rs := impl_calc_toldrs, f := fun x y => impl_calc_told n x.2.1 x.2.2.1 y.1 }

theorem impl_calc_told_eq (n : Nat) (a1 : Int) (a2 : Int) (b0 : Bool) : runBody ([impl_fracOfF n, impl_zeroF n]) ty 22 n impl_calc_toldkp impl_calc_toldc Go.Proofs.Try.f183.results.toList impl_calc_toldrs impl_calc_toldsp impl_calc_toldbs ((), (a1, (a2, ()))) (b0, ()) = impl_calc_told n a1 a2 b0 := by
  have h : runBody ([impl_fracOfF n, impl_zeroF n]) ty 22 n impl_calc_toldkp impl_calc_toldc Go.Proofs.Try.f183.results.toList impl_calc_toldrs impl_calc_toldsp impl_calc_toldbs ((), (a1, (a2, ()))) (b0, ()) = impl_calc_told_t n a1 a2 b0 := by kernel_rfl
  rw [h]
  rfl

theorem impl_calc_told_ok (n : Nat) : FunOk P (impl_calc_toldF n) :=
  funOk_mk (C := [impl_fracOfF n, impl_zeroF n]) (N := 22) (kp := impl_calc_toldkp) (c := impl_calc_toldc) (n := n) (G := fun x y => impl_calc_told n x.2.1 x.2.2.1 y.1) follows (AllOk.mem (⟨impl_fracOf_ok n, ⟨impl_zero_ok n, trivial⟩⟩ : AllOk P ([impl_fracOfF n, impl_zeroF n]))) (by kernel_rfl : P.funcs[183]? = some Go.Proofs.Try.f183) (by kernel_rfl) (by kernel_rfl) (by kernel_rfl)
    (fun x y => impl_calc_told_eq n x.2.1 x.2.2.1 y.1) (fun _ _ => map_same (fun _ => rfl) _) (fun _ _ _ _ => rfl)

abbrev impl_calc_mulsp : List Sp := [.ref 0, .v true (.pair (.int .i64) (.int .i64)), .v true (.pair (.int .i64) (.int .i64))]
abbrev impl_calc_mulbs : List (Bs × Bool) := [(.var 155 .bool, true)]
abbrev impl_calc_mulrs : List (Bool × List Rp) := [(true, [.v false (.pair (.int .i64) (.int .i64))])]
noncomputable def impl_calc_mulkp : Keep := { loop := fun id => match id with | _ => ([], []), join := fun id => match id with | _ => none }
noncomputable def impl_calc_mulc : Code := bodyOf Go.Proofs.Try.f166
noncomputable def impl_calc_mulF (n : Nat) : Fun := { id := 166, sp := impl_calc_mulsp, bs := impl_calc_mulbs, rs := impl_calc_mulrs, f := fun x y => impl_calc_mul n x.2.1 x.2.2.1 y.1 }

theorem impl_calc_mul_eq (n : Nat) (a1 : (Int) × (Int)) (a2 : (Int) × (Int)) (b0 : Bool) : runBody ([impl_calc_toldF n]) ty 19 n impl_calc_mulkp impl_calc_mulc Go.Proofs.Try.f166.results.toList impl_calc_mulrs impl_calc_mulsp impl_calc_mulbs ((), (a1, (a2, ()))) (b0, ()) = impl_calc_mul n a1 a2 b0 := by
  have h : runBody ([impl_calc_toldF n]) ty 19 n impl_calc_mulkp impl_calc_mulc Go.Proofs.Try.f166.results.toList impl_calc_mulrs impl_calc_mulsp impl_calc_mulbs ((), (a1, (a2, ()))) (b0, ()) = impl_calc_mul_t n a1 a2 b0 := by kernel_rfl
  rw [h]
  rfl

theorem impl_calc_mul_ok (n : Nat) : FunOk P (impl_calc_mulF n) :=
  funOk_mk (C := [impl_calc_toldF n]) (N := 19) (kp := impl_calc_mulkp) (c := impl_calc_mulc) (n := n) (G := fun x y => impl_calc_mul n x.2.1 x.2.2.1 y.1) follows (AllOk.mem (⟨impl_calc_told_ok n, trivial⟩ : AllOk P ([impl_calc_toldF n]))) (by kernel_rfl : P.funcs[166]? = some Go.Proofs.Try.f166) (by kernel_rfl) (by kernel_rfl) (by kernel_rfl)
    (fun x y => impl_calc_mul_eq n x.2.1 x.2.2.1 y.1) (fun _ _ => map_same (fun _ => rfl) _) (fun _ _ _ _ => rfl)

abbrev impl_calc_subsp : List Sp := [.ref 0, .v true (.pair (.int .i64) (.int .i64)), .v true (.pair (.int .i64) (.int .i64))]
abbrev impl_calc_subbs : List (Bs × Bool) := [(.var 155 .bool, true)]
abbrev impl_calc_subrs : List (Bool × List Rp) := [(true, [.v false (.pair (.int .i64) (.int .i64))])]
noncomputable def impl_calc_subkp : Keep := { loop := fun id => match id with | _ => ([], []), join := fun id => match id with | _ => none }
noncomputable def impl_calc_subc : Code := bodyOf Go.Proofs.Try.f169
noncomputable def impl_calc_subF (n : Nat) : Fun := { id := 169, sp := impl_calc_subsp, bs := impl_calc_subbs, rs := impl_calc_subrs, f := fun x y => impl_calc_sub n x.2.1 x.2.2.1 y.1 }

theorem impl_calc_sub_eq (n : Nat) (a1 : (Int) × (Int)) (a2 : (Int) × (Int)) (b0 : Bool) : runBody ([impl_calc_toldF n]) ty 25 n impl_calc_subkp impl_calc_subc Go.Proofs.Try.f169.results.toList impl_calc_subrs impl_calc_subsp impl_calc_subbs ((), (a1, (a2, ()))) (b0, ()) = impl_calc_sub n a1 a2 b0 := by
  have h : runBody ([impl_calc_toldF n]) ty 25 n impl_calc_subkp impl_calc_subc Go.Proofs.Try.f169.results.toList impl_calc_subrs impl_calc_subsp impl_calc_subbs ((), (a1, (a2, ()))) (b0, ()) = impl_calc_sub_t n a1 a2 b0 := by kernel_rfl
  rw [h]
  rfl

theorem impl_calc_sub_ok (n : Nat) : FunOk P (impl_calc_subF n) :=
  funOk_mk (C := [impl_calc_toldF n]) (N := 25) (kp := impl_calc_subkp) (c := impl_calc_subc) (n := n) (G := fun x y => impl_calc_sub n x.2.1 x.2.2.1 y.1) follows (AllOk.mem (⟨impl_calc_told_ok n, trivial⟩ : AllOk P ([impl_calc_toldF n]))) (by kernel_rfl : P.funcs[169]? = some Go.Proofs.Try.f169) (by kernel_rfl) (by kernel_rfl) (by kernel_rfl)
    (fun x y => impl_calc_sub_eq n x.2.1 x.2.2.1 y.1) (fun _ _ => map_same (fun _ => rfl) _) (fun _ _ _ _ => rfl)

abbrev impl_calc_residualssp : List Sp := [.ref 0, .v true (.pair (.int .i64) (.pair (.list (.pair (.pair (.int .i8) (.pair (.int .i8) (.pair (.int .i8) (.pair (.int .i8) (.pair (.int .i8) (.int .i8)))))) (.pair (.pair (.int .i64) (.int .i64)) (.int .i64)))) (.pair .bool (.pair (.int .i64) (.int .i64))))), .v false (.list (.pair (.int .i64) (.int .i64)))]
abbrev impl_calc_residualsbs : List (Bs × Bool) := [(.var 155 .bool, true)]
abbrev impl_calc_residualsrs : List (Bool × List Rp) := [(false, [.new  (.pair (.int .i64) (.int .i64))])]
noncomputable def impl_calc_residualskp : Keep := { loop := fun id => match id with | 3 => ([0, 17, 7, 2, 15, 16], []) | 7 => ([25, 10, 9, 0, 23, 2, 15, 16, 17, 7, 24], []) | _ => ([], []), join := fun id => match id with | _ => none }
noncomputable def impl_calc_residualsc : Code := bodyOf Go.Proofs.Try.f131
noncomputable def impl_calc_residualsF (n : Nat) : Fun := { id := 131, sp := impl_calc_residualssp, bs := impl_calc_residualsbs, rs := impl_calc_residualsrs, f := fun x y => impl_calc_residuals n x.2.1 x.2.2.1 y.1 }

theorem impl_calc_residuals_l7_eq (n : Nat) (G3 : St → Option ((((List ((Int) × (Int))) × (Unit)) × (Unit)) × ((Bool) × (Unit)))) : ∀ (k : Nat) (v25 : Int) (v23 : List ((Int) × (Int))) (v2 : List ((Int) × (Int))) (v15 : List (((Int) × ((Int) × ((Int) × ((Int) × ((Int) × (Int)))))) × (((Int) × (Int)) × (Int)))) (v16 : Int) (v17 : Int) (v24 : Int) (b0 : Bool) (b1_0 : Int) (b1_1 : Int) (b2_0 : Int) (b2_1 : Int) (b2_2 : Int) (b2_3 : Int) (b2_4 : Int) (b2_5 : Int) (b2_6 : Int) (b2_7 : Int) (b2_8 : Int) (b3 : List ((Int) × (Int))), iter (interp ([impl_numF n, impl_calc_mulF n, impl_calc_subF n]) ty 54 1 n impl_calc_residualskp (codeAt impl_calc_residualsc [1, 1, 0, 1, 0, 0, 1, 1, 0, 0, 1, 1, 0, 1, 0, 0])) (canon 1 (impl_calc_residualskp.loop 7)) (kAt ([impl_numF n, impl_calc_mulF n, impl_calc_subF n]) ty 54 1 n impl_calc_residualskp impl_calc_residualsc [1, 1, 0, 1, 0, 0, 1, 1, 0, 0, 1, 1, 0, 1, 0] [G3] (ending ty 1 Go.Proofs.Try.f131.results.toList impl_calc_residualsrs impl_calc_residualsbs)) k { env := [(25, .one (.sc (.int .i64 v25))), (10, .one (.ref 1 0 0 0 0 0)), (9, .one (.ref 2 0 0 0 0 0)), (0, .one (.ref 0 0 0 0 0 0)), (23, .one (.list true (.pair (.int .i64) (.int .i64)) v23)), (2, .one (.list true (.pair (.int .i64) (.int .i64)) v2)), (15, .one (.list true (.pair (.pair (.int .i8) (.pair (.int .i8) (.pair (.int .i8) (.pair (.int .i8) (.pair (.int .i8) (.int .i8)))))) (.pair (.pair (.int .i64) (.int .i64)) (.int .i64))) v15)), (16, .one (.sc (.int .i64 v16))), (17, .one (.sc (.int .i64 v17))), (7, .one (.slice 3 0 none)), (24, .one (.sc (.int .i64 v24)))], bx := [(0, .var 155 [.sc (.bool b0)]), (1, .var 45 [.sc (.int .i64 b1_0), .sc (.int .i64 b1_1)]), (2, .var 126 [.sc (.int .i8 b2_0), .sc (.int .i8 b2_1), .sc (.int .i8 b2_2), .sc (.int .i8 b2_3), .sc (.int .i8 b2_4), .sc (.int .i8 b2_5), .sc (.int .i64 b2_6), .sc (.int .i64 b2_7), .sc (.int .i64 b2_8)]), (3, .row 0 (.pair (.int .i64) (.int .i64)) b3)], nx := 4 } = impl_calc_residuals_l7 n (fun v17 v2 v15 v16 b0 b1 => G3 { env := [(0, .one (.ref 0 0 0 0 0 0)), (17, .one (.sc (.int .i64 v17))), (7, .one (.slice 1 0 none)), (2, .one (.list true (.pair (.int .i64) (.int .i64)) v2)), (15, .one (.list true (.pair (.pair (.int .i8) (.pair (.int .i8) (.pair (.int .i8) (.pair (.int .i8) (.pair (.int .i8) (.int .i8)))))) (.pair (.pair (.int .i64) (.int .i64)) (.int .i64))) v15)), (16, .one (.sc (.int .i64 v16)))], bx := [(0, .var 155 [.sc (.bool b0)]), (1, .row 0 (.pair (.int .i64) (.int .i64)) b1)], nx := 2 }) k v25 v23 v2 v15 v16 v17 v24 b0 b1_0 b1_1 b2_0 b2_1 b2_2 b2_3 b2_4 b2_5 b2_6 b2_7 b2_8 b3
  | 0, _, _, _, _, _, _, _, _, _, _, _, _, _, _, _, _, _, _, _, _ => by kernel_rfl
  | k + 1, v25, v23, v2, v15, v16, v17, v24, b0, b1_0, b1_1, b2_0, b2_1, b2_2, b2_3, b2_4, b2_5, b2_6, b2_7, b2_8, b3 => by
    have h : iter (interp ([impl_numF n, impl_calc_mulF n, impl_calc_subF n]) ty 54 1 n impl_calc_residualskp (codeAt impl_calc_residualsc [1, 1, 0, 1, 0, 0, 1, 1, 0, 0, 1, 1, 0, 1, 0, 0])) (canon 1 (impl_calc_residualskp.loop 7)) (kAt ([impl_numF n, impl_calc_mulF n, impl_calc_subF n]) ty 54 1 n impl_calc_residualskp impl_calc_residualsc [1, 1, 0, 1, 0, 0, 1, 1, 0, 0, 1, 1, 0, 1, 0] [G3] (ending ty 1 Go.Proofs.Try.f131.results.toList impl_calc_residualsrs impl_calc_residualsbs)) (k + 1) { env := [(25, .one (.sc (.int .i64 v25))), (10, .one (.ref 1 0 0 0 0 0)), (9, .one (.ref 2 0 0 0 0 0)), (0, .one (.ref 0 0 0 0 0 0)), (23, .one (.list true (.pair (.int .i64) (.int .i64)) v23)), (2, .one (.list true (.pair (.int .i64) (.int .i64)) v2)), (15, .one (.list true (.pair (.pair (.int .i8) (.pair (.int .i8) (.pair (.int .i8) (.pair (.int .i8) (.pair (.int .i8) (.int .i8)))))) (.pair (.pair (.int .i64) (.int .i64)) (.int .i64))) v15)), (16, .one (.sc (.int .i64 v16))), (17, .one (.sc (.int .i64 v17))), (7, .one (.slice 3 0 none)), (24, .one (.sc (.int .i64 v24)))], bx := [(0, .var 155 [.sc (.bool b0)]), (1, .var 45 [.sc (.int .i64 b1_0), .sc (.int .i64 b1_1)]), (2, .var 126 [.sc (.int .i8 b2_0), .sc (.int .i8 b2_1), .sc (.int .i8 b2_2), .sc (.int .i8 b2_3), .sc (.int .i8 b2_4), .sc (.int .i8 b2_5), .sc (.int .i64 b2_6), .sc (.int .i64 b2_7), .sc (.int .i64 b2_8)]), (3, .row 0 (.pair (.int .i64) (.int .i64)) b3)], nx := 4 } = impl_calc_residuals_t7 n (fun v17 v2 v15 v16 b0 b1 => G3 { env := [(0, .one (.ref 0 0 0 0 0 0)), (17, .one (.sc (.int .i64 v17))), (7, .one (.slice 1 0 none)), (2, .one (.list true (.pair (.int .i64) (.int .i64)) v2)), (15, .one (.list true (.pair (.pair (.int .i8) (.pair (.int .i8) (.pair (.int .i8) (.pair (.int .i8) (.pair (.int .i8) (.int .i8)))))) (.pair (.pair (.int .i64) (.int .i64)) (.int .i64))) v15)), (16, .one (.sc (.int .i64 v16)))], bx := [(0, .var 155 [.sc (.bool b0)]), (1, .row 0 (.pair (.int .i64) (.int .i64)) b1)], nx := 2 }) (fun v25 v23 v2 v15 v16 v17 v24 b0 b1_0 b1_1 b2_0 b2_1 b2_2 b2_3 b2_4 b2_5 b2_6 b2_7 b2_8 b3 => iter (interp ([impl_numF n, impl_calc_mulF n, impl_calc_subF n]) ty 54 1 n impl_calc_residualskp (codeAt impl_calc_residualsc [1, 1, 0, 1, 0, 0, 1, 1, 0, 0, 1, 1, 0, 1, 0, 0])) (canon 1 (impl_calc_residualskp.loop 7)) (kAt ([impl_numF n, impl_calc_mulF n, impl_calc_subF n]) ty 54 1 n impl_calc_residualskp impl_calc_residualsc [1, 1, 0, 1, 0, 0, 1, 1, 0, 0, 1, 1, 0, 1, 0] [G3] (ending ty 1 Go.Proofs.Try.f131.results.toList impl_calc_residualsrs impl_calc_residualsbs)) k { env := [(25, .one (.sc (.int .i64 v25))), (10, .one (.ref 1 0 0 0 0 0)), (9, .one (.ref 2 0 0 0 0 0)), (0, .one (.ref 0 0 0 0 0 0)), (23, .one (.list true (.pair (.int .i64) (.int .i64)) v23)), (2, .one (.list true (.pair (.int .i64) (.int .i64)) v2)), (15, .one (.list true (.pair (.pair (.int .i8) (.pair (.int .i8) (.pair (.int .i8) (.pair (.int .i8) (.pair (.int .i8) (.int .i8)))))) (.pair (.pair (.int .i64) (.int .i64)) (.int .i64))) v15)), (16, .one (.sc (.int .i64 v16))), (17, .one (.sc (.int .i64 v17))), (7, .one (.slice 3 0 none)), (24, .one (.sc (.int .i64 v24)))], bx := [(0, .var 155 [.sc (.bool b0)]), (1, .var 45 [.sc (.int .i64 b1_0), .sc (.int .i64 b1_1)]), (2, .var 126 [.sc (.int .i8 b2_0), .sc (.int .i8 b2_1), .sc (.int .i8 b2_2), .sc (.int .i8 b2_3), .sc (.int .i8 b2_4), .sc (.int .i8 b2_5), .sc (.int .i64 b2_6), .sc (.int .i64 b2_7), .sc (.int .i64 b2_8)]), (3, .row 0 (.pair (.int .i64) (.int .i64)) b3)], nx := 4 }) v25 v23 v2 v15 v16 v17 v24 b0 b1_0 b1_1 b2_0 b2_1 b2_2 b2_3 b2_4 b2_5 b2_6 b2_7 b2_8 b3 := by kernel_rfl
    rw [h]
    have e := congrArg (fun g => impl_calc_residuals_t7 n (fun v17 v2 v15 v16 b0 b1 => G3 { env := [(0, .one (.ref 0 0 0 0 0 0)), (17, .one (.sc (.int .i64 v17))), (7, .one (.slice 1 0 none)), (2, .one (.list true (.pair (.int .i64) (.int .i64)) v2)), (15, .one (.list true (.pair (.pair (.int .i8) (.pair (.int .i8) (.pair (.int .i8) (.pair (.int .i8) (.pair (.int .i8) (.int .i8)))))) (.pair (.pair (.int .i64) (.int .i64)) (.int .i64))) v15)), (16, .one (.sc (.int .i64 v16)))], bx := [(0, .var 155 [.sc (.bool b0)]), (1, .row 0 (.pair (.int .i64) (.int .i64)) b1)], nx := 2 }) g v25 v23 v2 v15 v16 v17 v24 b0 b1_0 b1_1 b2_0 b2_1 b2_2 b2_3 b2_4 b2_5 b2_6 b2_7 b2_8 b3) (funext fun v25 => funext fun v23 => funext fun v2 => funext fun v15 => funext fun v16 => funext fun v17 => funext fun v24 => funext fun b0 => funext fun b1_0 => funext fun b1_1 => funext fun b2_0 => funext fun b2_1 => funext fun b2_2 => funext fun b2_3 => funext fun b2_4 => funext fun b2_5 => funext fun b2_6 => funext fun b2_7 => funext fun b2_8 => funext fun b3 => impl_calc_residuals_l7_eq n G3 k v25 v23 v2 v15 v16 v17 v24 b0 b1_0 b1_1 b2_0 b2_1 b2_2 b2_3 b2_4 b2_5 b2_6 b2_7 b2_8 b3)
    exact e

theorem impl_calc_residuals_l3_eq (n : Nat) : ∀ (k : Nat) (v17 : Int) (v2 : List ((Int) × (Int))) (v15 : List (((Int) × ((Int) × ((Int) × ((Int) × ((Int) × (Int)))))) × (((Int) × (Int)) × (Int)))) (v16 : Int) (b0 : Bool) (b1 : List ((Int) × (Int))), iter (interp ([impl_numF n, impl_calc_mulF n, impl_calc_subF n]) ty 54 1 n impl_calc_residualskp (codeAt impl_calc_residualsc [1, 1, 0, 1, 0, 0])) (canon 1 (impl_calc_residualskp.loop 3)) (kAt ([impl_numF n, impl_calc_mulF n, impl_calc_subF n]) ty 54 1 n impl_calc_residualskp impl_calc_residualsc [1, 1, 0, 1, 0] [] (ending ty 1 Go.Proofs.Try.f131.results.toList impl_calc_residualsrs impl_calc_residualsbs)) k { env := [(0, .one (.ref 0 0 0 0 0 0)), (17, .one (.sc (.int .i64 v17))), (7, .one (.slice 1 0 none)), (2, .one (.list true (.pair (.int .i64) (.int .i64)) v2)), (15, .one (.list true (.pair (.pair (.int .i8) (.pair (.int .i8) (.pair (.int .i8) (.pair (.int .i8) (.pair (.int .i8) (.int .i8)))))) (.pair (.pair (.int .i64) (.int .i64)) (.int .i64))) v15)), (16, .one (.sc (.int .i64 v16)))], bx := [(0, .var 155 [.sc (.bool b0)]), (1, .row 0 (.pair (.int .i64) (.int .i64)) b1)], nx := 2 } = impl_calc_residuals_l3 n k v17 v2 v15 v16 b0 b1
  | 0, _, _, _, _, _, _ => by kernel_rfl
  | k + 1, v17, v2, v15, v16, b0, b1 => by
    have h : iter (interp ([impl_numF n, impl_calc_mulF n, impl_calc_subF n]) ty 54 1 n impl_calc_residualskp (codeAt impl_calc_residualsc [1, 1, 0, 1, 0, 0])) (canon 1 (impl_calc_residualskp.loop 3)) (kAt ([impl_numF n, impl_calc_mulF n, impl_calc_subF n]) ty 54 1 n impl_calc_residualskp impl_calc_residualsc [1, 1, 0, 1, 0] [] (ending ty 1 Go.Proofs.Try.f131.results.toList impl_calc_residualsrs impl_calc_residualsbs)) (k + 1) { env := [(0, .one (.ref 0 0 0 0 0 0)), (17, .one (.sc (.int .i64 v17))), (7, .one (.slice 1 0 none)), (2, .one (.list true (.pair (.int .i64) (.int .i64)) v2)), (15, .one (.list true (.pair (.pair (.int .i8) (.pair (.int .i8) (.pair (.int .i8) (.pair (.int .i8) (.pair (.int .i8) (.int .i8)))))) (.pair (.pair (.int .i64) (.int .i64)) (.int .i64))) v15)), (16, .one (.sc (.int .i64 v16)))], bx := [(0, .var 155 [.sc (.bool b0)]), (1, .row 0 (.pair (.int .i64) (.int .i64)) b1)], nx := 2 } = impl_calc_residuals_t3 n (fun k' v25 v23 v2 v15 v16 v17 v24 b0 b1_0 b1_1 b2_0 b2_1 b2_2 b2_3 b2_4 b2_5 b2_6 b2_7 b2_8 b3 => iter (interp ([impl_numF n, impl_calc_mulF n, impl_calc_subF n]) ty 54 1 n impl_calc_residualskp (codeAt impl_calc_residualsc [1, 1, 0, 1, 0, 0, 1, 1, 0, 0, 1, 1, 0, 1, 0, 0])) (canon 1 (impl_calc_residualskp.loop 7)) (kAt ([impl_numF n, impl_calc_mulF n, impl_calc_subF n]) ty 54 1 n impl_calc_residualskp impl_calc_residualsc [1, 1, 0, 1, 0, 0, 1, 1, 0, 0, 1, 1, 0, 1, 0] [(fun s => iter (interp ([impl_numF n, impl_calc_mulF n, impl_calc_subF n]) ty 54 1 n impl_calc_residualskp (codeAt impl_calc_residualsc [1, 1, 0, 1, 0, 0])) (canon 1 (impl_calc_residualskp.loop 3)) (kAt ([impl_numF n, impl_calc_mulF n, impl_calc_subF n]) ty 54 1 n impl_calc_residualskp impl_calc_residualsc [1, 1, 0, 1, 0] [] (ending ty 1 Go.Proofs.Try.f131.results.toList impl_calc_residualsrs impl_calc_residualsbs)) k s)] (ending ty 1 Go.Proofs.Try.f131.results.toList impl_calc_residualsrs impl_calc_residualsbs)) k' { env := [(25, .one (.sc (.int .i64 v25))), (10, .one (.ref 1 0 0 0 0 0)), (9, .one (.ref 2 0 0 0 0 0)), (0, .one (.ref 0 0 0 0 0 0)), (23, .one (.list true (.pair (.int .i64) (.int .i64)) v23)), (2, .one (.list true (.pair (.int .i64) (.int .i64)) v2)), (15, .one (.list true (.pair (.pair (.int .i8) (.pair (.int .i8) (.pair (.int .i8) (.pair (.int .i8) (.pair (.int .i8) (.int .i8)))))) (.pair (.pair (.int .i64) (.int .i64)) (.int .i64))) v15)), (16, .one (.sc (.int .i64 v16))), (17, .one (.sc (.int .i64 v17))), (7, .one (.slice 3 0 none)), (24, .one (.sc (.int .i64 v24)))], bx := [(0, .var 155 [.sc (.bool b0)]), (1, .var 45 [.sc (.int .i64 b1_0), .sc (.int .i64 b1_1)]), (2, .var 126 [.sc (.int .i8 b2_0), .sc (.int .i8 b2_1), .sc (.int .i8 b2_2), .sc (.int .i8 b2_3), .sc (.int .i8 b2_4), .sc (.int .i8 b2_5), .sc (.int .i64 b2_6), .sc (.int .i64 b2_7), .sc (.int .i64 b2_8)]), (3, .row 0 (.pair (.int .i64) (.int .i64)) b3)], nx := 4 }) (fun v17 v2 v15 v16 b0 b1 => iter (interp ([impl_numF n, impl_calc_mulF n, impl_calc_subF n]) ty 54 1 n impl_calc_residualskp (codeAt impl_calc_residualsc [1, 1, 0, 1, 0, 0])) (canon 1 (impl_calc_residualskp.loop 3)) (kAt ([impl_numF n, impl_calc_mulF n, impl_calc_subF n]) ty 54 1 n impl_calc_residualskp impl_calc_residualsc [1, 1, 0, 1, 0] [] (ending ty 1 Go.Proofs.Try.f131.results.toList impl_calc_residualsrs impl_calc_residualsbs)) k { env := [(0, .one (.ref 0 0 0 0 0 0)), (17, .one (.sc (.int .i64 v17))), (7, .one (.slice 1 0 none)), (2, .one (.list true (.pair (.int .i64) (.int .i64)) v2)), (15, .one (.list true (.pair (.pair (.int .i8) (.pair (.int .i8) (.pair (.int .i8) (.pair (.int .i8) (.pair (.int .i8) (.int .i8)))))) (.pair (.pair (.int .i64) (.int .i64)) (.int .i64))) v15)), (16, .one (.sc (.int .i64 v16)))], bx := [(0, .var 155 [.sc (.bool b0)]), (1, .row 0 (.pair (.int .i64) (.int .i64)) b1)], nx := 2 }) v17 v2 v15 v16 b0 b1 := by kernel_rfl
    rw [h]
    have e := congr (congrArg (fun h7 g => impl_calc_residuals_t3 n h7 g v17 v2 v15 v16 b0 b1) ((funext fun k' => funext fun v25 => funext fun v23 => funext fun v2 => funext fun v15 => funext fun v16 => funext fun v17 => funext fun v24 => funext fun b0 => funext fun b1_0 => funext fun b1_1 => funext fun b2_0 => funext fun b2_1 => funext fun b2_2 => funext fun b2_3 => funext fun b2_4 => funext fun b2_5 => funext fun b2_6 => funext fun b2_7 => funext fun b2_8 => funext fun b3 => impl_calc_residuals_l7_eq n (fun s => iter (interp ([impl_numF n, impl_calc_mulF n, impl_calc_subF n]) ty 54 1 n impl_calc_residualskp (codeAt impl_calc_residualsc [1, 1, 0, 1, 0, 0])) (canon 1 (impl_calc_residualskp.loop 3)) (kAt ([impl_numF n, impl_calc_mulF n, impl_calc_subF n]) ty 54 1 n impl_calc_residualskp impl_calc_residualsc [1, 1, 0, 1, 0] [] (ending ty 1 Go.Proofs.Try.f131.results.toList impl_calc_residualsrs impl_calc_residualsbs)) k s) k' v25 v23 v2 v15 v16 v17 v24 b0 b1_0 b1_1 b2_0 b2_1 b2_2 b2_3 b2_4 b2_5 b2_6 b2_7 b2_8 b3).trans (congrArg (fun z => impl_calc_residuals_l7 n z) (funext fun v17 => funext fun v2 => funext fun v15 => funext fun v16 => funext fun b0 => funext fun b1 => impl_calc_residuals_l3_eq n k v17 v2 v15 v16 b0 b1)))) (funext fun v17 => funext fun v2 => funext fun v15 => funext fun v16 => funext fun b0 => funext fun b1 => impl_calc_residuals_l3_eq n k v17 v2 v15 v16 b0 b1)
    exact e

theorem impl_calc_residuals_eq (n : Nat) (a1 : (Int) × ((List (((Int) × ((Int) × ((Int) × ((Int) × ((Int) × (Int)))))) × (((Int) × (Int)) × (Int)))) × ((Bool) × ((Int) × (Int))))) (a2 : List ((Int) × (Int))) (b0 : Bool) : runBody ([impl_numF n, impl_calc_mulF n, impl_calc_subF n]) ty 54 n impl_calc_residualskp impl_calc_residualsc Go.Proofs.Try.f131.results.toList impl_calc_residualsrs impl_calc_residualssp impl_calc_residualsbs ((), (a1, (a2, ()))) (b0, ()) = impl_calc_residuals n a1 a2 b0 := by
  have h : runBody ([impl_numF n, impl_calc_mulF n, impl_calc_subF n]) ty 54 n impl_calc_residualskp impl_calc_residualsc Go.Proofs.Try.f131.results.toList impl_calc_residualsrs impl_calc_residualssp impl_calc_residualsbs ((), (a1, (a2, ()))) (b0, ()) = impl_calc_residuals_t n (fun k v17 v2 v15 v16 b0 b1 => iter (interp ([impl_numF n, impl_calc_mulF n, impl_calc_subF n]) ty 54 1 n impl_calc_residualskp (codeAt impl_calc_residualsc [1, 1, 0, 1, 0, 0])) (canon 1 (impl_calc_residualskp.loop 3)) (kAt ([impl_numF n, impl_calc_mulF n, impl_calc_subF n]) ty 54 1 n impl_calc_residualskp impl_calc_residualsc [1, 1, 0, 1, 0] [] (ending ty 1 Go.Proofs.Try.f131.results.toList impl_calc_residualsrs impl_calc_residualsbs)) k { env := [(0, .one (.ref 0 0 0 0 0 0)), (17, .one (.sc (.int .i64 v17))), (7, .one (.slice 1 0 none)), (2, .one (.list true (.pair (.int .i64) (.int .i64)) v2)), (15, .one (.list true (.pair (.pair (.int .i8) (.pair (.int .i8) (.pair (.int .i8) (.pair (.int .i8) (.pair (.int .i8) (.int .i8)))))) (.pair (.pair (.int .i64) (.int .i64)) (.int .i64))) v15)), (16, .one (.sc (.int .i64 v16)))], bx := [(0, .var 155 [.sc (.bool b0)]), (1, .row 0 (.pair (.int .i64) (.int .i64)) b1)], nx := 2 }) a1 a2 b0 := by kernel_rfl
  rw [h]
  have e := congrArg (fun h3 => impl_calc_residuals_t n h3 a1 a2 b0) (funext fun k => funext fun v17 => funext fun v2 => funext fun v15 => funext fun v16 => funext fun b0 => funext fun b1 => impl_calc_residuals_l3_eq n k v17 v2 v15 v16 b0 b1)
  exact e

theorem impl_calc_residuals_ok (n : Nat) : FunOk P (impl_calc_residualsF n) :=
  funOk_mk (C := [impl_numF n, impl_calc_mulF n, impl_calc_subF n]) (N := 54) (kp := impl_calc_residualskp) (c := impl_calc_residualsc) (n := n) (G := fun x y => impl_calc_residuals n x.2.1 x.2.2.1 y.1) follows (AllOk.mem (⟨impl_num_ok n, ⟨impl_calc_mul_ok n, ⟨impl_calc_sub_ok n, trivial⟩⟩⟩ : AllOk P ([impl_numF n, impl_calc_mulF n, impl_calc_subF n]))) (by kernel_rfl : P.funcs[131]? = some Go.Proofs.Try.f131) (by kernel_rfl) (by kernel_rfl) (by kernel_rfl)
    (fun x y => impl_calc_residuals_eq n x.2.1 x.2.2.1 y.1) (fun _ _ => map_same (fun _ => rfl) _) (fun _ _ _ _ => rfl)

abbrev impl_ResidualsOfsp : List Sp := [.v true (.pair (.int .i64) (.pair (.list (.pair (.pair (.int .i8) (.pair (.int .i8) (.pair (.int .i8) (.pair (.int .i8) (.pair (.int .i8) (.int .i8)))))) (.pair (.pair (.int .i64) (.int .i64)) (.int .i64)))) (.pair .bool (.pair (.int .i64) (.int .i64))))), .v false (.list (.pair (.int .i64) (.int .i64)))]
abbrev impl_ResidualsOfbs : List (Bs × Bool) := []
abbrev impl_ResidualsOfrs : List (Bool × List Rp) := [(false, [.new  (.pair (.int .i64) (.int .i64))]), (false, [.v false (.int .i64)])]
noncomputable def impl_ResidualsOfkp : Keep := { loop := fun id => match id with | _ => ([], []), join := fun id => match id with | _ => none }
noncomputable def impl_ResidualsOfc : Code := bodyOf Go.Proofs.Try.f69
noncomputable def impl_ResidualsOfF (n : Nat) : Fun := { id := 69, sp := impl_ResidualsOfsp, bs := impl_ResidualsOfbs, rs := impl_ResidualsOfrs, f := fun x y => impl_ResidualsOf n x.1 x.2.1 }

theorem impl_ResidualsOf_eq (n : Nat) (a0 : (Int) × ((List (((Int) × ((Int) × ((Int) × ((Int) × ((Int) × (Int)))))) × (((Int) × (Int)) × (Int)))) × ((Bool) × ((Int) × (Int))))) (a1 : List ((Int) × (Int))) : runBody ([impl_answerCodeF n, impl_calc_residualsF n]) ty 26 n impl_ResidualsOfkp impl_ResidualsOfc Go.Proofs.Try.f69.results.toList impl_ResidualsOfrs impl_ResidualsOfsp impl_ResidualsOfbs (a0, (a1, ())) () = impl_ResidualsOf n a0 a1 := by
  have h : runBody ([impl_answerCodeF n, impl_calc_residualsF n]) ty 26 n impl_ResidualsOfkp impl_ResidualsOfc Go.Proofs.Try.f69.results.toList impl_ResidualsOfrs impl_ResidualsOfsp impl_ResidualsOfbs (a0, (a1, ())) () = impl_ResidualsOf_t n a0 a1 := by kernel_rfl
  rw [h]
  rfl

theorem impl_ResidualsOf_ok (n : Nat) : FunOk P (impl_ResidualsOfF n) :=
  funOk_mk (C := [impl_answerCodeF n, impl_calc_residualsF n]) (N := 26) (kp := impl_ResidualsOfkp) (c := impl_ResidualsOfc) (n := n) (G := fun x y => impl_ResidualsOf n x.1 x.2.1) follows (AllOk.mem (⟨impl_answerCode_ok n, ⟨impl_calc_residuals_ok n, trivial⟩⟩ : AllOk P ([impl_answerCodeF n, impl_calc_residualsF n]))) (by kernel_rfl : P.funcs[69]? = some Go.Proofs.Try.f69) (by kernel_rfl) (by kernel_rfl) (by kernel_rfl)
    (fun x y => impl_ResidualsOf_eq n x.1 x.2.1) (fun _ _ => map_same (fun _ => rfl) _) (fun _ _ _ _ => rfl)

abbrev laws_eqFracsp : List Sp := [.v true (.pair (.int .i64) (.int .i64)), .v true (.pair (.int .i64) (.int .i64))]
abbrev laws_eqFracbs : List (Bs × Bool) := []
abbrev laws_eqFracrs : List (Bool × List Rp) := [(false, [.v false .bool])]
noncomputable def laws_eqFrackp : Keep := { loop := fun id => match id with | _ => ([], []), join := fun id => match id with | _ => none }
noncomputable def laws_eqFracc : Code := bodyOf Go.Proofs.Try.f100
noncomputable def laws_eqFracF (n : Nat) : Fun := { id := 100, sp := laws_eqFracsp, bs := laws_eqFracbs, rs := laws_eqFracrs, f := fun x y => laws_eqFrac n x.1 x.2.1 }

theorem laws_eqFrac_eq (n : Nat) (a0 : (Int) × (Int)) (a1 : (Int) × (Int)) : runBody ([]) ty 15 n laws_eqFrackp laws_eqFracc Go.Proofs.Try.f100.results.toList laws_eqFracrs laws_eqFracsp laws_eqFracbs (a0, (a1, ())) () = laws_eqFrac n a0 a1 := by
  have h : runBody ([]) ty 15 n laws_eqFrackp laws_eqFracc Go.Proofs.Try.f100.results.toList laws_eqFracrs laws_eqFracsp laws_eqFracbs (a0, (a1, ())) () = laws_eqFrac_t n a0 a1 := by kernel_rfl
  rw [h]
  rfl

theorem laws_eqFrac_ok (n : Nat) : FunOk P (laws_eqFracF n) :=
  funOk_mk (C := []) (N := 15) (kp := laws_eqFrackp) (c := laws_eqFracc) (n := n) (G := fun x y => laws_eqFrac n x.1 x.2.1) follows (AllOk.mem (trivial : AllOk P ([]))) (by kernel_rfl : P.funcs[100]? = some Go.Proofs.Try.f100) (by kernel_rfl) (by kernel_rfl) (by kernel_rfl)
    (fun x y => laws_eqFrac_eq n x.1 x.2.1) (fun _ _ => map_same (fun _ => rfl) _) (fun _ _ _ _ => rfl)

abbrev laws_eqFracSsp : List Sp := [.v false (.list (.pair (.int .i64) (.int .i64))), .v false (.list (.pair (.int .i64) (.int .i64)))]
abbrev laws_eqFracSbs : List (Bs × Bool) := []
abbrev laws_eqFracSrs : List (Bool × List Rp) := [(false, [.v false .bool])]
noncomputable def laws_eqFracSkp : Keep := { loop := fun id => match id with | 4 => ([5, 1, 0], []) | _ => ([], []), join := fun id => match id with | _ => none }
noncomputable def laws_eqFracSc : Code := bodyOf Go.Proofs.Try.f44
noncomputable def laws_eqFracSF (n : Nat) : Fun := { id := 44, sp := laws_eqFracSsp, bs := laws_eqFracSbs, rs := laws_eqFracSrs, f := fun x y => laws_eqFracS n x.1 x.2.1 }

theorem laws_eqFracS_l4_eq (n : Nat) : ∀ (k : Nat) (v5 : Int) (v1 : List ((Int) × (Int))) (v0 : List ((Int) × (Int))), iter (interp ([laws_eqFracF n]) ty 27 0 n laws_eqFracSkp (codeAt laws_eqFracSc [1, 1, 0, 1, 0, 0])) (canon 0 (laws_eqFracSkp.loop 4)) (kAt ([laws_eqFracF n]) ty 27 0 n laws_eqFracSkp laws_eqFracSc [1, 1, 0, 1, 0] [] (ending ty 0 Go.Proofs.Try.f44.results.toList laws_eqFracSrs laws_eqFracSbs)) k { env := [(5, .one (.sc (.int .i64 v5))), (1, .one (.list true (.pair (.int .i64) (.int .i64)) v1)), (0, .one (.list true (.pair (.int .i64) (.int .i64)) v0))], bx := [], nx := 0 } = laws_eqFracS_l4 n k v5 v1 v0
  | 0, _, _, _ => by kernel_rfl
  | k + 1, v5, v1, v0 => by
    have h : iter (interp ([laws_eqFracF n]) ty 27 0 n laws_eqFracSkp (codeAt laws_eqFracSc [1, 1, 0, 1, 0, 0])) (canon 0 (laws_eqFracSkp.loop 4)) (kAt ([laws_eqFracF n]) ty 27 0 n laws_eqFracSkp laws_eqFracSc [1, 1, 0, 1, 0] [] (ending ty 0 Go.Proofs.Try.f44.results.toList laws_eqFracSrs laws_eqFracSbs)) (k + 1) { env := [(5, .one (.sc (.int .i64 v5))), (1, .one (.list true (.pair (.int .i64) (.int .i64)) v1)), (0, .one (.list true (.pair (.int .i64) (.int .i64)) v0))], bx := [], nx := 0 } = laws_eqFracS_t4 n (fun v5 v1 v0 => iter (interp ([laws_eqFracF n]) ty 27 0 n laws_eqFracSkp (codeAt laws_eqFracSc [1, 1, 0, 1, 0, 0])) (canon 0 (laws_eqFracSkp.loop 4)) (kAt ([laws_eqFracF n]) ty 27 0 n laws_eqFracSkp laws_eqFracSc [1, 1, 0, 1, 0] [] (ending ty 0 Go.Proofs.Try.f44.results.toList laws_eqFracSrs laws_eqFracSbs)) k { env := [(5, .one (.sc (.int .i64 v5))), (1, .one (.list true (.pair (.int .i64) (.int .i64)) v1)), (0, .one (.list true (.pair (.int .i64) (.int .i64)) v0))], bx := [], nx := 0 }) v5 v1 v0 := by kernel_rfl
    rw [h]
    have e := congrArg (fun g => laws_eqFracS_t4 n g v5 v1 v0) (funext fun v5 => funext fun v1 => funext fun v0 => laws_eqFracS_l4_eq n k v5 v1 v0)
    exact e

theorem laws_eqFracS_eq (n : Nat) (a0 : List ((Int) × (Int))) (a1 : List ((Int) × (Int))) : runBody ([laws_eqFracF n]) ty 27 n laws_eqFracSkp laws_eqFracSc Go.Proofs.Try.f44.results.toList laws_eqFracSrs laws_eqFracSsp laws_eqFracSbs (a0, (a1, ())) () = laws_eqFracS n a0 a1 := by
  have h : runBody ([laws_eqFracF n]) ty 27 n laws_eqFracSkp laws_eqFracSc Go.Proofs.Try.f44.results.toList laws_eqFracSrs laws_eqFracSsp laws_eqFracSbs (a0, (a1, ())) () = laws_eqFracS_t n (fun k v5 v1 v0 => iter (interp ([laws_eqFracF n]) ty 27 0 n laws_eqFracSkp (codeAt laws_eqFracSc [1, 1, 0, 1, 0, 0])) (canon 0 (laws_eqFracSkp.loop 4)) (kAt ([laws_eqFracF n]) ty 27 0 n laws_eqFracSkp laws_eqFracSc [1, 1, 0, 1, 0] [] (ending ty 0 Go.Proofs.Try.f44.results.toList laws_eqFracSrs laws_eqFracSbs)) k { env := [(5, .one (.sc (.int .i64 v5))), (1, .one (.list true (.pair (.int .i64) (.int .i64)) v1)), (0, .one (.list true (.pair (.int .i64) (.int .i64)) v0))], bx := [], nx := 0 }) a0 a1 := by kernel_rfl
  rw [h]
  have e := congrArg (fun h4 => laws_eqFracS_t n h4 a0 a1) (funext fun k => funext fun v5 => funext fun v1 => funext fun v0 => laws_eqFracS_l4_eq n k v5 v1 v0)
  exact e

theorem laws_eqFracS_ok (n : Nat) : FunOk P (laws_eqFracSF n) :=
  funOk_mk (C := [laws_eqFracF n]) (N := 27) (kp := laws_eqFracSkp) (c := laws_eqFracSc) (n := n) (G := fun x y => laws_eqFracS n x.1 x.2.1) follows (AllOk.mem (⟨laws_eqFrac_ok n, trivial⟩ : AllOk P ([laws_eqFracF n]))) (by kernel_rfl : P.funcs[44]? = some Go.Proofs.Try.f44) (by kernel_rfl) (by kernel_rfl) (by kernel_rfl)
    (fun x y => laws_eqFracS_eq n x.1 x.2.1) (fun _ _ => map_same (fun _ => rfl) _) (fun _ _ _ _ => rfl)

abbrev laws_eqInt8A6sp : List Sp := [.v true (.pair (.int .i8) (.pair (.int .i8) (.pair (.int .i8) (.pair (.int .i8) (.pair (.int .i8) (.int .i8)))))), .v true (.pair (.int .i8) (.pair (.int .i8) (.pair (.int .i8) (.pair (.int .i8) (.pair (.int .i8) (.int .i8))))))]
abbrev laws_eqInt8A6bs : List (Bs × Bool) := []
abbrev laws_eqInt8A6rs : List (Bool × List Rp) := [(false, [.v false .bool])]
noncomputable def laws_eqInt8A6kp : Keep := { loop := fun id => match id with | 2 => ([5, 3, 2], []) | _ => ([], []), join := fun id => match id with | _ => none }
noncomputable def laws_eqInt8A6c : Code := bodyOf Go.Proofs.Try.f175
noncomputable def laws_eqInt8A6F (n : Nat) : Fun := { id := 175, sp := laws_eqInt8A6sp, bs := laws_eqInt8A6bs, rs := laws_eqInt8A6rs, f := fun x y => laws_eqInt8A6 n x.1 x.2.1 }

theorem laws_eqInt8A6_l2_eq (n : Nat) : ∀ (k : Nat) (v5 : Int) (b0_0 : Int) (b0_1 : Int) (b0_2 : Int) (b0_3 : Int) (b0_4 : Int) (b0_5 : Int) (b1_0 : Int) (b1_1 : Int) (b1_2 : Int) (b1_3 : Int) (b1_4 : Int) (b1_5 : Int), iter (interp ([]) ty 17 0 n laws_eqInt8A6kp (codeAt laws_eqInt8A6c [1, 0, 1, 0, 0])) (canon 0 (laws_eqInt8A6kp.loop 2)) (kAt ([]) ty 17 0 n laws_eqInt8A6kp laws_eqInt8A6c [1, 0, 1, 0] [] (ending ty 0 Go.Proofs.Try.f175.results.toList laws_eqInt8A6rs laws_eqInt8A6bs)) k { env := [(5, .one (.sc (.int .i64 v5))), (3, .one (.ref 0 0 0 0 0 0)), (2, .one (.ref 1 0 0 0 0 0))], bx := [(0, .var 124 [.sc (.int .i8 b0_0), .sc (.int .i8 b0_1), .sc (.int .i8 b0_2), .sc (.int .i8 b0_3), .sc (.int .i8 b0_4), .sc (.int .i8 b0_5)]), (1, .var 124 [.sc (.int .i8 b1_0), .sc (.int .i8 b1_1), .sc (.int .i8 b1_2), .sc (.int .i8 b1_3), .sc (.int .i8 b1_4), .sc (.int .i8 b1_5)])], nx := 2 } = laws_eqInt8A6_l2 n k v5 b0_0 b0_1 b0_2 b0_3 b0_4 b0_5 b1_0 b1_1 b1_2 b1_3 b1_4 b1_5
  | 0, _, _, _, _, _, _, _, _, _, _, _, _, _ => by kernel_rfl
  | k + 1, v5, b0_0, b0_1, b0_2, b0_3, b0_4, b0_5, b1_0, b1_1, b1_2, b1_3, b1_4, b1_5 => by
    have h : iter (interp ([]) ty 17 0 n laws_eqInt8A6kp (codeAt laws_eqInt8A6c [1, 0, 1, 0, 0])) (canon 0 (laws_eqInt8A6kp.loop 2)) (kAt ([]) ty 17 0 n laws_eqInt8A6kp laws_eqInt8A6c [1, 0, 1, 0] [] (ending ty 0 Go.Proofs.Try.f175.results.toList laws_eqInt8A6rs laws_eqInt8A6bs)) (k + 1) { env := [(5, .one (.sc (.int .i64 v5))), (3, .one (.ref 0 0 0 0 0 0)), (2, .one (.ref 1 0 0 0 0 0))], bx := [(0, .var 124 [.sc (.int .i8 b0_0), .sc (.int .i8 b0_1), .sc (.int .i8 b0_2), .sc (.int .i8 b0_3), .sc (.int .i8 b0_4), .sc (.int .i8 b0_5)]), (1, .var 124 [.sc (.int .i8 b1_0), .sc (.int .i8 b1_1), .sc (.int .i8 b1_2), .sc (.int .i8 b1_3), .sc (.int .i8 b1_4), .sc (.int .i8 b1_5)])], nx := 2 } = laws_eqInt8A6_t2 n (fun v5 b0_0 b0_1 b0_2 b0_3 b0_4 b0_5 b1_0 b1_1 b1_2 b1_3 b1_4 b1_5 => iter (interp ([]) ty 17 0 n laws_eqInt8A6kp (codeAt laws_eqInt8A6c [1, 0, 1, 0, 0])) (canon 0 (laws_eqInt8A6kp.loop 2)) (kAt ([]) ty 17 0 n laws_eqInt8A6kp laws_eqInt8A6c [1, 0, 1, 0] [] (ending ty 0 Go.Proofs.Try.f175.results.toList laws_eqInt8A6rs laws_eqInt8A6bs)) k { env := [(5, .one (.sc (.int .i64 v5))), (3, .one (.ref 0 0 0 0 0 0)), (2, .one (.ref 1 0 0 0 0 0))], bx := [(0, .var 124 [.sc (.int .i8 b0_0), .sc (.int .i8 b0_1), .sc (.int .i8 b0_2), .sc (.int .i8 b0_3), .sc (.int .i8 b0_4), .sc (.int .i8 b0_5)]), (1, .var 124 [.sc (.int .i8 b1_0), .sc (.int .i8 b1_1), .sc (.int .i8 b1_2), .sc (.int .i8 b1_3), .sc (.int .i8 b1_4), .sc (.int .i8 b1_5)])], nx := 2 }) v5 b0_0 b0_1 b0_2 b0_3 b0_4 b0_5 b1_0 b1_1 b1_2 b1_3 b1_4 b1_5 := by kernel_rfl
    rw [h]
    have e := congrArg (fun g => laws_eqInt8A6_t2 n g v5 b0_0 b0_1 b0_2 b0_3 b0_4 b0_5 b1_0 b1_1 b1_2 b1_3 b1_4 b1_5) (funext fun v5 => funext fun b0_0 => funext fun b0_1 => funext fun b0_2 => funext fun b0_3 => funext fun b0_4 => funext fun b0_5 => funext fun b1_0 => funext fun b1_1 => funext fun b1_2 => funext fun b1_3 => funext fun b1_4 => funext fun b1_5 => laws_eqInt8A6_l2_eq n k v5 b0_0 b0_1 b0_2 b0_3 b0_4 b0_5 b1_0 b1_1 b1_2 b1_3 b1_4 b1_5)
    exact e

theorem laws_eqInt8A6_eq (n : Nat) (a0 : (Int) × ((Int) × ((Int) × ((Int) × ((Int) × (Int)))))) (a1 : (Int) × ((Int) × ((Int) × ((Int) × ((Int) × (Int)))))) : runBody ([]) ty 17 n laws_eqInt8A6kp laws_eqInt8A6c Go.Proofs.Try.f175.results.toList laws_eqInt8A6rs laws_eqInt8A6sp laws_eqInt8A6bs (a0, (a1, ())) () = laws_eqInt8A6 n a0 a1 := by
  have h : runBody ([]) ty 17 n laws_eqInt8A6kp laws_eqInt8A6c Go.Proofs.Try.f175.results.toList laws_eqInt8A6rs laws_eqInt8A6sp laws_eqInt8A6bs (a0, (a1, ())) () = laws_eqInt8A6_t n (fun k v5 b0_0 b0_1 b0_2 b0_3 b0_4 b0_5 b1_0 b1_1 b1_2 b1_3 b1_4 b1_5 => iter (interp ([]) ty 17 0 n laws_eqInt8A6kp (codeAt laws_eqInt8A6c [1, 0, 1, 0, 0])) (canon 0 (laws_eqInt8A6kp.loop 2)) (kAt ([]) ty 17 0 n laws_eqInt8A6kp laws_eqInt8A6c [1, 0, 1, 0] [] (ending ty 0 Go.Proofs.Try.f175.results.toList laws_eqInt8A6rs laws_eqInt8A6bs)) k { env := [(5, .one (.sc (.int .i64 v5))), (3, .one (.ref 0 0 0 0 0 0)), (2, .one (.ref 1 0 0 0 0 0))], bx := [(0, .var 124 [.sc (.int .i8 b0_0), .sc (.int .i8 b0_1), .sc (.int .i8 b0_2), .sc (.int .i8 b0_3), .sc (.int .i8 b0_4), .sc (.int .i8 b0_5)]), (1, .var 124 [.sc (.int .i8 b1_0), .sc (.int .i8 b1_1), .sc (.int .i8 b1_2), .sc (.int .i8 b1_3), .sc (.int .i8 b1_4), .sc (.int .i8 b1_5)])], nx := 2 }) a0 a1 := by kernel_rfl
  rw [h]
  have e := congrArg (fun h2 => laws_eqInt8A6_t n h2 a0 a1) (funext fun k => funext fun v5 => funext fun b0_0 => funext fun b0_1 => funext fun b0_2 => funext fun b0_3 => funext fun b0_4 => funext fun b0_5 => funext fun b1_0 => funext fun b1_1 => funext fun b1_2 => funext fun b1_3 => funext fun b1_4 => funext fun b1_5 => laws_eqInt8A6_l2_eq n k v5 b0_0 b0_1 b0_2 b0_3 b0_4 b0_5 b1_0 b1_1 b1_2 b1_3 b1_4 b1_5)
  exact e

theorem laws_eqInt8A6_ok (n : Nat) : FunOk P (laws_eqInt8A6F n) :=
  funOk_mk (C := []) (N := 17) (kp := laws_eqInt8A6kp) (c := laws_eqInt8A6c) (n := n) (G := fun x y => laws_eqInt8A6 n x.1 x.2.1) follows (AllOk.mem (trivial : AllOk P ([]))) (by kernel_rfl : P.funcs[175]? = some Go.Proofs.Try.f175) (by kernel_rfl) (by kernel_rfl) (by kernel_rfl)
    (fun x y => laws_eqInt8A6_eq n x.1 x.2.1) (fun _ _ => map_same (fun _ => rfl) _) (fun _ _ _ _ => rfl)

abbrev laws_eqObssp : List Sp := [.v true (.pair (.pair (.int .i8) (.pair (.int .i8) (.pair (.int .i8) (.pair (.int .i8) (.pair (.int .i8) (.int .i8)))))) (.pair (.pair (.int .i64) (.int .i64)) (.int .i64))), .v true (.pair (.pair (.int .i8) (.pair (.int .i8) (.pair (.int .i8) (.pair (.int .i8) (.pair (.int .i8) (.int .i8)))))) (.pair (.pair (.int .i64) (.int .i64)) (.int .i64)))]
abbrev laws_eqObsbs : List (Bs × Bool) := []
abbrev laws_eqObsrs : List (Bool × List Rp) := [(false, [.v false .bool])]
noncomputable def laws_eqObskp : Keep := { loop := fun id => match id with | _ => ([], []), join := fun id => match id with | _ => none }
noncomputable def laws_eqObsc : Code := bodyOf Go.Proofs.Try.f148
noncomputable def laws_eqObsF (n : Nat) : Fun := { id := 148, sp := laws_eqObssp, bs := laws_eqObsbs, rs := laws_eqObsrs, f := fun x y => laws_eqObs n x.1 x.2.1 }

theorem laws_eqObs_eq (n : Nat) (a0 : ((Int) × ((Int) × ((Int) × ((Int) × ((Int) × (Int)))))) × (((Int) × (Int)) × (Int))) (a1 : ((Int) × ((Int) × ((Int) × ((Int) × ((Int) × (Int)))))) × (((Int) × (Int)) × (Int))) : runBody ([laws_eqInt8A6F n, laws_eqFracF n]) ty 22 n laws_eqObskp laws_eqObsc Go.Proofs.Try.f148.results.toList laws_eqObsrs laws_eqObssp laws_eqObsbs (a0, (a1, ())) () = laws_eqObs n a0 a1 := by
  have h : runBody ([laws_eqInt8A6F n, laws_eqFracF n]) ty 22 n laws_eqObskp laws_eqObsc Go.Proofs.Try.f148.results.toList laws_eqObsrs laws_eqObssp laws_eqObsbs (a0, (a1, ())) () = laws_eqObs_t n a0 a1 := by kernel_rfl
  rw [h]
  rfl

theorem laws_eqObs_ok (n : Nat) : FunOk P (laws_eqObsF n) :=
  funOk_mk (C := [laws_eqInt8A6F n, laws_eqFracF n]) (N := 22) (kp := laws_eqObskp) (c := laws_eqObsc) (n := n) (G := fun x y => laws_eqObs n x.1 x.2.1) follows (AllOk.mem (⟨laws_eqInt8A6_ok n, ⟨laws_eqFrac_ok n, trivial⟩⟩ : AllOk P ([laws_eqInt8A6F n, laws_eqFracF n]))) (by kernel_rfl : P.funcs[148]? = some Go.Proofs.Try.f148) (by kernel_rfl) (by kernel_rfl) (by kernel_rfl)
    (fun x y => laws_eqObs_eq n x.1 x.2.1) (fun _ _ => map_same (fun _ => rfl) _) (fun _ _ _ _ => rfl)

abbrev laws_eqObsSsp : List Sp := [.v false (.list (.pair (.pair (.int .i8) (.pair (.int .i8) (.pair (.int .i8) (.pair (.int .i8) (.pair (.int .i8) (.int .i8)))))) (.pair (.pair (.int .i64) (.int .i64)) (.int .i64)))), .v false (.list (.pair (.pair (.int .i8) (.pair (.int .i8) (.pair (.int .i8) (.pair (.int .i8) (.pair (.int .i8) (.int .i8)))))) (.pair (.pair (.int .i64) (.int .i64)) (.int .i64))))]
abbrev laws_eqObsSbs : List (Bs × Bool) := []
abbrev laws_eqObsSrs : List (Bool × List Rp) := [(false, [.v false .bool])]
noncomputable def laws_eqObsSkp : Keep := { loop := fun id => match id with | 4 => ([5, 1, 0], []) | _ => ([], []), join := fun id => match id with | _ => none }
noncomputable def laws_eqObsSc : Code := bodyOf Go.Proofs.Try.f99
noncomputable def laws_eqObsSF (n : Nat) : Fun := { id := 99, sp := laws_eqObsSsp, bs := laws_eqObsSbs, rs := laws_eqObsSrs, f := fun x y => laws_eqObsS n x.1 x.2.1 }

theorem laws_eqObsS_l4_eq (n : Nat) : ∀ (k : Nat) (v5 : Int) (v1 : List (((Int) × ((Int) × ((Int) × ((Int) × ((Int) × (Int)))))) × (((Int) × (Int)) × (Int)))) (v0 : List (((Int) × ((Int) × ((Int) × ((Int) × ((Int) × (Int)))))) × (((Int) × (Int)) × (Int)))), iter (interp ([laws_eqObsF n]) ty 27 0 n laws_eqObsSkp (codeAt laws_eqObsSc [1, 1, 0, 1, 0, 0])) (canon 0 (laws_eqObsSkp.loop 4)) (kAt ([laws_eqObsF n]) ty 27 0 n laws_eqObsSkp laws_eqObsSc [1, 1, 0, 1, 0] [] (ending ty 0 Go.Proofs.Try.f99.results.toList laws_eqObsSrs laws_eqObsSbs)) k { env := [(5, .one (.sc (.int .i64 v5))), (1, .one (.list true (.pair (.pair (.int .i8) (.pair (.int .i8) (.pair (.int .i8) (.pair (.int .i8) (.pair (.int .i8) (.int .i8)))))) (.pair (.pair (.int .i64) (.int .i64)) (.int .i64))) v1)), (0, .one (.list true (.pair (.pair (.int .i8) (.pair (.int .i8) (.pair (.int .i8) (.pair (.int .i8) (.pair (.int .i8) (.int .i8)))))) (.pair (.pair (.int .i64) (.int .i64)) (.int .i64))) v0))], bx := [], nx := 0 } = laws_eqObsS_l4 n k v5 v1 v0
  | 0, _, _, _ => by kernel_rfl
  | k + 1, v5, v1, v0 => by
    have h : iter (interp ([laws_eqObsF n]) ty 27 0 n laws_eqObsSkp (codeAt laws_eqObsSc [1, 1, 0, 1, 0, 0])) (canon 0 (laws_eqObsSkp.loop 4)) (kAt ([laws_eqObsF n]) ty 27 0 n laws_eqObsSkp laws_eqObsSc [1, 1, 0, 1, 0] [] (ending ty 0 Go.Proofs.Try.f99.results.toList laws_eqObsSrs laws_eqObsSbs)) (k + 1) { env := [(5, .one (.sc (.int .i64 v5))), (1, .one (.list true (.pair (.pair (.int .i8) (.pair (.int .i8) (.pair (.int .i8) (.pair (.int .i8) (.pair (.int .i8) (.int .i8)))))) (.pair (.pair (.int .i64) (.int .i64)) (.int .i64))) v1)), (0, .one (.list true (.pair (.pair (.int .i8) (.pair (.int .i8) (.pair (.int .i8) (.pair (.int .i8) (.pair (.int .i8) (.int .i8)))))) (.pair (.pair (.int .i64) (.int .i64)) (.int .i64))) v0))], bx := [], nx := 0 } = laws_eqObsS_t4 n (fun v5 v1 v0 => iter (interp ([laws_eqObsF n]) ty 27 0 n laws_eqObsSkp (codeAt laws_eqObsSc [1, 1, 0, 1, 0, 0])) (canon 0 (laws_eqObsSkp.loop 4)) (kAt ([laws_eqObsF n]) ty 27 0 n laws_eqObsSkp laws_eqObsSc [1, 1, 0, 1, 0] [] (ending ty 0 Go.Proofs.Try.f99.results.toList laws_eqObsSrs laws_eqObsSbs)) k { env := [(5, .one (.sc (.int .i64 v5))), (1, .one (.list true (.pair (.pair (.int .i8) (.pair (.int .i8) (.pair (.int .i8) (.pair (.int .i8) (.pair (.int .i8) (.int .i8)))))) (.pair (.pair (.int .i64) (.int .i64)) (.int .i64))) v1)), (0, .one (.list true (.pair (.pair (.int .i8) (.pair (.int .i8) (.pair (.int .i8) (.pair (.int .i8) (.pair (.int .i8) (.int .i8)))))) (.pair (.pair (.int .i64) (.int .i64)) (.int .i64))) v0))], bx := [], nx := 0 }) v5 v1 v0 := by kernel_rfl
    rw [h]
    have e := congrArg (fun g => laws_eqObsS_t4 n g v5 v1 v0) (funext fun v5 => funext fun v1 => funext fun v0 => laws_eqObsS_l4_eq n k v5 v1 v0)
    exact e

theorem laws_eqObsS_eq (n : Nat) (a0 : List (((Int) × ((Int) × ((Int) × ((Int) × ((Int) × (Int)))))) × (((Int) × (Int)) × (Int)))) (a1 : List (((Int) × ((Int) × ((Int) × ((Int) × ((Int) × (Int)))))) × (((Int) × (Int)) × (Int)))) : runBody ([laws_eqObsF n]) ty 27 n laws_eqObsSkp laws_eqObsSc Go.Proofs.Try.f99.results.toList laws_eqObsSrs laws_eqObsSsp laws_eqObsSbs (a0, (a1, ())) () = laws_eqObsS n a0 a1 := by
  have h : runBody ([laws_eqObsF n]) ty 27 n laws_eqObsSkp laws_eqObsSc Go.Proofs.Try.f99.results.toList laws_eqObsSrs laws_eqObsSsp laws_eqObsSbs (a0, (a1, ())) () = laws_eqObsS_t n (fun k v5 v1 v0 => iter (interp ([laws_eqObsF n]) ty 27 0 n laws_eqObsSkp (codeAt laws_eqObsSc [1, 1, 0, 1, 0, 0])) (canon 0 (laws_eqObsSkp.loop 4)) (kAt ([laws_eqObsF n]) ty 27 0 n laws_eqObsSkp laws_eqObsSc [1, 1, 0, 1, 0] [] (ending ty 0 Go.Proofs.Try.f99.results.toList laws_eqObsSrs laws_eqObsSbs)) k { env := [(5, .one (.sc (.int .i64 v5))), (1, .one (.list true (.pair (.pair (.int .i8) (.pair (.int .i8) (.pair (.int .i8) (.pair (.int .i8) (.pair (.int .i8) (.int .i8)))))) (.pair (.pair (.int .i64) (.int .i64)) (.int .i64))) v1)), (0, .one (.list true (.pair (.pair (.int .i8) (.pair (.int .i8) (.pair (.int .i8) (.pair (.int .i8) (.pair (.int .i8) (.int .i8)))))) (.pair (.pair (.int .i64) (.int .i64)) (.int .i64))) v0))], bx := [], nx := 0 }) a0 a1 := by kernel_rfl
  rw [h]
  have e := congrArg (fun h4 => laws_eqObsS_t n h4 a0 a1) (funext fun k => funext fun v5 => funext fun v1 => funext fun v0 => laws_eqObsS_l4_eq n k v5 v1 v0)
  exact e

theorem laws_eqObsS_ok (n : Nat) : FunOk P (laws_eqObsSF n) :=
  funOk_mk (C := [laws_eqObsF n]) (N := 27) (kp := laws_eqObsSkp) (c := laws_eqObsSc) (n := n) (G := fun x y => laws_eqObsS n x.1 x.2.1) follows (AllOk.mem (⟨laws_eqObs_ok n, trivial⟩ : AllOk P ([laws_eqObsF n]))) (by kernel_rfl : P.funcs[99]? = some Go.Proofs.Try.f99) (by kernel_rfl) (by kernel_rfl) (by kernel_rfl)
    (fun x y => laws_eqObsS_eq n x.1 x.2.1) (fun _ _ => map_same (fun _ => rfl) _) (fun _ _ _ _ => rfl)

abbrev laws_eqTablesp : List Sp := [.v true (.pair (.int .i64) (.pair (.list (.pair (.pair (.int .i8) (.pair (.int .i8) (.pair (.int .i8) (.pair (.int .i8) (.pair (.int .i8) (.int .i8)))))) (.pair (.pair (.int .i64) (.int .i64)) (.int .i64)))) (.pair .bool (.pair (.int .i64) (.int .i64))))), .v true (.pair (.int .i64) (.pair (.list (.pair (.pair (.int .i8) (.pair (.int .i8) (.pair (.int .i8) (.pair (.int .i8) (.pair (.int .i8) (.int .i8)))))) (.pair (.pair (.int .i64) (.int .i64)) (.int .i64)))) (.pair .bool (.pair (.int .i64) (.int .i64)))))]
abbrev laws_eqTablebs : List (Bs × Bool) := []
abbrev laws_eqTablers : List (Bool × List Rp) := [(false, [.v false .bool])]
noncomputable def laws_eqTablekp : Keep := { loop := fun id => match id with | _ => ([], []), join := fun id => match id with | _ => none }
noncomputable def laws_eqTablec : Code := bodyOf Go.Proofs.Try.f43
noncomputable def laws_eqTableF (n : Nat) : Fun := { id := 43, sp := laws_eqTablesp, bs := laws_eqTablebs, rs := laws_eqTablers, f := fun x y => laws_eqTable n x.1 x.2.1 }

theorem laws_eqTable_eq (n : Nat) (a0 : (Int) × ((List (((Int) × ((Int) × ((Int) × ((Int) × ((Int) × (Int)))))) × (((Int) × (Int)) × (Int)))) × ((Bool) × ((Int) × (Int))))) (a1 : (Int) × ((List (((Int) × ((Int) × ((Int) × ((Int) × ((Int) × (Int)))))) × (((Int) × (Int)) × (Int)))) × ((Bool) × ((Int) × (Int))))) : runBody ([laws_eqObsSF n, laws_eqFracF n]) ty 27 n laws_eqTablekp laws_eqTablec Go.Proofs.Try.f43.results.toList laws_eqTablers laws_eqTablesp laws_eqTablebs (a0, (a1, ())) () = laws_eqTable n a0 a1 := by
  have h : runBody ([laws_eqObsSF n, laws_eqFracF n]) ty 27 n laws_eqTablekp laws_eqTablec Go.Proofs.Try.f43.results.toList laws_eqTablers laws_eqTablesp laws_eqTablebs (a0, (a1, ())) () = laws_eqTable_t n a0 a1 := by kernel_rfl
  rw [h]
  rfl

theorem laws_eqTable_ok (n : Nat) : FunOk P (laws_eqTableF n) :=
  funOk_mk (C := [laws_eqObsSF n, laws_eqFracF n]) (N := 27) (kp := laws_eqTablekp) (c := laws_eqTablec) (n := n) (G := fun x y => laws_eqTable n x.1 x.2.1) follows (AllOk.mem (⟨laws_eqObsS_ok n, ⟨laws_eqFrac_ok n, trivial⟩⟩ : AllOk P ([laws_eqObsSF n, laws_eqFracF n]))) (by kernel_rfl : P.funcs[43]? = some Go.Proofs.Try.f43) (by kernel_rfl) (by kernel_rfl) (by kernel_rfl)
    (fun x y => laws_eqTable_eq n x.1 x.2.1) (fun _ _ => map_same (fun _ => rfl) _) (fun _ _ _ _ => rfl)

abbrev laws_markObsSsp : List Sp := [.sl 0, .v false (.int .i64)]
abbrev laws_markObsSbs : List (Bs × Bool) := [(.row  (.pair (.pair (.int .i8) (.pair (.int .i8) (.pair (.int .i8) (.pair (.int .i8) (.pair (.int .i8) (.int .i8)))))) (.pair (.pair (.int .i64) (.int .i64)) (.int .i64))), true)]
abbrev laws_markObsSrs : List (Bool × List Rp) := [(false, [.v false (.int .i64)])]
noncomputable def laws_markObsSkp : Keep := { loop := fun id => match id with | 2 => ([1, 5, 0], []) | 5 => ([6, 1, 5, 0], []) | _ => ([], []), join := fun id => match id with | _ => none }
noncomputable def laws_markObsSc : Code := bodyOf Go.Proofs.Try.f101
noncomputable def laws_markObsSF (n : Nat) : Fun := { id := 101, sp := laws_markObsSsp, bs := laws_markObsSbs, rs := laws_markObsSrs, f := fun x y => laws_markObsS n x.2.1 y.1 }

theorem laws_markObsS_l5_eq (n : Nat) (G2 : St → Option ((((Int) × (Unit)) × (Unit)) × ((List (((Int) × ((Int) × ((Int) × ((Int) × ((Int) × (Int)))))) × (((Int) × (Int)) × (Int)))) × (Unit)))) : ∀ (k : Nat) (v6 : Int) (v1 : Int) (v5 : Int) (b0 : List (((Int) × ((Int) × ((Int) × ((Int) × ((Int) × (Int)))))) × (((Int) × (Int)) × (Int)))), iter (interp ([]) ty 51 1 n laws_markObsSkp (codeAt laws_markObsSc [1, 0, 1, 0, 0, 1, 0, 0, 0, 1, 0, 0])) (canon 1 (laws_markObsSkp.loop 5)) (kAt ([]) ty 51 1 n laws_markObsSkp laws_markObsSc [1, 0, 1, 0, 0, 1, 0, 0, 0, 1, 0] [G2] (ending ty 1 Go.Proofs.Try.f101.results.toList laws_markObsSrs laws_markObsSbs)) k { env := [(6, .one (.sc (.int .i64 v6))), (1, .one (.sc (.int .i64 v1))), (5, .one (.sc (.int .i64 v5))), (0, .one (.slice 0 0 none))], bx := [(0, .row 0 (.pair (.pair (.int .i8) (.pair (.int .i8) (.pair (.int .i8) (.pair (.int .i8) (.pair (.int .i8) (.int .i8)))))) (.pair (.pair (.int .i64) (.int .i64)) (.int .i64))) b0)], nx := 1 } = laws_markObsS_l5 n (fun v1 v5 b0 => G2 { env := [(1, .one (.sc (.int .i64 v1))), (5, .one (.sc (.int .i64 v5))), (0, .one (.slice 0 0 none))], bx := [(0, .row 0 (.pair (.pair (.int .i8) (.pair (.int .i8) (.pair (.int .i8) (.pair (.int .i8) (.pair (.int .i8) (.int .i8)))))) (.pair (.pair (.int .i64) (.int .i64)) (.int .i64))) b0)], nx := 1 }) k v6 v1 v5 b0
  | 0, _, _, _, _ => by kernel_rfl
  | k + 1, v6, v1, v5, b0 => by
    have h : iter (interp ([]) ty 51 1 n laws_markObsSkp (codeAt laws_markObsSc [1, 0, 1, 0, 0, 1, 0, 0, 0, 1, 0, 0])) (canon 1 (laws_markObsSkp.loop 5)) (kAt ([]) ty 51 1 n laws_markObsSkp laws_markObsSc [1, 0, 1, 0, 0, 1, 0, 0, 0, 1, 0] [G2] (ending ty 1 Go.Proofs.Try.f101.results.toList laws_markObsSrs laws_markObsSbs)) (k + 1) { env := [(6, .one (.sc (.int .i64 v6))), (1, .one (.sc (.int .i64 v1))), (5, .one (.sc (.int .i64 v5))), (0, .one (.slice 0 0 none))], bx := [(0, .row 0 (.pair (.pair (.int .i8) (.pair (.int .i8) (.pair (.int .i8) (.pair (.int .i8) (.pair (.int .i8) (.int .i8)))))) (.pair (.pair (.int .i64) (.int .i64)) (.int .i64))) b0)], nx := 1 } = laws_markObsS_t5 n (fun v1 v5 b0 => G2 { env := [(1, .one (.sc (.int .i64 v1))), (5, .one (.sc (.int .i64 v5))), (0, .one (.slice 0 0 none))], bx := [(0, .row 0 (.pair (.pair (.int .i8) (.pair (.int .i8) (.pair (.int .i8) (.pair (.int .i8) (.pair (.int .i8) (.int .i8)))))) (.pair (.pair (.int .i64) (.int .i64)) (.int .i64))) b0)], nx := 1 }) (fun v6 v1 v5 b0 => iter (interp ([]) ty 51 1 n laws_markObsSkp (codeAt laws_markObsSc [1, 0, 1, 0, 0, 1, 0, 0, 0, 1, 0, 0])) (canon 1 (laws_markObsSkp.loop 5)) (kAt ([]) ty 51 1 n laws_markObsSkp laws_markObsSc [1, 0, 1, 0, 0, 1, 0, 0, 0, 1, 0] [G2] (ending ty 1 Go.Proofs.Try.f101.results.toList laws_markObsSrs laws_markObsSbs)) k { env := [(6, .one (.sc (.int .i64 v6))), (1, .one (.sc (.int .i64 v1))), (5, .one (.sc (.int .i64 v5))), (0, .one (.slice 0 0 none))], bx := [(0, .row 0 (.pair (.pair (.int .i8) (.pair (.int .i8) (.pair (.int .i8) (.pair (.int .i8) (.pair (.int .i8) (.int .i8)))))) (.pair (.pair (.int .i64) (.int .i64)) (.int .i64))) b0)], nx := 1 }) v6 v1 v5 b0 := by kernel_rfl
    rw [h]
    have e := congrArg (fun g => laws_markObsS_t5 n (fun v1 v5 b0 => G2 { env := [(1, .one (.sc (.int .i64 v1))), (5, .one (.sc (.int .i64 v5))), (0, .one (.slice 0 0 none))], bx := [(0, .row 0 (.pair (.pair (.int .i8) (.pair (.int .i8) (.pair (.int .i8) (.pair (.int .i8) (.pair (.int .i8) (.int .i8)))))) (.pair (.pair (.int .i64) (.int .i64)) (.int .i64))) b0)], nx := 1 }) g v6 v1 v5 b0) (funext fun v6 => funext fun v1 => funext fun v5 => funext fun b0 => laws_markObsS_l5_eq n G2 k v6 v1 v5 b0)
    exact e

theorem laws_markObsS_l2_eq (n : Nat) : ∀ (k : Nat) (v1 : Int) (v5 : Int) (b0 : List (((Int) × ((Int) × ((Int) × ((Int) × ((Int) × (Int)))))) × (((Int) × (Int)) × (Int)))), iter (interp ([]) ty 51 1 n laws_markObsSkp (codeAt laws_markObsSc [1, 0, 1, 0, 0])) (canon 1 (laws_markObsSkp.loop 2)) (kAt ([]) ty 51 1 n laws_markObsSkp laws_markObsSc [1, 0, 1, 0] [] (ending ty 1 Go.Proofs.Try.f101.results.toList laws_markObsSrs laws_markObsSbs)) k { env := [(1, .one (.sc (.int .i64 v1))), (5, .one (.sc (.int .i64 v5))), (0, .one (.slice 0 0 none))], bx := [(0, .row 0 (.pair (.pair (.int .i8) (.pair (.int .i8) (.pair (.int .i8) (.pair (.int .i8) (.pair (.int .i8) (.int .i8)))))) (.pair (.pair (.int .i64) (.int .i64)) (.int .i64))) b0)], nx := 1 } = laws_markObsS_l2 n k v1 v5 b0
  | 0, _, _, _ => by kernel_rfl
  | k + 1, v1, v5, b0 => by
    have h : iter (interp ([]) ty 51 1 n laws_markObsSkp (codeAt laws_markObsSc [1, 0, 1, 0, 0])) (canon 1 (laws_markObsSkp.loop 2)) (kAt ([]) ty 51 1 n laws_markObsSkp laws_markObsSc [1, 0, 1, 0] [] (ending ty 1 Go.Proofs.Try.f101.results.toList laws_markObsSrs laws_markObsSbs)) (k + 1) { env := [(1, .one (.sc (.int .i64 v1))), (5, .one (.sc (.int .i64 v5))), (0, .one (.slice 0 0 none))], bx := [(0, .row 0 (.pair (.pair (.int .i8) (.pair (.int .i8) (.pair (.int .i8) (.pair (.int .i8) (.pair (.int .i8) (.int .i8)))))) (.pair (.pair (.int .i64) (.int .i64)) (.int .i64))) b0)], nx := 1 } = laws_markObsS_t2 n (fun k' v6 v1 v5 b0 => iter (interp ([]) ty 51 1 n laws_markObsSkp (codeAt laws_markObsSc [1, 0, 1, 0, 0, 1, 0, 0, 0, 1, 0, 0])) (canon 1 (laws_markObsSkp.loop 5)) (kAt ([]) ty 51 1 n laws_markObsSkp laws_markObsSc [1, 0, 1, 0, 0, 1, 0, 0, 0, 1, 0] [(fun s => iter (interp ([]) ty 51 1 n laws_markObsSkp (codeAt laws_markObsSc [1, 0, 1, 0, 0])) (canon 1 (laws_markObsSkp.loop 2)) (kAt ([]) ty 51 1 n laws_markObsSkp laws_markObsSc [1, 0, 1, 0] [] (ending ty 1 Go.Proofs.Try.f101.results.toList laws_markObsSrs laws_markObsSbs)) k s)] (ending ty 1 Go.Proofs.Try.f101.results.toList laws_markObsSrs laws_markObsSbs)) k' { env := [(6, .one (.sc (.int .i64 v6))), (1, .one (.sc (.int .i64 v1))), (5, .one (.sc (.int .i64 v5))), (0, .one (.slice 0 0 none))], bx := [(0, .row 0 (.pair (.pair (.int .i8) (.pair (.int .i8) (.pair (.int .i8) (.pair (.int .i8) (.pair (.int .i8) (.int .i8)))))) (.pair (.pair (.int .i64) (.int .i64)) (.int .i64))) b0)], nx := 1 }) (fun v1 v5 b0 => iter (interp ([]) ty 51 1 n laws_markObsSkp (codeAt laws_markObsSc [1, 0, 1, 0, 0])) (canon 1 (laws_markObsSkp.loop 2)) (kAt ([]) ty 51 1 n laws_markObsSkp laws_markObsSc [1, 0, 1, 0] [] (ending ty 1 Go.Proofs.Try.f101.results.toList laws_markObsSrs laws_markObsSbs)) k { env := [(1, .one (.sc (.int .i64 v1))), (5, .one (.sc (.int .i64 v5))), (0, .one (.slice 0 0 none))], bx := [(0, .row 0 (.pair (.pair (.int .i8) (.pair (.int .i8) (.pair (.int .i8) (.pair (.int .i8) (.pair (.int .i8) (.int .i8)))))) (.pair (.pair (.int .i64) (.int .i64)) (.int .i64))) b0)], nx := 1 }) v1 v5 b0 := by kernel_rfl
    rw [h]
    have e := congr (congrArg (fun h5 g => laws_markObsS_t2 n h5 g v1 v5 b0) ((funext fun k' => funext fun v6 => funext fun v1 => funext fun v5 => funext fun b0 => laws_markObsS_l5_eq n (fun s => iter (interp ([]) ty 51 1 n laws_markObsSkp (codeAt laws_markObsSc [1, 0, 1, 0, 0])) (canon 1 (laws_markObsSkp.loop 2)) (kAt ([]) ty 51 1 n laws_markObsSkp laws_markObsSc [1, 0, 1, 0] [] (ending ty 1 Go.Proofs.Try.f101.results.toList laws_markObsSrs laws_markObsSbs)) k s) k' v6 v1 v5 b0).trans (congrArg (fun z => laws_markObsS_l5 n z) (funext fun v1 => funext fun v5 => funext fun b0 => laws_markObsS_l2_eq n k v1 v5 b0)))) (funext fun v1 => funext fun v5 => funext fun b0 => laws_markObsS_l2_eq n k v1 v5 b0)
    exact e

theorem laws_markObsS_eq (n : Nat) (a1 : Int) (b0 : List (((Int) × ((Int) × ((Int) × ((Int) × ((Int) × (Int)))))) × (((Int) × (Int)) × (Int)))) : runBody ([]) ty 51 n laws_markObsSkp laws_markObsSc Go.Proofs.Try.f101.results.toList laws_markObsSrs laws_markObsSsp laws_markObsSbs ((), (a1, ())) (b0, ()) = laws_markObsS n a1 b0 := by
  have h : runBody ([]) ty 51 n laws_markObsSkp laws_markObsSc Go.Proofs.Try.f101.results.toList laws_markObsSrs laws_markObsSsp laws_markObsSbs ((), (a1, ())) (b0, ()) = laws_markObsS_t n (fun k v1 v5 b0 => iter (interp ([]) ty 51 1 n laws_markObsSkp (codeAt laws_markObsSc [1, 0, 1, 0, 0])) (canon 1 (laws_markObsSkp.loop 2)) (kAt ([]) ty 51 1 n laws_markObsSkp laws_markObsSc [1, 0, 1, 0] [] (ending ty 1 Go.Proofs.Try.f101.results.toList laws_markObsSrs laws_markObsSbs)) k { env := [(1, .one (.sc (.int .i64 v1))), (5, .one (.sc (.int .i64 v5))), (0, .one (.slice 0 0 none))], bx := [(0, .row 0 (.pair (.pair (.int .i8) (.pair (.int .i8) (.pair (.int .i8) (.pair (.int .i8) (.pair (.int .i8) (.int .i8)))))) (.pair (.pair (.int .i64) (.int .i64)) (.int .i64))) b0)], nx := 1 }) a1 b0 := by kernel_rfl
  rw [h]
  have e := congrArg (fun h2 => laws_markObsS_t n h2 a1 b0) (funext fun k => funext fun v1 => funext fun v5 => funext fun b0 => laws_markObsS_l2_eq n k v1 v5 b0)
  exact e

theorem laws_markObsS_ok (n : Nat) : FunOk P (laws_markObsSF n) :=
  funOk_mk (C := []) (N := 51) (kp := laws_markObsSkp) (c := laws_markObsSc) (n := n) (G := fun x y => laws_markObsS n x.2.1 y.1) follows (AllOk.mem (trivial : AllOk P ([]))) (by kernel_rfl : P.funcs[101]? = some Go.Proofs.Try.f101) (by kernel_rfl) (by kernel_rfl) (by kernel_rfl)
    (fun x y => laws_markObsS_eq n x.2.1 y.1) (fun _ _ => map_same (fun _ => rfl) _) (fun _ _ _ _ => rfl)

abbrev laws_markTablesp : List Sp := [.rc [.v (.int .i64), .sl 0, .v (.pair .bool (.pair (.int .i64) (.int .i64)))], .v false (.int .i64)]
abbrev laws_markTablebs : List (Bs × Bool) := [(.row (.pair (.pair (.int .i8) (.pair (.int .i8) (.pair (.int .i8) (.pair (.int .i8) (.pair (.int .i8) (.int .i8)))))) (.pair (.pair (.int .i64) (.int .i64)) (.int .i64))), true)]
abbrev laws_markTablers : List (Bool × List Rp) := [(false, [.v false (.int .i64)])]
noncomputable def laws_markTablekp : Keep := { loop := fun id => match id with | _ => ([], []), join := fun id => match id with | _ => none }
noncomputable def laws_markTablec : Code := bodyOf Go.Proofs.Try.f46
noncomputable def laws_markTableF (n : Nat) : Fun := { id := 46, sp := laws_markTablesp, bs := laws_markTablebs, rs := laws_markTablers, f := fun x y => laws_markTable n x.1 x.2.1 y.1 }

theorem laws_markTable_eq (n : Nat) (a0 : (Int) × (((Bool) × ((Int) × (Int))) × (Unit))) (a1 : Int) (b0 : List (((Int) × ((Int) × ((Int) × ((Int) × ((Int) × (Int)))))) × (((Int) × (Int)) × (Int)))) : runBody ([laws_markObsSF n]) ty 10 n laws_markTablekp laws_markTablec Go.Proofs.Try.f46.results.toList laws_markTablers laws_markTablesp laws_markTablebs (a0, (a1, ())) (b0, ()) = laws_markTable n a0 a1 b0 := by
  have h : runBody ([laws_markObsSF n]) ty 10 n laws_markTablekp laws_markTablec Go.Proofs.Try.f46.results.toList laws_markTablers laws_markTablesp laws_markTablebs (a0, (a1, ())) (b0, ()) = laws_markTable_t n a0 a1 b0 := by kernel_rfl
  rw [h]
  rfl

theorem laws_markTable_ok (n : Nat) : FunOk P (laws_markTableF n) :=
  funOk_mk (C := [laws_markObsSF n]) (N := 10) (kp := laws_markTablekp) (c := laws_markTablec) (n := n) (G := fun x y => laws_markTable n x.1 x.2.1 y.1) follows (AllOk.mem (⟨laws_markObsS_ok n, trivial⟩ : AllOk P ([laws_markObsSF n]))) (by kernel_rfl : P.funcs[46]? = some Go.Proofs.Try.f46) (by kernel_rfl) (by kernel_rfl) (by kernel_rfl)
    (fun x y => laws_markTable_eq n x.1 x.2.1 y.1) (fun _ _ => map_same (fun _ => rfl) _) (fun _ _ _ _ => rfl)

abbrev laws_markFracSsp : List Sp := [.sl 0, .v false (.int .i64)]
abbrev laws_markFracSbs : List (Bs × Bool) := [(.row  (.pair (.int .i64) (.int .i64)), true)]
abbrev laws_markFracSrs : List (Bool × List Rp) := [(false, [.v false (.int .i64)])]
noncomputable def laws_markFracSkp : Keep := { loop := fun id => match id with | 2 => ([5, 0, 1], []) | _ => ([], []), join := fun id => match id with | _ => none }
noncomputable def laws_markFracSc : Code := bodyOf Go.Proofs.Try.f45
noncomputable def laws_markFracSF (n : Nat) : Fun := { id := 45, sp := laws_markFracSsp, bs := laws_markFracSbs, rs := laws_markFracSrs, f := fun x y => laws_markFracS n x.2.1 y.1 }

theorem laws_markFracS_l2_eq (n : Nat) : ∀ (k : Nat) (v5 : Int) (v1 : Int) (b0 : List ((Int) × (Int))), iter (interp ([]) ty 27 1 n laws_markFracSkp (codeAt laws_markFracSc [1, 0, 1, 0, 0])) (canon 1 (laws_markFracSkp.loop 2)) (kAt ([]) ty 27 1 n laws_markFracSkp laws_markFracSc [1, 0, 1, 0] [] (ending ty 1 Go.Proofs.Try.f45.results.toList laws_markFracSrs laws_markFracSbs)) k { env := [(5, .one (.sc (.int .i64 v5))), (0, .one (.slice 0 0 none)), (1, .one (.sc (.int .i64 v1)))], bx := [(0, .row 0 (.pair (.int .i64) (.int .i64)) b0)], nx := 1 } = laws_markFracS_l2 n k v5 v1 b0
  | 0, _, _, _ => by kernel_rfl
  | k + 1, v5, v1, b0 => by
    have h : iter (interp ([]) ty 27 1 n laws_markFracSkp (codeAt laws_markFracSc [1, 0, 1, 0, 0])) (canon 1 (laws_markFracSkp.loop 2)) (kAt ([]) ty 27 1 n laws_markFracSkp laws_markFracSc [1, 0, 1, 0] [] (ending ty 1 Go.Proofs.Try.f45.results.toList laws_markFracSrs laws_markFracSbs)) (k + 1) { env := [(5, .one (.sc (.int .i64 v5))), (0, .one (.slice 0 0 none)), (1, .one (.sc (.int .i64 v1)))], bx := [(0, .row 0 (.pair (.int .i64) (.int .i64)) b0)], nx := 1 } = laws_markFracS_t2 n (fun v5 v1 b0 => iter (interp ([]) ty 27 1 n laws_markFracSkp (codeAt laws_markFracSc [1, 0, 1, 0, 0])) (canon 1 (laws_markFracSkp.loop 2)) (kAt ([]) ty 27 1 n laws_markFracSkp laws_markFracSc [1, 0, 1, 0] [] (ending ty 1 Go.Proofs.Try.f45.results.toList laws_markFracSrs laws_markFracSbs)) k { env := [(5, .one (.sc (.int .i64 v5))), (0, .one (.slice 0 0 none)), (1, .one (.sc (.int .i64 v1)))], bx := [(0, .row 0 (.pair (.int .i64) (.int .i64)) b0)], nx := 1 }) v5 v1 b0 := by kernel_rfl
    rw [h]
    have e := congrArg (fun g => laws_markFracS_t2 n g v5 v1 b0) (funext fun v5 => funext fun v1 => funext fun b0 => laws_markFracS_l2_eq n k v5 v1 b0)
    exact e

theorem laws_markFracS_eq (n : Nat) (a1 : Int) (b0 : List ((Int) × (Int))) : runBody ([]) ty 27 n laws_markFracSkp laws_markFracSc Go.Proofs.Try.f45.results.toList laws_markFracSrs laws_markFracSsp laws_markFracSbs ((), (a1, ())) (b0, ()) = laws_markFracS n a1 b0 := by
  have h : runBody ([]) ty 27 n laws_markFracSkp laws_markFracSc Go.Proofs.Try.f45.results.toList laws_markFracSrs laws_markFracSsp laws_markFracSbs ((), (a1, ())) (b0, ()) = laws_markFracS_t n (fun k v5 v1 b0 => iter (interp ([]) ty 27 1 n laws_markFracSkp (codeAt laws_markFracSc [1, 0, 1, 0, 0])) (canon 1 (laws_markFracSkp.loop 2)) (kAt ([]) ty 27 1 n laws_markFracSkp laws_markFracSc [1, 0, 1, 0] [] (ending ty 1 Go.Proofs.Try.f45.results.toList laws_markFracSrs laws_markFracSbs)) k { env := [(5, .one (.sc (.int .i64 v5))), (0, .one (.slice 0 0 none)), (1, .one (.sc (.int .i64 v1)))], bx := [(0, .row 0 (.pair (.int .i64) (.int .i64)) b0)], nx := 1 }) a1 b0 := by kernel_rfl
  rw [h]
  have e := congrArg (fun h2 => laws_markFracS_t n h2 a1 b0) (funext fun k => funext fun v5 => funext fun v1 => funext fun b0 => laws_markFracS_l2_eq n k v5 v1 b0)
  exact e

theorem laws_markFracS_ok (n : Nat) : FunOk P (laws_markFracSF n) :=
  funOk_mk (C := []) (N := 27) (kp := laws_markFracSkp) (c := laws_markFracSc) (n := n) (G := fun x y => laws_markFracS n x.2.1 y.1) follows (AllOk.mem (trivial : AllOk P ([]))) (by kernel_rfl : P.funcs[45]? = some Go.Proofs.Try.f45) (by kernel_rfl) (by kernel_rfl) (by kernel_rfl)
    (fun x y => laws_markFracS_eq n x.2.1 y.1) (fun _ _ => map_same (fun _ => rfl) _) (fun _ _ _ _ => rfl)

abbrev laws_heldFracSsp : List Sp := [.v false (.list (.pair (.int .i64) (.int .i64))), .v false (.int .i64)]
abbrev laws_heldFracSbs : List (Bs × Bool) := []
abbrev laws_heldFracSrs : List (Bool × List Rp) := [(false, [.v false (.int .i64)])]
noncomputable def laws_heldFracSkp : Keep := { loop := fun id => match id with | 2 => ([5, 0, 1], []) | _ => ([], []), join := fun id => match id with | _ => none }
noncomputable def laws_heldFracSc : Code := bodyOf Go.Proofs.Try.f67
noncomputable def laws_heldFracSF (n : Nat) : Fun := { id := 67, sp := laws_heldFracSsp, bs := laws_heldFracSbs, rs := laws_heldFracSrs, f := fun x y => laws_heldFracS n x.1 x.2.1 }

theorem laws_heldFracS_l2_eq (n : Nat) : ∀ (k : Nat) (v5 : Int) (v0 : List ((Int) × (Int))) (v1 : Int), iter (interp ([]) ty 31 0 n laws_heldFracSkp (codeAt laws_heldFracSc [1, 0, 1, 0, 0])) (canon 0 (laws_heldFracSkp.loop 2)) (kAt ([]) ty 31 0 n laws_heldFracSkp laws_heldFracSc [1, 0, 1, 0] [] (ending ty 0 Go.Proofs.Try.f67.results.toList laws_heldFracSrs laws_heldFracSbs)) k { env := [(5, .one (.sc (.int .i64 v5))), (0, .one (.list true (.pair (.int .i64) (.int .i64)) v0)), (1, .one (.sc (.int .i64 v1)))], bx := [], nx := 0 } = laws_heldFracS_l2 n k v5 v0 v1
  | 0, _, _, _ => by kernel_rfl
  | k + 1, v5, v0, v1 => by
    have h : iter (interp ([]) ty 31 0 n laws_heldFracSkp (codeAt laws_heldFracSc [1, 0, 1, 0, 0])) (canon 0 (laws_heldFracSkp.loop 2)) (kAt ([]) ty 31 0 n laws_heldFracSkp laws_heldFracSc [1, 0, 1, 0] [] (ending ty 0 Go.Proofs.Try.f67.results.toList laws_heldFracSrs laws_heldFracSbs)) (k + 1) { env := [(5, .one (.sc (.int .i64 v5))), (0, .one (.list true (.pair (.int .i64) (.int .i64)) v0)), (1, .one (.sc (.int .i64 v1)))], bx := [], nx := 0 } = laws_heldFracS_t2 n (fun v5 v0 v1 => iter (interp ([]) ty 31 0 n laws_heldFracSkp (codeAt laws_heldFracSc [1, 0, 1, 0, 0])) (canon 0 (laws_heldFracSkp.loop 2)) (kAt ([]) ty 31 0 n laws_heldFracSkp laws_heldFracSc [1, 0, 1, 0] [] (ending ty 0 Go.Proofs.Try.f67.results.toList laws_heldFracSrs laws_heldFracSbs)) k { env := [(5, .one (.sc (.int .i64 v5))), (0, .one (.list true (.pair (.int .i64) (.int .i64)) v0)), (1, .one (.sc (.int .i64 v1)))], bx := [], nx := 0 }) v5 v0 v1 := by kernel_rfl
    rw [h]
    have e := congrArg (fun g => laws_heldFracS_t2 n g v5 v0 v1) (funext fun v5 => funext fun v0 => funext fun v1 => laws_heldFracS_l2_eq n k v5 v0 v1)
    exact e

theorem laws_heldFracS_eq (n : Nat) (a0 : List ((Int) × (Int))) (a1 : Int) : runBody ([]) ty 31 n laws_heldFracSkp laws_heldFracSc Go.Proofs.Try.f67.results.toList laws_heldFracSrs laws_heldFracSsp laws_heldFracSbs (a0, (a1, ())) () = laws_heldFracS n a0 a1 := by
  have h : runBody ([]) ty 31 n laws_heldFracSkp laws_heldFracSc Go.Proofs.Try.f67.results.toList laws_heldFracSrs laws_heldFracSsp laws_heldFracSbs (a0, (a1, ())) () = laws_heldFracS_t n (fun k v5 v0 v1 => iter (interp ([]) ty 31 0 n laws_heldFracSkp (codeAt laws_heldFracSc [1, 0, 1, 0, 0])) (canon 0 (laws_heldFracSkp.loop 2)) (kAt ([]) ty 31 0 n laws_heldFracSkp laws_heldFracSc [1, 0, 1, 0] [] (ending ty 0 Go.Proofs.Try.f67.results.toList laws_heldFracSrs laws_heldFracSbs)) k { env := [(5, .one (.sc (.int .i64 v5))), (0, .one (.list true (.pair (.int .i64) (.int .i64)) v0)), (1, .one (.sc (.int .i64 v1)))], bx := [], nx := 0 }) a0 a1 := by kernel_rfl
  rw [h]
  have e := congrArg (fun h2 => laws_heldFracS_t n h2 a0 a1) (funext fun k => funext fun v5 => funext fun v0 => funext fun v1 => laws_heldFracS_l2_eq n k v5 v0 v1)
  exact e

theorem laws_heldFracS_ok (n : Nat) : FunOk P (laws_heldFracSF n) :=
  funOk_mk (C := []) (N := 31) (kp := laws_heldFracSkp) (c := laws_heldFracSc) (n := n) (G := fun x y => laws_heldFracS n x.1 x.2.1) follows (AllOk.mem (trivial : AllOk P ([]))) (by kernel_rfl : P.funcs[67]? = some Go.Proofs.Try.f67) (by kernel_rfl) (by kernel_rfl) (by kernel_rfl)
    (fun x y => laws_heldFracS_eq n x.1 x.2.1) (fun _ _ => map_same (fun _ => rfl) _) (fun _ _ _ _ => rfl)

abbrev laws_FnExactResidualsOfsp : List Sp := [.v true (.pair (.int .i64) (.pair (.list (.pair (.pair (.int .i8) (.pair (.int .i8) (.pair (.int .i8) (.pair (.int .i8) (.pair (.int .i8) (.int .i8)))))) (.pair (.pair (.int .i64) (.int .i64)) (.int .i64)))) (.pair .bool (.pair (.int .i64) (.int .i64))))), .v false (.list (.pair (.int .i64) (.int .i64)))]
abbrev laws_FnExactResidualsOfbs : List (Bs × Bool) := []
abbrev laws_FnExactResidualsOfrs : List (Bool × List Rp) := [(false, [.v false .bool])]
noncomputable def laws_FnExactResidualsOfkp : Keep := { loop := fun id => match id with | _ => ([], []), join := fun id => match id with | _ => none }
noncomputable def laws_FnExactResidualsOfc : Code := bodyOf Go.Proofs.Try.f14
noncomputable def laws_FnExactResidualsOfF (n : Nat) : Fun := { id := 14, sp := laws_FnExactResidualsOfsp, bs := laws_FnExactResidualsOfbs, rs := laws_FnExactResidualsOfrs, f := fun x y => laws_FnExactResidualsOf n x.1 x.2.1 }

theorem laws_FnExactResidualsOf_eq (n : Nat) (a0 : (Int) × ((List (((Int) × ((Int) × ((Int) × ((Int) × ((Int) × (Int)))))) × (((Int) × (Int)) × (Int)))) × ((Bool) × ((Int) × (Int))))) (a1 : List ((Int) × (Int))) : runBody ([laws_szTableF n, laws_szFracSF n, laws_toTableF n, laws_toFracSF n, spec_ResidualsOfF n, impl_ResidualsOfF n, laws_eqFracSF n, laws_eqTableF n, laws_markTableF n, laws_markFracSF n, laws_heldFracSF n]) ty 119 n laws_FnExactResidualsOfkp laws_FnExactResidualsOfc Go.Proofs.Try.f14.results.toList laws_FnExactResidualsOfrs laws_FnExactResidualsOfsp laws_FnExactResidualsOfbs (a0, (a1, ())) () = laws_FnExactResidualsOf n a0 a1 := by
  have h : runBody ([laws_szTableF n, laws_szFracSF n, laws_toTableF n, laws_toFracSF n, spec_ResidualsOfF n, impl_ResidualsOfF n, laws_eqFracSF n, laws_eqTableF n, laws_markTableF n, laws_markFracSF n, laws_heldFracSF n]) ty 119 n laws_FnExactResidualsOfkp laws_FnExactResidualsOfc Go.Proofs.Try.f14.results.toList laws_FnExactResidualsOfrs laws_FnExactResidualsOfsp laws_FnExactResidualsOfbs (a0, (a1, ())) () = laws_FnExactResidualsOf_t n a0 a1 := by kernel_rfl
  rw [h]
  rfl

theorem laws_FnExactResidualsOf_ok (n : Nat) : FunOk P (laws_FnExactResidualsOfF n) :=
  funOk_mk (C := [laws_szTableF n, laws_szFracSF n, laws_toTableF n, laws_toFracSF n, spec_ResidualsOfF n, impl_ResidualsOfF n, laws_eqFracSF n, laws_eqTableF n, laws_markTableF n, laws_markFracSF n, laws_heldFracSF n]) (N := 119) (kp := laws_FnExactResidualsOfkp) (c := laws_FnExactResidualsOfc) (n := n) (G := fun x y => laws_FnExactResidualsOf n x.1 x.2.1) follows (AllOk.mem (⟨laws_szTable_ok n, ⟨laws_szFracS_ok n, ⟨laws_toTable_ok n, ⟨laws_toFracS_ok n, ⟨spec_ResidualsOf_ok n, ⟨impl_ResidualsOf_ok n, ⟨laws_eqFracS_ok n, ⟨laws_eqTable_ok n, ⟨laws_markTable_ok n, ⟨laws_markFracS_ok n, ⟨laws_heldFracS_ok n, trivial⟩⟩⟩⟩⟩⟩⟩⟩⟩⟩⟩ : AllOk P ([laws_szTableF n, laws_szFracSF n, laws_toTableF n, laws_toFracSF n, spec_ResidualsOfF n, impl_ResidualsOfF n, laws_eqFracSF n, laws_eqTableF n, laws_markTableF n, laws_markFracSF n, laws_heldFracSF n]))) (by kernel_rfl : P.funcs[14]? = some Go.Proofs.Try.f14) (by kernel_rfl) (by kernel_rfl) (by kernel_rfl)
    (fun x y => laws_FnExactResidualsOf_eq n x.1 x.2.1) (fun _ _ => map_same (fun _ => rfl) _) (fun _ _ _ _ => rfl)

end Go.Abs
