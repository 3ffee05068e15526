import Derived.Test.YtoalilpbncahgaaECorrectionsOf0
import Derived.KernelRfl
namespace Go.Abs
open Go.Proofs
set_option maxRecDepth 100000
set_option linter.unusedVariables false

abbrev spec_l04Obs_esp : List Sp := [.er (.pair (.pair (.int .i8) (.pair (.int .i8) (.pair (.int .i8) (.pair (.int .i8) (.pair (.int .i8) (.int .i8)))))) (.pair (.pair (.int .i64) (.int .i64)) (.int .i64))), .v false (.int .i64)]
abbrev spec_l04Obs_ebs : List (Bs × Bool) := []
abbrev spec_l04Obs_ers : List (Bool × List Rp) := [(false, [.v false .bool])]
noncomputable def spec_l04Obs_ekp : Keep := { loop := fun id => match id with | 3 => ([6, 5, 1, 0], []) | _ => ([], []), join := fun id => match id with | _ => none }
noncomputable def spec_l04Obs_ec : Code := bodyOf Go.Proofs.Try.f120
noncomputable def spec_l04Obs_eF (n : Nat) : Fun := { id := 120, sp := spec_l04Obs_esp, bs := spec_l04Obs_ebs, rs := spec_l04Obs_ers, f := fun x y => spec_l04Obs_e n x.1 x.2.1 }

noncomputable abbrev spec_l04Obs_ecs (n : Nat) : List Fun := [spec_l01OkF n, spec_l00InF n]
noncomputable abbrev spec_l04Obs_ek0 (n : Nat) := kAt (spec_l04Obs_ecs n) ty 53 0 n spec_l04Obs_ekp spec_l04Obs_ec [1, 1, 0, 1, 0] [] (ending ty 0 Go.Proofs.Try.f120.results.toList spec_l04Obs_ers spec_l04Obs_ebs)
theorem spec_l04Obs_e_l3_eq (n : Nat) : ∀ (k : Nat) (v6 : Int) (v5 : Bool) (v1 : Int) (v0 : ((Int) × ((Int) × ((Int) × ((Int) × (Int × Int))))) × ((Int × Int) × (Int))), iter (interp (spec_l04Obs_ecs n) ty 53 0 n spec_l04Obs_ekp (codeAt spec_l04Obs_ec [1, 1, 0, 1, 0, 0])) (canon 0 (spec_l04Obs_ekp.loop 3)) (spec_l04Obs_ek0 n) k { env := [(6, .one (.sc (.int .i64 v6))), (5, .one (.sc (.bool v5))), (1, .one (.sc (.int .i64 v1))), (0, .one (.eref true (.pair (.pair (.int .i8) (.pair (.int .i8) (.pair (.int .i8) (.pair (.int .i8) (.pair (.int .i8) (.int .i8)))))) (.pair (.pair (.int .i64) (.int .i64)) (.int .i64))) [v0] 0 0 0 0))], bx := [], nx := 0 } = spec_l04Obs_e_l3 n k v6 v5 v1 v0
  | 0, _, _, _, _ => by kernel_rfl
  | k + 1, v6, v5, v1, v0 => by
    refine Eq.trans (b := spec_l04Obs_e_t3 n (fun v6 v5 v1 v0 => iter (interp (spec_l04Obs_ecs n) ty 53 0 n spec_l04Obs_ekp (codeAt spec_l04Obs_ec [1, 1, 0, 1, 0, 0])) (canon 0 (spec_l04Obs_ekp.loop 3)) (spec_l04Obs_ek0 n) k { env := [(6, .one (.sc (.int .i64 v6))), (5, .one (.sc (.bool v5))), (1, .one (.sc (.int .i64 v1))), (0, .one (.eref true (.pair (.pair (.int .i8) (.pair (.int .i8) (.pair (.int .i8) (.pair (.int .i8) (.pair (.int .i8) (.int .i8)))))) (.pair (.pair (.int .i64) (.int .i64)) (.int .i64))) [v0] 0 0 0 0))], bx := [], nx := 0 }) v6 v5 v1 v0) (by kernel_rfl) ?_
    have e := congrArg (fun g => spec_l04Obs_e_t3 n g v6 v5 v1 v0) (funext fun v6 => funext fun v5 => funext fun v1 => funext fun v0 => spec_l04Obs_e_l3_eq n k v6 v5 v1 v0)
    exact e

theorem spec_l04Obs_e_eq (n : Nat) (a0 : ((Int) × ((Int) × ((Int) × ((Int) × (Int × Int))))) × ((Int × Int) × (Int))) (a1 : Int) : runBody (spec_l04Obs_ecs n) ty 53 n spec_l04Obs_ekp spec_l04Obs_ec Go.Proofs.Try.f120.results.toList spec_l04Obs_ers spec_l04Obs_esp spec_l04Obs_ebs (a0, (a1, ())) () = spec_l04Obs_e n a0 a1 := by
  refine Eq.trans (b := spec_l04Obs_e_t n (fun k v6 v5 v1 v0 => iter (interp (spec_l04Obs_ecs n) ty 53 0 n spec_l04Obs_ekp (codeAt spec_l04Obs_ec [1, 1, 0, 1, 0, 0])) (canon 0 (spec_l04Obs_ekp.loop 3)) (spec_l04Obs_ek0 n) k { env := [(6, .one (.sc (.int .i64 v6))), (5, .one (.sc (.bool v5))), (1, .one (.sc (.int .i64 v1))), (0, .one (.eref true (.pair (.pair (.int .i8) (.pair (.int .i8) (.pair (.int .i8) (.pair (.int .i8) (.pair (.int .i8) (.int .i8)))))) (.pair (.pair (.int .i64) (.int .i64)) (.int .i64))) [v0] 0 0 0 0))], bx := [], nx := 0 }) a0 a1) (by kernel_rfl) ?_
  have e := congrArg (fun h3 => spec_l04Obs_e_t n h3 a0 a1) (funext fun k => funext fun v6 => funext fun v5 => funext fun v1 => funext fun v0 => spec_l04Obs_e_l3_eq n k v6 v5 v1 v0)
  exact e

theorem spec_l04Obs_e_ok (n : Nat) : FunOk P (spec_l04Obs_eF n) :=
  funOk_mk (C := [spec_l01OkF n, spec_l00InF n]) (N := 53) (kp := spec_l04Obs_ekp) (c := spec_l04Obs_ec) (n := n) (G := fun x y => spec_l04Obs_e n x.1 x.2.1) follows (AllOk.mem (⟨spec_l01Ok_ok n, ⟨spec_l00In_ok n, trivial⟩⟩ : AllOk P ([spec_l01OkF n, spec_l00InF n]))) (by kernel_rfl : P.funcs[120]? = some Go.Proofs.Try.f120) (by kernel_rfl) (by kernel_rfl) (by kernel_rfl)
    (fun x y => spec_l04Obs_e_eq n x.1 x.2.1) (fun _ _ => map_same (fun _ => rfl) _) (fun _ _ _ _ => rfl)

abbrev spec_l04Oksp : List Sp := [.ref 0]
abbrev spec_l04Okbs : List (Bs × Bool) := [(.var 28 (.pair (.int .i64) (.pair (.list (.pair (.pair (.int .i8) (.pair (.int .i8) (.pair (.int .i8) (.pair (.int .i8) (.pair (.int .i8) (.int .i8)))))) (.pair (.pair (.int .i64) (.int .i64)) (.int .i64)))) (.pair .bool (.pair (.int .i64) (.int .i64))))), true)]
abbrev spec_l04Okrs : List (Bool × List Rp) := [(false, [.v false .bool])]
noncomputable def spec_l04Okkp : Keep := { loop := fun id => match id with | 4 => ([3, 0], []) | _ => ([], []), join := fun id => match id with | _ => none }
noncomputable def spec_l04Okc : Code := bodyOf Go.Proofs.Try.f58
noncomputable def spec_l04OkF (n : Nat) : Fun := { id := 58, sp := spec_l04Oksp, bs := spec_l04Okbs, rs := spec_l04Okrs, f := fun x y => spec_l04Ok n y.1 }

noncomputable abbrev spec_l04Okcs (n : Nat) : List Fun := [spec_l00InF n, spec_l01OkF n, spec_l04Obs_eF n]
noncomputable abbrev spec_l04Okk0 (n : Nat) := kAt (spec_l04Okcs n) ty 62 1 n spec_l04Okkp spec_l04Okc [1, 1, 0, 1, 0] [] (ending ty 1 Go.Proofs.Try.f58.results.toList spec_l04Okrs spec_l04Okbs)
theorem spec_l04Ok_l4_eq (n : Nat) : ∀ (k : Nat) (v3 : Int) (b0_0 : Int) (b0_1 : List (((Int) × ((Int) × ((Int) × ((Int) × (Int × Int))))) × ((Int × Int) × (Int)))) (b0_2 : Bool) (b0_3 : Int) (b0_4 : Int), iter (interp (spec_l04Okcs n) ty 62 1 n spec_l04Okkp (codeAt spec_l04Okc [1, 1, 0, 1, 0, 0])) (canon 1 (spec_l04Okkp.loop 4)) (spec_l04Okk0 n) k { env := [(3, .one (.sc (.int .i64 v3))), (0, .one (.ref 0 0 0 0 0 0))], bx := [(0, .var 28 [.sc (.int .i64 b0_0), .list true (.pair (.pair (.int .i8) (.pair (.int .i8) (.pair (.int .i8) (.pair (.int .i8) (.pair (.int .i8) (.int .i8)))))) (.pair (.pair (.int .i64) (.int .i64)) (.int .i64))) b0_1, .sc (.bool b0_2), .sc (.int .i64 b0_3), .sc (.int .i64 b0_4)])], nx := 1 } = spec_l04Ok_l4 n k v3 b0_0 b0_1 b0_2 b0_3 b0_4
  | 0, _, _, _, _, _, _ => by kernel_rfl
  | k + 1, v3, b0_0, b0_1, b0_2, b0_3, b0_4 => by
    refine Eq.trans (b := spec_l04Ok_t4 n (fun v3 b0_0 b0_1 b0_2 b0_3 b0_4 => iter (interp (spec_l04Okcs n) ty 62 1 n spec_l04Okkp (codeAt spec_l04Okc [1, 1, 0, 1, 0, 0])) (canon 1 (spec_l04Okkp.loop 4)) (spec_l04Okk0 n) k { env := [(3, .one (.sc (.int .i64 v3))), (0, .one (.ref 0 0 0 0 0 0))], bx := [(0, .var 28 [.sc (.int .i64 b0_0), .list true (.pair (.pair (.int .i8) (.pair (.int .i8) (.pair (.int .i8) (.pair (.int .i8) (.pair (.int .i8) (.int .i8)))))) (.pair (.pair (.int .i64) (.int .i64)) (.int .i64))) b0_1, .sc (.bool b0_2), .sc (.int .i64 b0_3), .sc (.int .i64 b0_4)])], nx := 1 }) v3 b0_0 b0_1 b0_2 b0_3 b0_4) (by kernel_rfl) ?_
    have e := congrArg (fun g => spec_l04Ok_t4 n g v3 b0_0 b0_1 b0_2 b0_3 b0_4) (funext fun v3 => funext fun b0_0 => funext fun b0_1 => funext fun b0_2 => funext fun b0_3 => funext fun b0_4 => spec_l04Ok_l4_eq n k v3 b0_0 b0_1 b0_2 b0_3 b0_4)
    exact e

theorem spec_l04Ok_eq (n : Nat) (b0 : (Int) × ((List (((Int) × ((Int) × ((Int) × ((Int) × (Int × Int))))) × ((Int × Int) × (Int)))) × ((Bool) × (Int × Int)))) : runBody (spec_l04Okcs n) ty 62 n spec_l04Okkp spec_l04Okc Go.Proofs.Try.f58.results.toList spec_l04Okrs spec_l04Oksp spec_l04Okbs ((), ()) (b0, ()) = spec_l04Ok n b0 := by
  refine Eq.trans (b := spec_l04Ok_t n (fun k v3 b0_0 b0_1 b0_2 b0_3 b0_4 => iter (interp (spec_l04Okcs n) ty 62 1 n spec_l04Okkp (codeAt spec_l04Okc [1, 1, 0, 1, 0, 0])) (canon 1 (spec_l04Okkp.loop 4)) (spec_l04Okk0 n) k { env := [(3, .one (.sc (.int .i64 v3))), (0, .one (.ref 0 0 0 0 0 0))], bx := [(0, .var 28 [.sc (.int .i64 b0_0), .list true (.pair (.pair (.int .i8) (.pair (.int .i8) (.pair (.int .i8) (.pair (.int .i8) (.pair (.int .i8) (.int .i8)))))) (.pair (.pair (.int .i64) (.int .i64)) (.int .i64))) b0_1, .sc (.bool b0_2), .sc (.int .i64 b0_3), .sc (.int .i64 b0_4)])], nx := 1 }) b0) (by kernel_rfl) ?_
  have e := congrArg (fun h4 => spec_l04Ok_t n h4 b0) (funext fun k => funext fun v3 => funext fun b0_0 => funext fun b0_1 => funext fun b0_2 => funext fun b0_3 => funext fun b0_4 => spec_l04Ok_l4_eq n k v3 b0_0 b0_1 b0_2 b0_3 b0_4)
  exact e

theorem spec_l04Ok_ok (n : Nat) : FunOk P (spec_l04OkF n) :=
  funOk_mk (C := [spec_l00InF n, spec_l01OkF n, spec_l04Obs_eF n]) (N := 62) (kp := spec_l04Okkp) (c := spec_l04Okc) (n := n) (G := fun x y => spec_l04Ok n y.1) follows (AllOk.mem (⟨spec_l00In_ok n, ⟨spec_l01Ok_ok n, ⟨spec_l04Obs_e_ok n, trivial⟩⟩⟩ : AllOk P ([spec_l00InF n, spec_l01OkF n, spec_l04Obs_eF n]))) (by kernel_rfl : P.funcs[58]? = some Go.Proofs.Try.f58) (by kernel_rfl) (by kernel_rfl) (by kernel_rfl)
    (fun x y => spec_l04Ok_eq n y.1) (fun _ _ => map_same (fun _ => rfl) _) (fun _ _ _ _ => rfl)

abbrev spec_NormalOfsp : List Sp := [.v true (.pair (.int .i64) (.pair (.list (.pair (.pair (.int .i8) (.pair (.int .i8) (.pair (.int .i8) (.pair (.int .i8) (.pair (.int .i8) (.int .i8)))))) (.pair (.pair (.int .i64) (.int .i64)) (.int .i64)))) (.pair .bool (.pair (.int .i64) (.int .i64)))))]
abbrev spec_NormalOfbs : List (Bs × Bool) := []
abbrev spec_NormalOfrs : List (Bool × List Rp) := [(false, [.new  (.list (.pair (.int .i64) (.int .i64)))]), (false, [.new  (.pair (.int .i64) (.int .i64))]), (false, [.v false (.int .i64)])]
noncomputable def spec_NormalOfkp : Keep := { loop := fun id => match id with | _ => ([], []), join := fun id => match id with | _ => none }
noncomputable def spec_NormalOfc : Code := bodyOf Go.Proofs.Try.f12
noncomputable def spec_NormalOfF (n : Nat) : Fun := { id := 12, sp := spec_NormalOfsp, bs := spec_NormalOfbs, rs := spec_NormalOfrs, f := fun x y => spec_NormalOf n x.1 }

theorem spec_NormalOf_eq (n : Nat) (a0 : (Int) × ((List (((Int) × ((Int) × ((Int) × ((Int) × (Int × Int))))) × ((Int × Int) × (Int)))) × ((Bool) × (Int × Int)))) : runBody ([spec_l04OkF n, spec_l04NormalF n]) ty 13 n spec_NormalOfkp spec_NormalOfc Go.Proofs.Try.f12.results.toList spec_NormalOfrs spec_NormalOfsp spec_NormalOfbs (a0, ()) () = spec_NormalOf n a0 := by
  refine Eq.trans (b := spec_NormalOf_t n a0) (by kernel_rfl) ?_
  rfl

theorem spec_NormalOf_ok (n : Nat) : FunOk P (spec_NormalOfF n) :=
  funOk_mk (C := [spec_l04OkF n, spec_l04NormalF n]) (N := 13) (kp := spec_NormalOfkp) (c := spec_NormalOfc) (n := n) (G := fun x y => spec_NormalOf n x.1) follows (AllOk.mem (⟨spec_l04Ok_ok n, ⟨spec_l04Normal_ok n, trivial⟩⟩ : AllOk P ([spec_l04OkF n, spec_l04NormalF n]))) (by kernel_rfl : P.funcs[12]? = some Go.Proofs.Try.f12) (by kernel_rfl) (by kernel_rfl) (by kernel_rfl)
    (fun x y => spec_NormalOf_eq n x.1) (fun _ _ => map_same (fun _ => rfl) _) (fun _ _ _ _ => rfl)

abbrev spec_l01Divsp : List Sp := [.v true (.pair (.int .i64) (.int .i64)), .v true (.pair (.int .i64) (.int .i64))]
abbrev spec_l01Divbs : List (Bs × Bool) := []
abbrev spec_l01Divrs : List (Bool × List Rp) := [(true, [.v false (.pair (.int .i64) (.int .i64))]), (false, [.v false (.int .i64)])]
noncomputable def spec_l01Divkp : Keep := { loop := fun id => match id with | _ => ([], []), join := fun id => match id with | _ => none }
noncomputable def spec_l01Divc : Code := bodyOf Go.Proofs.Try.f94
noncomputable def spec_l01DivF (n : Nat) : Fun := { id := 94, sp := spec_l01Divsp, bs := spec_l01Divbs, rs := spec_l01Divrs, f := fun x y => spec_l01Div n x.1 x.2.1 }

theorem spec_l01Div_eq (n : Nat) (a0 : (Int) × (Int)) (a1 : (Int) × (Int)) : runBody ([spec_l01ReducedF n]) ty 19 n spec_l01Divkp spec_l01Divc Go.Proofs.Try.f94.results.toList spec_l01Divrs spec_l01Divsp spec_l01Divbs (a0, (a1, ())) () = spec_l01Div n a0 a1 := by
  refine Eq.trans (b := spec_l01Div_t n a0 a1) (by kernel_rfl) ?_
  rfl

theorem spec_l01Div_ok (n : Nat) : FunOk P (spec_l01DivF n) :=
  funOk_mk (C := [spec_l01ReducedF n]) (N := 19) (kp := spec_l01Divkp) (c := spec_l01Divc) (n := n) (G := fun x y => spec_l01Div n x.1 x.2.1) follows (AllOk.mem (⟨spec_l01Reduced_ok n, trivial⟩ : AllOk P ([spec_l01ReducedF n]))) (by kernel_rfl : P.funcs[94]? = some Go.Proofs.Try.f94) (by kernel_rfl) (by kernel_rfl) (by kernel_rfl)
    (fun x y => spec_l01Div_eq n x.1 x.2.1) (fun _ _ => map_same (fun _ => rfl) _) (fun _ _ _ _ => rfl)

abbrev spec_l04Beginsp : List Sp := [.v false (.list (.list (.pair (.int .i64) (.int .i64)))), .v false (.list (.pair (.int .i64) (.int .i64)))]
abbrev spec_l04Beginbs : List (Bs × Bool) := []
abbrev spec_l04Beginrs : List (Bool × List Rp) := [(false, [.nrc 132 [.pool (.pair (.int .i64) (.int .i64)), .row (.pair (.int .i64) (.int .i64)), .v (.int .i64)]])]
noncomputable def spec_l04Beginkp : Keep := { loop := fun id => match id with | 3 => ([6, 0, 5], [.boxp 0 0 (.pair (.int .i64) (.int .i64))]) | _ => ([], []), join := fun id => match id with | _ => none }
noncomputable def spec_l04Beginc : Code := bodyOf Go.Proofs.Try.f107
noncomputable def spec_l04BeginF (n : Nat) : Fun := { id := 107, sp := spec_l04Beginsp, bs := spec_l04Beginbs, rs := spec_l04Beginrs, f := fun x y => spec_l04Begin n x.1 x.2.1 }

noncomputable abbrev spec_l04Begink0 (n : Nat) := kAt ([]) typ 34 0 n spec_l04Beginkp spec_l04Beginc [1, 1, 0, 1, 0] [] (ending typ 0 Go.Proofs.Try.f107.results.toList spec_l04Beginrs spec_l04Beginbs)
theorem spec_l04Begin_l3_eq (n : Nat) : ∀ (k : Nat) (v6 : Int) (v0 : List (List (Int × Int))) (b0_2 : Int) (b1p : List Nat) (b1i : List (List (Int × Int))) (b2 : List (Int × Int)), iter (interp ([]) typ 34 0 n spec_l04Beginkp (codeAt spec_l04Beginc [1, 1, 0, 1, 0, 0])) (canon 0 (spec_l04Beginkp.loop 3)) (spec_l04Begink0 n) k { env := [(6, .one (.sc (.int .i64 v6))), (0, .one (.list true (.list (.pair (.int .i64) (.int .i64))) v0)), (5, .one (.ref 0 0 0 0 0 0))], bx := [(0, .var 132 [.slice 1 0 none, .slice 2 0 none, .sc (.int .i64 b0_2)]), (1, .pool 0 (.pair (.int .i64) (.int .i64)) b1p b1i), (2, .row 0 (.pair (.int .i64) (.int .i64)) b2)], nx := 3 } = spec_l04Begin_l3 n k v6 v0 b0_2 b1p b1i b2
  | 0, _, _, _, _, _, _ => by kernel_rfl
  | k + 1, v6, v0, b0_2, b1p, b1i, b2 => by
    refine Eq.trans (b := spec_l04Begin_t3 n (fun v6 v0 b0_2 b1p b1i b2 => iter (interp ([]) typ 34 0 n spec_l04Beginkp (codeAt spec_l04Beginc [1, 1, 0, 1, 0, 0])) (canon 0 (spec_l04Beginkp.loop 3)) (spec_l04Begink0 n) k { env := [(6, .one (.sc (.int .i64 v6))), (0, .one (.list true (.list (.pair (.int .i64) (.int .i64))) v0)), (5, .one (.ref 0 0 0 0 0 0))], bx := [(0, .var 132 [.slice 1 0 none, .slice 2 0 none, .sc (.int .i64 b0_2)]), (1, .pool 0 (.pair (.int .i64) (.int .i64)) b1p b1i), (2, .row 0 (.pair (.int .i64) (.int .i64)) b2)], nx := 3 }) v6 v0 b0_2 b1p b1i b2) (by kernel_rfl) ?_
    have e := congrArg (fun g => spec_l04Begin_t3 n g v6 v0 b0_2 b1p b1i b2) (funext fun v6 => funext fun v0 => funext fun b0_2 => funext fun b1p => funext fun b1i => funext fun b2 => spec_l04Begin_l3_eq n k v6 v0 b0_2 b1p b1i b2)
    exact e

theorem spec_l04Begin_eq (n : Nat) (a0 : List (List (Int × Int))) (a1 : List (Int × Int)) : runBody ([]) typ 34 n spec_l04Beginkp spec_l04Beginc Go.Proofs.Try.f107.results.toList spec_l04Beginrs spec_l04Beginsp spec_l04Beginbs (a0, (a1, ())) () = spec_l04Begin n a0 a1 := by
  refine Eq.trans (b := spec_l04Begin_t n (fun k v6 v0 b0_2 b1p b1i b2 => iter (interp ([]) typ 34 0 n spec_l04Beginkp (codeAt spec_l04Beginc [1, 1, 0, 1, 0, 0])) (canon 0 (spec_l04Beginkp.loop 3)) (spec_l04Begink0 n) k { env := [(6, .one (.sc (.int .i64 v6))), (0, .one (.list true (.list (.pair (.int .i64) (.int .i64))) v0)), (5, .one (.ref 0 0 0 0 0 0))], bx := [(0, .var 132 [.slice 1 0 none, .slice 2 0 none, .sc (.int .i64 b0_2)]), (1, .pool 0 (.pair (.int .i64) (.int .i64)) b1p b1i), (2, .row 0 (.pair (.int .i64) (.int .i64)) b2)], nx := 3 }) a0 a1) (by kernel_rfl) ?_
  have e := congrArg (fun h3 => spec_l04Begin_t n h3 a0 a1) (funext fun k => funext fun v6 => funext fun v0 => funext fun b0_2 => funext fun b1p => funext fun b1i => funext fun b2 => spec_l04Begin_l3_eq n k v6 v0 b0_2 b1p b1i b2)
  exact e

theorem spec_l04Begin_ok (n : Nat) : FunOk P (spec_l04BeginF n) :=
  funOk_mkP (C := []) (N := 34) (kp := spec_l04Beginkp) (c := spec_l04Beginc) (n := n) (G := fun x y => spec_l04Begin n x.1 x.2.1) follows (AllOk.mem (trivial : AllOk P ([]))) (by kernel_rfl : P.funcs[107]? = some Go.Proofs.Try.f107) (by kernel_rfl) (by kernel_rfl) (by kernel_rfl)
    (fun x y => spec_l04Begin_eq n x.1 x.2.1) (fun _ _ => map_same (fun _ => rfl) _) (fun _ _ _ _ => rfl)

abbrev spec_l01Negsp : List Sp := [.v true (.pair (.int .i64) (.int .i64))]
abbrev spec_l01Negbs : List (Bs × Bool) := []
abbrev spec_l01Negrs : List (Bool × List Rp) := [(true, [.v false (.pair (.int .i64) (.int .i64))])]
noncomputable def spec_l01Negkp : Keep := { loop := fun id => match id with | _ => ([], []), join := fun id => match id with | _ => none }
noncomputable def spec_l01Negc : Code := bodyOf Go.Proofs.Try.f131
noncomputable def spec_l01NegF (n : Nat) : Fun := { id := 131, sp := spec_l01Negsp, bs := spec_l01Negbs, rs := spec_l01Negrs, f := fun x y => spec_l01Neg n x.1 }

theorem spec_l01Neg_eq (n : Nat) (a0 : (Int) × (Int)) : runBody ([]) ty 9 n spec_l01Negkp spec_l01Negc Go.Proofs.Try.f131.results.toList spec_l01Negrs spec_l01Negsp spec_l01Negbs (a0, ()) () = spec_l01Neg n a0 := by
  refine Eq.trans (b := spec_l01Neg_t n a0) (by kernel_rfl) ?_
  rfl

theorem spec_l01Neg_ok (n : Nat) : FunOk P (spec_l01NegF n) :=
  funOk_mk (C := []) (N := 9) (kp := spec_l01Negkp) (c := spec_l01Negc) (n := n) (G := fun x y => spec_l01Neg n x.1) follows (AllOk.mem (trivial : AllOk P ([]))) (by kernel_rfl : P.funcs[131]? = some Go.Proofs.Try.f131) (by kernel_rfl) (by kernel_rfl) (by kernel_rfl)
    (fun x y => spec_l01Neg_eq n x.1) (fun _ _ => map_same (fun _ => rfl) _) (fun _ _ _ _ => rfl)

abbrev spec_l01Subsp : List Sp := [.v true (.pair (.int .i64) (.int .i64)), .v true (.pair (.int .i64) (.int .i64))]
abbrev spec_l01Subbs : List (Bs × Bool) := []
abbrev spec_l01Subrs : List (Bool × List Rp) := [(true, [.v false (.pair (.int .i64) (.int .i64))]), (false, [.v false (.int .i64)])]
noncomputable def spec_l01Subkp : Keep := { loop := fun id => match id with | _ => ([], []), join := fun id => match id with | _ => none }
noncomputable def spec_l01Subc : Code := bodyOf Go.Proofs.Try.f93
noncomputable def spec_l01SubF (n : Nat) : Fun := { id := 93, sp := spec_l01Subsp, bs := spec_l01Subbs, rs := spec_l01Subrs, f := fun x y => spec_l01Sub n x.1 x.2.1 }

theorem spec_l01Sub_eq (n : Nat) (a0 : (Int) × (Int)) (a1 : (Int) × (Int)) : runBody ([spec_l01NegF n, spec_l01AddF n]) ty 12 n spec_l01Subkp spec_l01Subc Go.Proofs.Try.f93.results.toList spec_l01Subrs spec_l01Subsp spec_l01Subbs (a0, (a1, ())) () = spec_l01Sub n a0 a1 := by
  refine Eq.trans (b := spec_l01Sub_t n a0 a1) (by kernel_rfl) ?_
  rfl

theorem spec_l01Sub_ok (n : Nat) : FunOk P (spec_l01SubF n) :=
  funOk_mk (C := [spec_l01NegF n, spec_l01AddF n]) (N := 12) (kp := spec_l01Subkp) (c := spec_l01Subc) (n := n) (G := fun x y => spec_l01Sub n x.1 x.2.1) follows (AllOk.mem (⟨spec_l01Neg_ok n, ⟨spec_l01Add_ok n, trivial⟩⟩ : AllOk P ([spec_l01NegF n, spec_l01AddF n]))) (by kernel_rfl : P.funcs[93]? = some Go.Proofs.Try.f93) (by kernel_rfl) (by kernel_rfl) (by kernel_rfl)
    (fun x y => spec_l01Sub_eq n x.1 x.2.1) (fun _ _ => map_same (fun _ => rfl) _) (fun _ _ _ _ => rfl)

abbrev spec_l04Lesssp : List Sp := [.v true (.pair (.int .i64) (.int .i64)), .v true (.pair (.int .i64) (.int .i64)), .v true (.pair (.int .i64) (.int .i64))]
abbrev spec_l04Lessbs : List (Bs × Bool) := []
abbrev spec_l04Lessrs : List (Bool × List Rp) := [(true, [.v false (.pair (.int .i64) (.int .i64))]), (false, [.v false (.int .i64)])]
noncomputable def spec_l04Lesskp : Keep := { loop := fun id => match id with | _ => ([], []), join := fun id => match id with | _ => none }
noncomputable def spec_l04Lessc : Code := bodyOf Go.Proofs.Try.f125
noncomputable def spec_l04LessF (n : Nat) : Fun := { id := 125, sp := spec_l04Lesssp, bs := spec_l04Lessbs, rs := spec_l04Lessrs, f := fun x y => spec_l04Less n x.1 x.2.1 x.2.2.1 }

theorem spec_l04Less_eq (n : Nat) (a0 : (Int) × (Int)) (a1 : (Int) × (Int)) (a2 : (Int) × (Int)) : runBody ([spec_l01MulF n, spec_l01SubF n]) ty 25 n spec_l04Lesskp spec_l04Lessc Go.Proofs.Try.f125.results.toList spec_l04Lessrs spec_l04Lesssp spec_l04Lessbs (a0, (a1, (a2, ()))) () = spec_l04Less n a0 a1 a2 := by
  refine Eq.trans (b := spec_l04Less_t n a0 a1 a2) (by kernel_rfl) ?_
  rfl

theorem spec_l04Less_ok (n : Nat) : FunOk P (spec_l04LessF n) :=
  funOk_mk (C := [spec_l01MulF n, spec_l01SubF n]) (N := 25) (kp := spec_l04Lesskp) (c := spec_l04Lessc) (n := n) (G := fun x y => spec_l04Less n x.1 x.2.1 x.2.2.1) follows (AllOk.mem (⟨spec_l01Mul_ok n, ⟨spec_l01Sub_ok n, trivial⟩⟩ : AllOk P ([spec_l01MulF n, spec_l01SubF n]))) (by kernel_rfl : P.funcs[125]? = some Go.Proofs.Try.f125) (by kernel_rfl) (by kernel_rfl) (by kernel_rfl)
    (fun x y => spec_l04Less_eq n x.1 x.2.1 x.2.2.1) (fun _ _ => map_same (fun _ => rfl) _) (fun _ _ _ _ => rfl)

abbrev spec_l04Solver_clearsp : List Sp := [.ref 0, .v false (.int .i64), .v false (.int .i64)]
abbrev spec_l04Solver_clearbs : List (Bs × Bool) := [(.rc 132 [.sl 1, .sl 2, .v (.int .i64)], true), (.pool (.pair (.int .i64) (.int .i64)), true), (.row (.pair (.int .i64) (.int .i64)), true)]
abbrev spec_l04Solver_clearrs : List (Bool × List Rp) := []
noncomputable def spec_l04Solver_clearkp : Keep := { loop := fun id => match id with | 1 => ([6, 0, 1, 2], []) | 7 => ([9, 0, 6, 1, 7, 2], []) | _ => ([], []), join := fun id => match id with | _ => none }
noncomputable def spec_l04Solver_clearc : Code := bodyOf Go.Proofs.Try.f110
noncomputable def spec_l04Solver_clearF (n : Nat) : Fun := { id := 110, sp := spec_l04Solver_clearsp, bs := spec_l04Solver_clearbs, rs := spec_l04Solver_clearrs, f := fun x y => spec_l04Solver_clear n x.2.1 x.2.2.1 y.1 y.2.1 y.2.2.1 }

noncomputable abbrev spec_l04Solver_clearcs (n : Nat) : List Fun := [spec_l01DivF n, spec_l04LessF n]
noncomputable abbrev spec_l04Solver_cleark0 (n : Nat) := kAt (spec_l04Solver_clearcs n) typ 166 3 n spec_l04Solver_clearkp spec_l04Solver_clearc [1, 0] [] (ending typ 3 Go.Proofs.Try.f110.results.toList spec_l04Solver_clearrs spec_l04Solver_clearbs)
theorem spec_l04Solver_clear_l7_eq (n : Nat) (G1 : St → Option ((Unit) × (((Int) × (Unit)) × (((List Nat) × (List (List (Int × Int)))) × ((List (Int × Int)) × (Unit)))))) : ∀ (k : Nat) (v9 : Int) (v6 : Int) (v1 : Int) (v2 : Int) (b0_2 : Int) (b1p : List Nat) (b1i : List (List (Int × Int))) (b2 : List (Int × Int)) (b3_0 : Int) (b3_1 : Int), iter (interp (spec_l04Solver_clearcs n) typ 166 3 n spec_l04Solver_clearkp (codeAt spec_l04Solver_clearc [1, 0, 0, 1, 0, 0, 1, 1, 1, 0, 1, 0, 0])) (canon 3 (spec_l04Solver_clearkp.loop 7)) (kAt (spec_l04Solver_clearcs n) typ 166 3 n spec_l04Solver_clearkp spec_l04Solver_clearc [1, 0, 0, 1, 0, 0, 1, 1, 1, 0, 1, 0] [G1] (ending typ 3 Go.Proofs.Try.f110.results.toList spec_l04Solver_clearrs spec_l04Solver_clearbs)) k { env := [(9, .one (.sc (.int .i64 v9))), (0, .one (.ref 0 0 0 0 0 0)), (6, .one (.sc (.int .i64 v6))), (1, .one (.sc (.int .i64 v1))), (7, .one (.ref 3 0 0 0 0 0)), (2, .one (.sc (.int .i64 v2)))], bx := [(0, .var 132 [.slice 1 0 none, .slice 2 0 none, .sc (.int .i64 b0_2)]), (1, .pool 0 (.pair (.int .i64) (.int .i64)) b1p b1i), (2, .row 0 (.pair (.int .i64) (.int .i64)) b2), (3, .var 26 [.sc (.int .i64 b3_0), .sc (.int .i64 b3_1)])], nx := 4 } = spec_l04Solver_clear_l7 n (fun v6 v1 v2 b0_2 b1p b1i b2 => G1 { env := [(6, .one (.sc (.int .i64 v6))), (0, .one (.ref 0 0 0 0 0 0)), (1, .one (.sc (.int .i64 v1))), (2, .one (.sc (.int .i64 v2)))], bx := [(0, .var 132 [.slice 1 0 none, .slice 2 0 none, .sc (.int .i64 b0_2)]), (1, .pool 0 (.pair (.int .i64) (.int .i64)) b1p b1i), (2, .row 0 (.pair (.int .i64) (.int .i64)) b2)], nx := 3 }) k v9 v6 v1 v2 b0_2 b1p b1i b2 b3_0 b3_1
  | 0, _, _, _, _, _, _, _, _, _, _ => by kernel_rfl
  | k + 1, v9, v6, v1, v2, b0_2, b1p, b1i, b2, b3_0, b3_1 => by
    refine Eq.trans (b := spec_l04Solver_clear_t7 n (fun v6 v1 v2 b0_2 b1p b1i b2 => G1 { env := [(6, .one (.sc (.int .i64 v6))), (0, .one (.ref 0 0 0 0 0 0)), (1, .one (.sc (.int .i64 v1))), (2, .one (.sc (.int .i64 v2)))], bx := [(0, .var 132 [.slice 1 0 none, .slice 2 0 none, .sc (.int .i64 b0_2)]), (1, .pool 0 (.pair (.int .i64) (.int .i64)) b1p b1i), (2, .row 0 (.pair (.int .i64) (.int .i64)) b2)], nx := 3 }) (fun v9 v6 v1 v2 b0_2 b1p b1i b2 b3_0 b3_1 => iter (interp (spec_l04Solver_clearcs n) typ 166 3 n spec_l04Solver_clearkp (codeAt spec_l04Solver_clearc [1, 0, 0, 1, 0, 0, 1, 1, 1, 0, 1, 0, 0])) (canon 3 (spec_l04Solver_clearkp.loop 7)) (kAt (spec_l04Solver_clearcs n) typ 166 3 n spec_l04Solver_clearkp spec_l04Solver_clearc [1, 0, 0, 1, 0, 0, 1, 1, 1, 0, 1, 0] [G1] (ending typ 3 Go.Proofs.Try.f110.results.toList spec_l04Solver_clearrs spec_l04Solver_clearbs)) k { env := [(9, .one (.sc (.int .i64 v9))), (0, .one (.ref 0 0 0 0 0 0)), (6, .one (.sc (.int .i64 v6))), (1, .one (.sc (.int .i64 v1))), (7, .one (.ref 3 0 0 0 0 0)), (2, .one (.sc (.int .i64 v2)))], bx := [(0, .var 132 [.slice 1 0 none, .slice 2 0 none, .sc (.int .i64 b0_2)]), (1, .pool 0 (.pair (.int .i64) (.int .i64)) b1p b1i), (2, .row 0 (.pair (.int .i64) (.int .i64)) b2), (3, .var 26 [.sc (.int .i64 b3_0), .sc (.int .i64 b3_1)])], nx := 4 }) v9 v6 v1 v2 b0_2 b1p b1i b2 b3_0 b3_1) (by kernel_rfl) ?_
    have e := congrArg (fun g => spec_l04Solver_clear_t7 n (fun v6 v1 v2 b0_2 b1p b1i b2 => G1 { env := [(6, .one (.sc (.int .i64 v6))), (0, .one (.ref 0 0 0 0 0 0)), (1, .one (.sc (.int .i64 v1))), (2, .one (.sc (.int .i64 v2)))], bx := [(0, .var 132 [.slice 1 0 none, .slice 2 0 none, .sc (.int .i64 b0_2)]), (1, .pool 0 (.pair (.int .i64) (.int .i64)) b1p b1i), (2, .row 0 (.pair (.int .i64) (.int .i64)) b2)], nx := 3 }) g v9 v6 v1 v2 b0_2 b1p b1i b2 b3_0 b3_1) (funext fun v9 => funext fun v6 => funext fun v1 => funext fun v2 => funext fun b0_2 => funext fun b1p => funext fun b1i => funext fun b2 => funext fun b3_0 => funext fun b3_1 => spec_l04Solver_clear_l7_eq n G1 k v9 v6 v1 v2 b0_2 b1p b1i b2 b3_0 b3_1)
    exact e

theorem spec_l04Solver_clear_l1_eq (n : Nat) : ∀ (k : Nat) (v6 : Int) (v1 : Int) (v2 : Int) (b0_2 : Int) (b1p : List Nat) (b1i : List (List (Int × Int))) (b2 : List (Int × Int)), iter (interp (spec_l04Solver_clearcs n) typ 166 3 n spec_l04Solver_clearkp (codeAt spec_l04Solver_clearc [1, 0, 0])) (canon 3 (spec_l04Solver_clearkp.loop 1)) (spec_l04Solver_cleark0 n) k { env := [(6, .one (.sc (.int .i64 v6))), (0, .one (.ref 0 0 0 0 0 0)), (1, .one (.sc (.int .i64 v1))), (2, .one (.sc (.int .i64 v2)))], bx := [(0, .var 132 [.slice 1 0 none, .slice 2 0 none, .sc (.int .i64 b0_2)]), (1, .pool 0 (.pair (.int .i64) (.int .i64)) b1p b1i), (2, .row 0 (.pair (.int .i64) (.int .i64)) b2)], nx := 3 } = spec_l04Solver_clear_l1 n k v6 v1 v2 b0_2 b1p b1i b2
  | 0, _, _, _, _, _, _, _ => by kernel_rfl
  | k + 1, v6, v1, v2, b0_2, b1p, b1i, b2 => by
    refine Eq.trans (b := spec_l04Solver_clear_t1 n (fun k' v9 v6 v1 v2 b0_2 b1p b1i b2 b3_0 b3_1 => iter (interp (spec_l04Solver_clearcs n) typ 166 3 n spec_l04Solver_clearkp (codeAt spec_l04Solver_clearc [1, 0, 0, 1, 0, 0, 1, 1, 1, 0, 1, 0, 0])) (canon 3 (spec_l04Solver_clearkp.loop 7)) (kAt (spec_l04Solver_clearcs n) typ 166 3 n spec_l04Solver_clearkp spec_l04Solver_clearc [1, 0, 0, 1, 0, 0, 1, 1, 1, 0, 1, 0] [(fun s => iter (interp (spec_l04Solver_clearcs n) typ 166 3 n spec_l04Solver_clearkp (codeAt spec_l04Solver_clearc [1, 0, 0])) (canon 3 (spec_l04Solver_clearkp.loop 1)) (spec_l04Solver_cleark0 n) k s)] (ending typ 3 Go.Proofs.Try.f110.results.toList spec_l04Solver_clearrs spec_l04Solver_clearbs)) k' { env := [(9, .one (.sc (.int .i64 v9))), (0, .one (.ref 0 0 0 0 0 0)), (6, .one (.sc (.int .i64 v6))), (1, .one (.sc (.int .i64 v1))), (7, .one (.ref 3 0 0 0 0 0)), (2, .one (.sc (.int .i64 v2)))], bx := [(0, .var 132 [.slice 1 0 none, .slice 2 0 none, .sc (.int .i64 b0_2)]), (1, .pool 0 (.pair (.int .i64) (.int .i64)) b1p b1i), (2, .row 0 (.pair (.int .i64) (.int .i64)) b2), (3, .var 26 [.sc (.int .i64 b3_0), .sc (.int .i64 b3_1)])], nx := 4 }) (fun v6 v1 v2 b0_2 b1p b1i b2 => iter (interp (spec_l04Solver_clearcs n) typ 166 3 n spec_l04Solver_clearkp (codeAt spec_l04Solver_clearc [1, 0, 0])) (canon 3 (spec_l04Solver_clearkp.loop 1)) (spec_l04Solver_cleark0 n) k { env := [(6, .one (.sc (.int .i64 v6))), (0, .one (.ref 0 0 0 0 0 0)), (1, .one (.sc (.int .i64 v1))), (2, .one (.sc (.int .i64 v2)))], bx := [(0, .var 132 [.slice 1 0 none, .slice 2 0 none, .sc (.int .i64 b0_2)]), (1, .pool 0 (.pair (.int .i64) (.int .i64)) b1p b1i), (2, .row 0 (.pair (.int .i64) (.int .i64)) b2)], nx := 3 }) v6 v1 v2 b0_2 b1p b1i b2) (by kernel_rfl) ?_
    have e := congr (congrArg (fun h7 g => spec_l04Solver_clear_t1 n h7 g v6 v1 v2 b0_2 b1p b1i b2) ((funext fun k' => funext fun v9 => funext fun v6 => funext fun v1 => funext fun v2 => funext fun b0_2 => funext fun b1p => funext fun b1i => funext fun b2 => funext fun b3_0 => funext fun b3_1 => spec_l04Solver_clear_l7_eq n (fun s => iter (interp (spec_l04Solver_clearcs n) typ 166 3 n spec_l04Solver_clearkp (codeAt spec_l04Solver_clearc [1, 0, 0])) (canon 3 (spec_l04Solver_clearkp.loop 1)) (spec_l04Solver_cleark0 n) k s) k' v9 v6 v1 v2 b0_2 b1p b1i b2 b3_0 b3_1).trans (congrArg (fun z => spec_l04Solver_clear_l7 n z) (funext fun v6 => funext fun v1 => funext fun v2 => funext fun b0_2 => funext fun b1p => funext fun b1i => funext fun b2 => spec_l04Solver_clear_l1_eq n k v6 v1 v2 b0_2 b1p b1i b2)))) (funext fun v6 => funext fun v1 => funext fun v2 => funext fun b0_2 => funext fun b1p => funext fun b1i => funext fun b2 => spec_l04Solver_clear_l1_eq n k v6 v1 v2 b0_2 b1p b1i b2)
    exact e

theorem spec_l04Solver_clear_eq (n : Nat) (a1 : Int) (a2 : Int) (b0 : (Int) × (Unit)) (b1 : (List Nat) × (List (List (Int × Int)))) (b2 : List (Int × Int)) : runBody (spec_l04Solver_clearcs n) typ 166 n spec_l04Solver_clearkp spec_l04Solver_clearc Go.Proofs.Try.f110.results.toList spec_l04Solver_clearrs spec_l04Solver_clearsp spec_l04Solver_clearbs ((), (a1, (a2, ()))) (b0, (b1, (b2, ()))) = spec_l04Solver_clear n a1 a2 b0 b1 b2 := by
  refine Eq.trans (b := spec_l04Solver_clear_t n (fun k v6 v1 v2 b0_2 b1p b1i b2 => iter (interp (spec_l04Solver_clearcs n) typ 166 3 n spec_l04Solver_clearkp (codeAt spec_l04Solver_clearc [1, 0, 0])) (canon 3 (spec_l04Solver_clearkp.loop 1)) (spec_l04Solver_cleark0 n) k { env := [(6, .one (.sc (.int .i64 v6))), (0, .one (.ref 0 0 0 0 0 0)), (1, .one (.sc (.int .i64 v1))), (2, .one (.sc (.int .i64 v2)))], bx := [(0, .var 132 [.slice 1 0 none, .slice 2 0 none, .sc (.int .i64 b0_2)]), (1, .pool 0 (.pair (.int .i64) (.int .i64)) b1p b1i), (2, .row 0 (.pair (.int .i64) (.int .i64)) b2)], nx := 3 }) a1 a2 b0 b1 b2) (by kernel_rfl) ?_
  have e := congrArg (fun h1 => spec_l04Solver_clear_t n h1 a1 a2 b0 b1 b2) (funext fun k => funext fun v6 => funext fun v1 => funext fun v2 => funext fun b0_2 => funext fun b1p => funext fun b1i => funext fun b2 => spec_l04Solver_clear_l1_eq n k v6 v1 v2 b0_2 b1p b1i b2)
  exact e

theorem spec_l04Solver_clear_ok (n : Nat) : FunOk P (spec_l04Solver_clearF n) :=
  funOk_mkP (C := [spec_l01DivF n, spec_l04LessF n]) (N := 166) (kp := spec_l04Solver_clearkp) (c := spec_l04Solver_clearc) (n := n) (G := fun x y => spec_l04Solver_clear n x.2.1 x.2.2.1 y.1 y.2.1 y.2.2.1) follows (AllOk.mem (⟨spec_l01Div_ok n, ⟨spec_l04Less_ok n, trivial⟩⟩ : AllOk P ([spec_l01DivF n, spec_l04LessF n]))) (by kernel_rfl : P.funcs[110]? = some Go.Proofs.Try.f110) (by kernel_rfl) (by kernel_rfl) (by kernel_rfl)
    (fun x y => spec_l04Solver_clear_eq n x.2.1 x.2.2.1 y.1 y.2.1 y.2.2.1) (fun _ _ => map_same (fun _ => rfl) _) (fun _ _ _ _ => rfl)

abbrev spec_l04Solver_findsp : List Sp := [.ref 0, .v false (.int .i64), .v false (.int .i64)]
abbrev spec_l04Solver_findbs : List (Bs × Bool) := [(.rc 132 [.sl 1, .sl 2, .v (.int .i64)], true), (.pool (.pair (.int .i64) (.int .i64)), true), (.row (.pair (.int .i64) (.int .i64)), true)]
abbrev spec_l04Solver_findrs : List (Bool × List Rp) := [(false, [.v false (.int .i64)])]
noncomputable def spec_l04Solver_findkp : Keep := { loop := fun id => match id with | 2 => ([7, 2, 0], []) | _ => ([], []), join := fun id => match id with | _ => none }
noncomputable def spec_l04Solver_findc : Code := bodyOf Go.Proofs.Try.f108
noncomputable def spec_l04Solver_findF (n : Nat) : Fun := { id := 108, sp := spec_l04Solver_findsp, bs := spec_l04Solver_findbs, rs := spec_l04Solver_findrs, f := fun x y => spec_l04Solver_find n x.2.1 x.2.2.1 y.1 y.2.1 y.2.2.1 }

noncomputable abbrev spec_l04Solver_findk0 (n : Nat) := kAt ([]) typ 31 3 n spec_l04Solver_findkp spec_l04Solver_findc [1, 0, 1, 0] [] (ending typ 3 Go.Proofs.Try.f108.results.toList spec_l04Solver_findrs spec_l04Solver_findbs)
theorem spec_l04Solver_find_l2_eq (n : Nat) : ∀ (k : Nat) (v7 : Int) (v2 : Int) (b0_2 : Int) (b1p : List Nat) (b1i : List (List (Int × Int))) (b2 : List (Int × Int)), iter (interp ([]) typ 31 3 n spec_l04Solver_findkp (codeAt spec_l04Solver_findc [1, 0, 1, 0, 0])) (canon 3 (spec_l04Solver_findkp.loop 2)) (spec_l04Solver_findk0 n) k { env := [(7, .one (.sc (.int .i64 v7))), (2, .one (.sc (.int .i64 v2))), (0, .one (.ref 0 0 0 0 0 0))], bx := [(0, .var 132 [.slice 1 0 none, .slice 2 0 none, .sc (.int .i64 b0_2)]), (1, .pool 0 (.pair (.int .i64) (.int .i64)) b1p b1i), (2, .row 0 (.pair (.int .i64) (.int .i64)) b2)], nx := 3 } = spec_l04Solver_find_l2 n k v7 v2 b0_2 b1p b1i b2
  | 0, _, _, _, _, _, _ => by kernel_rfl
  | k + 1, v7, v2, b0_2, b1p, b1i, b2 => by
    refine Eq.trans (b := spec_l04Solver_find_t2 n (fun v7 v2 b0_2 b1p b1i b2 => iter (interp ([]) typ 31 3 n spec_l04Solver_findkp (codeAt spec_l04Solver_findc [1, 0, 1, 0, 0])) (canon 3 (spec_l04Solver_findkp.loop 2)) (spec_l04Solver_findk0 n) k { env := [(7, .one (.sc (.int .i64 v7))), (2, .one (.sc (.int .i64 v2))), (0, .one (.ref 0 0 0 0 0 0))], bx := [(0, .var 132 [.slice 1 0 none, .slice 2 0 none, .sc (.int .i64 b0_2)]), (1, .pool 0 (.pair (.int .i64) (.int .i64)) b1p b1i), (2, .row 0 (.pair (.int .i64) (.int .i64)) b2)], nx := 3 }) v7 v2 b0_2 b1p b1i b2) (by kernel_rfl) ?_
    have e := congrArg (fun g => spec_l04Solver_find_t2 n g v7 v2 b0_2 b1p b1i b2) (funext fun v7 => funext fun v2 => funext fun b0_2 => funext fun b1p => funext fun b1i => funext fun b2 => spec_l04Solver_find_l2_eq n k v7 v2 b0_2 b1p b1i b2)
    exact e

theorem spec_l04Solver_find_eq (n : Nat) (a1 : Int) (a2 : Int) (b0 : (Int) × (Unit)) (b1 : (List Nat) × (List (List (Int × Int)))) (b2 : List (Int × Int)) : runBody ([]) typ 31 n spec_l04Solver_findkp spec_l04Solver_findc Go.Proofs.Try.f108.results.toList spec_l04Solver_findrs spec_l04Solver_findsp spec_l04Solver_findbs ((), (a1, (a2, ()))) (b0, (b1, (b2, ()))) = spec_l04Solver_find n a1 a2 b0 b1 b2 := by
  refine Eq.trans (b := spec_l04Solver_find_t n (fun k v7 v2 b0_2 b1p b1i b2 => iter (interp ([]) typ 31 3 n spec_l04Solver_findkp (codeAt spec_l04Solver_findc [1, 0, 1, 0, 0])) (canon 3 (spec_l04Solver_findkp.loop 2)) (spec_l04Solver_findk0 n) k { env := [(7, .one (.sc (.int .i64 v7))), (2, .one (.sc (.int .i64 v2))), (0, .one (.ref 0 0 0 0 0 0))], bx := [(0, .var 132 [.slice 1 0 none, .slice 2 0 none, .sc (.int .i64 b0_2)]), (1, .pool 0 (.pair (.int .i64) (.int .i64)) b1p b1i), (2, .row 0 (.pair (.int .i64) (.int .i64)) b2)], nx := 3 }) a1 a2 b0 b1 b2) (by kernel_rfl) ?_
  have e := congrArg (fun h2 => spec_l04Solver_find_t n h2 a1 a2 b0 b1 b2) (funext fun k => funext fun v7 => funext fun v2 => funext fun b0_2 => funext fun b1p => funext fun b1i => funext fun b2 => spec_l04Solver_find_l2_eq n k v7 v2 b0_2 b1p b1i b2)
  exact e

theorem spec_l04Solver_find_ok (n : Nat) : FunOk P (spec_l04Solver_findF n) :=
  funOk_mkP (C := []) (N := 31) (kp := spec_l04Solver_findkp) (c := spec_l04Solver_findc) (n := n) (G := fun x y => spec_l04Solver_find n x.2.1 x.2.2.1 y.1 y.2.1 y.2.2.1) follows (AllOk.mem (trivial : AllOk P ([]))) (by kernel_rfl : P.funcs[108]? = some Go.Proofs.Try.f108) (by kernel_rfl) (by kernel_rfl) (by kernel_rfl)
    (fun x y => spec_l04Solver_find_eq n x.2.1 x.2.2.1 y.1 y.2.1 y.2.2.1) (fun _ _ => map_same (fun _ => rfl) _) (fun _ _ _ _ => rfl)

abbrev spec_l04Solver_swapsp : List Sp := [.ref 0, .v false (.int .i64), .v false (.int .i64)]
abbrev spec_l04Solver_swapbs : List (Bs × Bool) := [(.rc 132 [.sl 1, .sl 2, .v (.int .i64)], true), (.pool (.pair (.int .i64) (.int .i64)), true), (.row (.pair (.int .i64) (.int .i64)), true)]
abbrev spec_l04Solver_swaprs : List (Bool × List Rp) := []
noncomputable def spec_l04Solver_swapkp : Keep := { loop := fun id => match id with | _ => ([], []), join := fun id => match id with | _ => none }
noncomputable def spec_l04Solver_swapc : Code := bodyOf Go.Proofs.Try.f109
noncomputable def spec_l04Solver_swapF (n : Nat) : Fun := { id := 109, sp := spec_l04Solver_swapsp, bs := spec_l04Solver_swapbs, rs := spec_l04Solver_swaprs, f := fun x y => spec_l04Solver_swap n x.2.1 x.2.2.1 y.1 y.2.1 y.2.2.1 }

theorem spec_l04Solver_swap_eq (n : Nat) (a1 : Int) (a2 : Int) (b0 : (Int) × (Unit)) (b1 : (List Nat) × (List (List (Int × Int)))) (b2 : List (Int × Int)) : runBody ([]) typ 62 n spec_l04Solver_swapkp spec_l04Solver_swapc Go.Proofs.Try.f109.results.toList spec_l04Solver_swaprs spec_l04Solver_swapsp spec_l04Solver_swapbs ((), (a1, (a2, ()))) (b0, (b1, (b2, ()))) = spec_l04Solver_swap n a1 a2 b0 b1 b2 := by
  refine Eq.trans (b := spec_l04Solver_swap_t n a1 a2 b0 b1 b2) (by kernel_rfl) ?_
  rfl

theorem spec_l04Solver_swap_ok (n : Nat) : FunOk P (spec_l04Solver_swapF n) :=
  funOk_mkP (C := []) (N := 62) (kp := spec_l04Solver_swapkp) (c := spec_l04Solver_swapc) (n := n) (G := fun x y => spec_l04Solver_swap n x.2.1 x.2.2.1 y.1 y.2.1 y.2.2.1) follows (AllOk.mem (trivial : AllOk P ([]))) (by kernel_rfl : P.funcs[109]? = some Go.Proofs.Try.f109) (by kernel_rfl) (by kernel_rfl) (by kernel_rfl)
    (fun x y => spec_l04Solver_swap_eq n x.2.1 x.2.2.1 y.1 y.2.1 y.2.2.1) (fun _ _ => map_same (fun _ => rfl) _) (fun _ _ _ _ => rfl)

abbrev spec_l04Solvesp : List Sp := [.v false (.list (.list (.pair (.int .i64) (.int .i64)))), .v false (.list (.pair (.int .i64) (.int .i64)))]
abbrev spec_l04Solvebs : List (Bs × Bool) := []
abbrev spec_l04Solvers : List (Bool × List Rp) := [(false, [.new  (.pair (.int .i64) (.int .i64))]), (false, [.v false (.int .i64)])]
noncomputable def spec_l04Solvekp : Keep := { loop := fun id => match id with | 3 => ([6, 7, 0], []) | 14 => ([10, 9, 6, 0], []) | _ => ([], []), join := fun id => match id with | _ => none }
noncomputable def spec_l04Solvec : Code := bodyOf Go.Proofs.Try.f69
noncomputable def spec_l04SolveF (n : Nat) : Fun := { id := 69, sp := spec_l04Solvesp, bs := spec_l04Solvebs, rs := spec_l04Solvers, f := fun x y => spec_l04Solve n x.1 x.2.1 }

noncomputable abbrev spec_l04Solvecs (n : Nat) : List Fun := [spec_l04BeginF n, spec_l04Solver_findF n, spec_l04Solver_swapF n, spec_l04Solver_clearF n, spec_l01DivF n]
noncomputable abbrev spec_l04Solvek0 (n : Nat) := kAt (spec_l04Solvecs n) typ 84 0 n spec_l04Solvekp spec_l04Solvec [1, 1, 1, 1, 0, 1, 0] [] (ending typ 0 Go.Proofs.Try.f69.results.toList spec_l04Solvers spec_l04Solvebs)
noncomputable abbrev spec_l04Solvek1 (n : Nat) := kAt (spec_l04Solvecs n) typ 84 0 n spec_l04Solvekp spec_l04Solvec [1, 1, 0, 1, 0] [] (ending typ 0 Go.Proofs.Try.f69.results.toList spec_l04Solvers spec_l04Solvebs)
theorem spec_l04Solve_l14_eq (n : Nat) : ∀ (k : Nat) (v10 : Int) (v0 : List (List (Int × Int))) (b0 : List (Int × Int)) (b1_2 : Int) (b2p : List Nat) (b2i : List (List (Int × Int))) (b3 : List (Int × Int)), iter (interp (spec_l04Solvecs n) typ 84 0 n spec_l04Solvekp (codeAt spec_l04Solvec [1, 1, 1, 1, 0, 1, 0, 0])) (canon 0 (spec_l04Solvekp.loop 14)) (spec_l04Solvek0 n) k { env := [(10, .one (.sc (.int .i64 v10))), (9, .one (.slice 0 0 none)), (6, .one (.ref 1 0 0 0 0 0)), (0, .one (.list true (.list (.pair (.int .i64) (.int .i64))) v0))], bx := [(0, .row 0 (.pair (.int .i64) (.int .i64)) b0), (1, .var 132 [.slice 2 0 none, .slice 3 0 none, .sc (.int .i64 b1_2)]), (2, .pool 0 (.pair (.int .i64) (.int .i64)) b2p b2i), (3, .row 0 (.pair (.int .i64) (.int .i64)) b3)], nx := 4 } = spec_l04Solve_l14 n k v10 v0 b0 b1_2 b2p b2i b3
  | 0, _, _, _, _, _, _, _ => by kernel_rfl
  | k + 1, v10, v0, b0, b1_2, b2p, b2i, b3 => by
    refine Eq.trans (b := spec_l04Solve_t14 n (fun v10 v0 b0 b1_2 b2p b2i b3 => iter (interp (spec_l04Solvecs n) typ 84 0 n spec_l04Solvekp (codeAt spec_l04Solvec [1, 1, 1, 1, 0, 1, 0, 0])) (canon 0 (spec_l04Solvekp.loop 14)) (spec_l04Solvek0 n) k { env := [(10, .one (.sc (.int .i64 v10))), (9, .one (.slice 0 0 none)), (6, .one (.ref 1 0 0 0 0 0)), (0, .one (.list true (.list (.pair (.int .i64) (.int .i64))) v0))], bx := [(0, .row 0 (.pair (.int .i64) (.int .i64)) b0), (1, .var 132 [.slice 2 0 none, .slice 3 0 none, .sc (.int .i64 b1_2)]), (2, .pool 0 (.pair (.int .i64) (.int .i64)) b2p b2i), (3, .row 0 (.pair (.int .i64) (.int .i64)) b3)], nx := 4 }) v10 v0 b0 b1_2 b2p b2i b3) (by kernel_rfl) ?_
    have e := congrArg (fun g => spec_l04Solve_t14 n g v10 v0 b0 b1_2 b2p b2i b3) (funext fun v10 => funext fun v0 => funext fun b0 => funext fun b1_2 => funext fun b2p => funext fun b2i => funext fun b3 => spec_l04Solve_l14_eq n k v10 v0 b0 b1_2 b2p b2i b3)
    exact e

theorem spec_l04Solve_l3_eq (n : Nat) : ∀ (k : Nat) (v7 : Int) (v0 : List (List (Int × Int))) (b0_2 : Int) (b1p : List Nat) (b1i : List (List (Int × Int))) (b2 : List (Int × Int)), iter (interp (spec_l04Solvecs n) typ 84 0 n spec_l04Solvekp (codeAt spec_l04Solvec [1, 1, 0, 1, 0, 0])) (canon 0 (spec_l04Solvekp.loop 3)) (spec_l04Solvek1 n) k { env := [(6, .one (.ref 0 0 0 0 0 0)), (7, .one (.sc (.int .i64 v7))), (0, .one (.list true (.list (.pair (.int .i64) (.int .i64))) v0))], bx := [(0, .var 132 [.slice 1 0 none, .slice 2 0 none, .sc (.int .i64 b0_2)]), (1, .pool 0 (.pair (.int .i64) (.int .i64)) b1p b1i), (2, .row 0 (.pair (.int .i64) (.int .i64)) b2)], nx := 3 } = spec_l04Solve_l3 n k v7 v0 b0_2 b1p b1i b2
  | 0, _, _, _, _, _, _ => by kernel_rfl
  | k + 1, v7, v0, b0_2, b1p, b1i, b2 => by
    refine Eq.trans (b := spec_l04Solve_t3 n (fun k' v10 v0 b0 b1_2 b2p b2i b3 => iter (interp (spec_l04Solvecs n) typ 84 0 n spec_l04Solvekp (codeAt spec_l04Solvec [1, 1, 1, 1, 0, 1, 0, 0])) (canon 0 (spec_l04Solvekp.loop 14)) (spec_l04Solvek0 n) k' { env := [(10, .one (.sc (.int .i64 v10))), (9, .one (.slice 0 0 none)), (6, .one (.ref 1 0 0 0 0 0)), (0, .one (.list true (.list (.pair (.int .i64) (.int .i64))) v0))], bx := [(0, .row 0 (.pair (.int .i64) (.int .i64)) b0), (1, .var 132 [.slice 2 0 none, .slice 3 0 none, .sc (.int .i64 b1_2)]), (2, .pool 0 (.pair (.int .i64) (.int .i64)) b2p b2i), (3, .row 0 (.pair (.int .i64) (.int .i64)) b3)], nx := 4 }) (fun v7 v0 b0_2 b1p b1i b2 => iter (interp (spec_l04Solvecs n) typ 84 0 n spec_l04Solvekp (codeAt spec_l04Solvec [1, 1, 0, 1, 0, 0])) (canon 0 (spec_l04Solvekp.loop 3)) (spec_l04Solvek1 n) k { env := [(6, .one (.ref 0 0 0 0 0 0)), (7, .one (.sc (.int .i64 v7))), (0, .one (.list true (.list (.pair (.int .i64) (.int .i64))) v0))], bx := [(0, .var 132 [.slice 1 0 none, .slice 2 0 none, .sc (.int .i64 b0_2)]), (1, .pool 0 (.pair (.int .i64) (.int .i64)) b1p b1i), (2, .row 0 (.pair (.int .i64) (.int .i64)) b2)], nx := 3 }) v7 v0 b0_2 b1p b1i b2) (by kernel_rfl) ?_
    have e := congr (congrArg (fun h14 g => spec_l04Solve_t3 n h14 g v7 v0 b0_2 b1p b1i b2) (funext fun k' => funext fun v10 => funext fun v0 => funext fun b0 => funext fun b1_2 => funext fun b2p => funext fun b2i => funext fun b3 => spec_l04Solve_l14_eq n k' v10 v0 b0 b1_2 b2p b2i b3)) (funext fun v7 => funext fun v0 => funext fun b0_2 => funext fun b1p => funext fun b1i => funext fun b2 => spec_l04Solve_l3_eq n k v7 v0 b0_2 b1p b1i b2)
    exact e

theorem spec_l04Solve_eq (n : Nat) (a0 : List (List (Int × Int))) (a1 : List (Int × Int)) : runBody (spec_l04Solvecs n) typ 84 n spec_l04Solvekp spec_l04Solvec Go.Proofs.Try.f69.results.toList spec_l04Solvers spec_l04Solvesp spec_l04Solvebs (a0, (a1, ())) () = spec_l04Solve n a0 a1 := by
  refine Eq.trans (b := spec_l04Solve_t n (fun k v7 v0 b0_2 b1p b1i b2 => iter (interp (spec_l04Solvecs n) typ 84 0 n spec_l04Solvekp (codeAt spec_l04Solvec [1, 1, 0, 1, 0, 0])) (canon 0 (spec_l04Solvekp.loop 3)) (spec_l04Solvek1 n) k { env := [(6, .one (.ref 0 0 0 0 0 0)), (7, .one (.sc (.int .i64 v7))), (0, .one (.list true (.list (.pair (.int .i64) (.int .i64))) v0))], bx := [(0, .var 132 [.slice 1 0 none, .slice 2 0 none, .sc (.int .i64 b0_2)]), (1, .pool 0 (.pair (.int .i64) (.int .i64)) b1p b1i), (2, .row 0 (.pair (.int .i64) (.int .i64)) b2)], nx := 3 }) a0 a1) (by kernel_rfl) ?_
  have e := congrArg (fun h3 => spec_l04Solve_t n h3 a0 a1) (funext fun k => funext fun v7 => funext fun v0 => funext fun b0_2 => funext fun b1p => funext fun b1i => funext fun b2 => spec_l04Solve_l3_eq n k v7 v0 b0_2 b1p b1i b2)
  exact e

theorem spec_l04Solve_ok (n : Nat) : FunOk P (spec_l04SolveF n) :=
  funOk_mkP (C := [spec_l04BeginF n, spec_l04Solver_findF n, spec_l04Solver_swapF n, spec_l04Solver_clearF n, spec_l01DivF n]) (N := 84) (kp := spec_l04Solvekp) (c := spec_l04Solvec) (n := n) (G := fun x y => spec_l04Solve n x.1 x.2.1) follows (AllOk.mem (⟨spec_l04Begin_ok n, ⟨spec_l04Solver_find_ok n, ⟨spec_l04Solver_swap_ok n, ⟨spec_l04Solver_clear_ok n, ⟨spec_l01Div_ok n, trivial⟩⟩⟩⟩⟩ : AllOk P ([spec_l04BeginF n, spec_l04Solver_findF n, spec_l04Solver_swapF n, spec_l04Solver_clearF n, spec_l01DivF n]))) (by kernel_rfl : P.funcs[69]? = some Go.Proofs.Try.f69) (by kernel_rfl) (by kernel_rfl) (by kernel_rfl)
    (fun x y => spec_l04Solve_eq n x.1 x.2.1) (fun _ _ => map_same (fun _ => rfl) _) (fun _ _ _ _ => rfl)

abbrev spec_CorrectionsOfsp : List Sp := [.v true (.pair (.int .i64) (.pair (.list (.pair (.pair (.int .i8) (.pair (.int .i8) (.pair (.int .i8) (.pair (.int .i8) (.pair (.int .i8) (.int .i8)))))) (.pair (.pair (.int .i64) (.int .i64)) (.int .i64)))) (.pair .bool (.pair (.int .i64) (.int .i64)))))]
abbrev spec_CorrectionsOfbs : List (Bs × Bool) := []
abbrev spec_CorrectionsOfrs : List (Bool × List Rp) := [(false, [.new  (.pair (.int .i64) (.int .i64))]), (false, [.v false (.int .i64)])]
noncomputable def spec_CorrectionsOfkp : Keep := { loop := fun id => match id with | _ => ([], []), join := fun id => match id with | _ => none }
noncomputable def spec_CorrectionsOfc : Code := bodyOf Go.Proofs.Try.f53
noncomputable def spec_CorrectionsOfF (n : Nat) : Fun := { id := 53, sp := spec_CorrectionsOfsp, bs := spec_CorrectionsOfbs, rs := spec_CorrectionsOfrs, f := fun x y => spec_CorrectionsOf n x.1 }

theorem spec_CorrectionsOf_eq (n : Nat) (a0 : (Int) × ((List (((Int) × ((Int) × ((Int) × ((Int) × (Int × Int))))) × ((Int × Int) × (Int)))) × ((Bool) × (Int × Int)))) : runBody ([spec_NormalOfF n, spec_l04SolveF n]) ty 35 n spec_CorrectionsOfkp spec_CorrectionsOfc Go.Proofs.Try.f53.results.toList spec_CorrectionsOfrs spec_CorrectionsOfsp spec_CorrectionsOfbs (a0, ()) () = spec_CorrectionsOf n a0 := by
  refine Eq.trans (b := spec_CorrectionsOf_t n a0) (by kernel_rfl) ?_
  rfl

theorem spec_CorrectionsOf_ok (n : Nat) : FunOk P (spec_CorrectionsOfF n) :=
  funOk_mk (C := [spec_NormalOfF n, spec_l04SolveF n]) (N := 35) (kp := spec_CorrectionsOfkp) (c := spec_CorrectionsOfc) (n := n) (G := fun x y => spec_CorrectionsOf n x.1) follows (AllOk.mem (⟨spec_NormalOf_ok n, ⟨spec_l04Solve_ok n, trivial⟩⟩ : AllOk P ([spec_NormalOfF n, spec_l04SolveF n]))) (by kernel_rfl : P.funcs[53]? = some Go.Proofs.Try.f53) (by kernel_rfl) (by kernel_rfl) (by kernel_rfl)
    (fun x y => spec_CorrectionsOf_eq n x.1) (fun _ _ => map_same (fun _ => rfl) _) (fun _ _ _ _ => rfl)

abbrev laws_FnExactCorrectionsOfsp : List Sp := [.v true (.pair (.int .i64) (.pair (.list (.pair (.pair (.int .i8) (.pair (.int .i8) (.pair (.int .i8) (.pair (.int .i8) (.pair (.int .i8) (.int .i8)))))) (.pair (.pair (.int .i64) (.int .i64)) (.int .i64)))) (.pair .bool (.pair (.int .i64) (.int .i64)))))]
abbrev laws_FnExactCorrectionsOfbs : List (Bs × Bool) := []
abbrev laws_FnExactCorrectionsOfrs : List (Bool × List Rp) := [(false, [.v false .bool])]
noncomputable def laws_FnExactCorrectionsOfkp : Keep := { loop := fun id => match id with | _ => ([], []), join := fun id => match id with | _ => none }
noncomputable def laws_FnExactCorrectionsOfc : Code := bodyOf Go.Proofs.Try.f8
noncomputable def laws_FnExactCorrectionsOfF (n : Nat) : Fun := { id := 8, sp := laws_FnExactCorrectionsOfsp, bs := laws_FnExactCorrectionsOfbs, rs := laws_FnExactCorrectionsOfrs, f := fun x y => laws_FnExactCorrectionsOf n x.1 }

theorem laws_FnExactCorrectionsOf_eq (n : Nat) (a0 : (Int) × ((List (((Int) × ((Int) × ((Int) × ((Int) × (Int × Int))))) × ((Int × Int) × (Int)))) × ((Bool) × (Int × Int)))) : runBody ([laws_szTableF n, laws_toTableF n, spec_CorrectionsOfF n, impl_CorrectionsOfF n, laws_eqFracSF n, laws_eqTableF n, laws_markTableF n, laws_markFracSF n, laws_heldFracSF n]) ty 96 n laws_FnExactCorrectionsOfkp laws_FnExactCorrectionsOfc Go.Proofs.Try.f8.results.toList laws_FnExactCorrectionsOfrs laws_FnExactCorrectionsOfsp laws_FnExactCorrectionsOfbs (a0, ()) () = laws_FnExactCorrectionsOf n a0 := by
  refine Eq.trans (b := laws_FnExactCorrectionsOf_t n a0) (by kernel_rfl) ?_
  rfl

theorem laws_FnExactCorrectionsOf_ok (n : Nat) : FunOk P (laws_FnExactCorrectionsOfF n) :=
  funOk_mk (C := [laws_szTableF n, laws_toTableF n, spec_CorrectionsOfF n, impl_CorrectionsOfF n, laws_eqFracSF n, laws_eqTableF n, laws_markTableF n, laws_markFracSF n, laws_heldFracSF n]) (N := 96) (kp := laws_FnExactCorrectionsOfkp) (c := laws_FnExactCorrectionsOfc) (n := n) (G := fun x y => laws_FnExactCorrectionsOf n x.1) follows (AllOk.mem (⟨laws_szTable_ok n, ⟨laws_toTable_ok n, ⟨spec_CorrectionsOf_ok n, ⟨impl_CorrectionsOf_ok n, ⟨laws_eqFracS_ok n, ⟨laws_eqTable_ok n, ⟨laws_markTable_ok n, ⟨laws_markFracS_ok n, ⟨laws_heldFracS_ok n, trivial⟩⟩⟩⟩⟩⟩⟩⟩⟩ : AllOk P ([laws_szTableF n, laws_toTableF n, spec_CorrectionsOfF n, impl_CorrectionsOfF n, laws_eqFracSF n, laws_eqTableF n, laws_markTableF n, laws_markFracSF n, laws_heldFracSF n]))) (by kernel_rfl : P.funcs[8]? = some Go.Proofs.Try.f8) (by kernel_rfl) (by kernel_rfl) (by kernel_rfl)
    (fun x y => laws_FnExactCorrectionsOf_eq n x.1) (fun _ _ => map_same (fun _ => rfl) _) (fun _ _ _ _ => rfl)

end Go.Abs
