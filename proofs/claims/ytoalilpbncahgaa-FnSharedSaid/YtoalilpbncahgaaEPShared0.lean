import Derived.Test.YtoalilpbncahgaaDPShared0
import Derived.Test.YtoalilpbncahgaaProg
import Derived.Test.YtoalilpbncahgaaRow
import Derived.KernelRfl
namespace Go.Abs
open Go.Proofs
set_option maxRecDepth 100000
set_option linter.unusedVariables false

noncomputable abbrev P : Program := Try.prog
noncomputable abbrev ty : Nat → Option TyI := tyOf P
noncomputable abbrev typ : Nat → Option TyI := tyP P
def bodyOf (f : Func) : Code := match f.body with | some c => c | none => .skip
theorem follows : P.follows .mixedOrders = true := by kernel_rfl

noncomputable instance : Laid P := Laid.none P

abbrev tF : Tc := (.pair (.int .i64) (.int .i64))
abbrev tO : Tc := (.pair (.pair (.int .i8) (.pair (.int .i8) (.pair (.int .i8) (.pair (.int .i8) (.pair (.int .i8) (.int .i8)))))) (.pair (.pair (.int .i64) (.int .i64)) (.int .i64)))
abbrev impl_gcdsp : List Sp := [.v false (.int .i64), .v false (.int .i64)]
abbrev impl_gcdbs : List (Bs × Bool) := []
abbrev impl_gcdrs : List (Bool × List Rp) := [(false, [.v false (.int .i64)])]
noncomputable def impl_gcdkp : Keep := { loop := fun id => match id with | 1 => ([1, 0], []) | _ => ([], []), join := fun id => match id with | _ => none }
noncomputable def impl_gcdc : Code := bodyOf Go.Proofs.Try.f130
noncomputable def impl_gcdF (n : Nat) : Fun := { id := 130, sp := impl_gcdsp, bs := impl_gcdbs, rs := impl_gcdrs, f := fun x y => impl_gcd n x.1 x.2.1 }

abbrev impl_gcds1 (v1 : Int) (v0 : Int) : St := { env := [(1, .one (.sc (.int .i64 v1))), (0, .one (.sc (.int .i64 v0)))], bx := [], nx := 0 }
noncomputable abbrev impl_gcdk0 (n : Nat) := kAt ([]) ty 15 0 n impl_gcdkp impl_gcdc [1, 0, 0] [] (ending ty 0 Go.Proofs.Try.f130.results.toList impl_gcdrs impl_gcdbs)
theorem impl_gcd_l1_eq (n : Nat) : ∀ (k : Nat) (v1 : Int) (v0 : Int), iter (interp ([]) ty 15 0 n impl_gcdkp (codeAt impl_gcdc [1, 0, 0, 0])) (canon 0 (impl_gcdkp.loop 1)) (impl_gcdk0 n) k (impl_gcds1 v1 v0) = impl_gcd_l1 n k v1 v0
  | 0, _, _ => by kernel_rfl
  | k + 1, v1, v0 => by
    refine Eq.trans (b := impl_gcd_t1 n (fun v1 v0 => iter (interp ([]) ty 15 0 n impl_gcdkp (codeAt impl_gcdc [1, 0, 0, 0])) (canon 0 (impl_gcdkp.loop 1)) (impl_gcdk0 n) k (impl_gcds1 v1 v0)) v1 v0) (by kernel_rfl) ?_
    have e := congrArg (fun g => impl_gcd_t1 n g v1 v0) (funext fun v1 => funext fun v0 => impl_gcd_l1_eq n k v1 v0)
    exact e

theorem impl_gcd_eq (n : Nat) (a0 : Int) (a1 : Int) : runBody ([]) ty 15 n impl_gcdkp impl_gcdc Go.Proofs.Try.f130.results.toList impl_gcdrs impl_gcdsp impl_gcdbs (a0, (a1, ())) () = impl_gcd n a0 a1 := by
  refine Eq.trans (b := impl_gcd_t n (fun k v1 v0 => iter (interp ([]) ty 15 0 n impl_gcdkp (codeAt impl_gcdc [1, 0, 0, 0])) (canon 0 (impl_gcdkp.loop 1)) (impl_gcdk0 n) k (impl_gcds1 v1 v0)) a0 a1) (by kernel_rfl) ?_
  have e := congrArg (fun h1 => impl_gcd_t n h1 a0 a1) (funext fun k => funext fun v1 => funext fun v0 => impl_gcd_l1_eq n k v1 v0)
  exact e

theorem impl_gcd_ok (n : Nat) : FunOk P (impl_gcdF n) :=
  funOk_mk (C := []) (N := 15) (kp := impl_gcdkp) (c := impl_gcdc) (n := n) (G := fun x y => impl_gcd n x.1 x.2.1) follows (AllOk.mem (trivial : AllOk P ([]))) (by kernel_rfl : P.funcs[130]? = some Go.Proofs.Try.f130) (by kernel_rfl) (by kernel_rfl) (by kernel_rfl)
    (fun x y => impl_gcd_eq n x.1 x.2.1) (fun _ _ => map_same (fun _ => rfl) _) (fun _ _ _ _ => rfl)

abbrev impl_withinsp : List Sp := [.v false (.int .i64), .v false (.int .i64), .v false (.int .i64)]
abbrev impl_withinbs : List (Bs × Bool) := []
abbrev impl_withinrs : List (Bool × List Rp) := [(false, [.v false .bool])]
noncomputable def impl_withinkp : Keep := { loop := fun id => match id with | _ => ([], []), join := fun id => match id with | _ => none }
noncomputable def impl_withinc : Code := bodyOf Go.Proofs.Try.f81
noncomputable def impl_withinF (n : Nat) : Fun := { id := 81, sp := impl_withinsp, bs := impl_withinbs, rs := impl_withinrs, f := fun x y => impl_within n x.1 x.2.1 x.2.2.1 }

theorem impl_within_eq (n : Nat) (a0 : Int) (a1 : Int) (a2 : Int) : runBody ([]) ty 15 n impl_withinkp impl_withinc Go.Proofs.Try.f81.results.toList impl_withinrs impl_withinsp impl_withinbs (a0, (a1, (a2, ()))) () = impl_within n a0 a1 a2 := by
  refine Eq.trans (b := impl_within_t n a0 a1 a2) (by kernel_rfl) ?_
  rfl

theorem impl_within_ok (n : Nat) : FunOk P (impl_withinF n) :=
  funOk_mk (C := []) (N := 15) (kp := impl_withinkp) (c := impl_withinc) (n := n) (G := fun x y => impl_within n x.1 x.2.1 x.2.2.1) follows (AllOk.mem (trivial : AllOk P ([]))) (by kernel_rfl : P.funcs[81]? = some Go.Proofs.Try.f81) (by kernel_rfl) (by kernel_rfl) (by kernel_rfl)
    (fun x y => impl_within_eq n x.1 x.2.1 x.2.2.1) (fun _ _ => map_same (fun _ => rfl) _) (fun _ _ _ _ => rfl)

abbrev impl_ValidFracsp : List Sp := [.v true tF]
abbrev impl_ValidFracbs : List (Bs × Bool) := []
abbrev impl_ValidFracrs : List (Bool × List Rp) := [(false, [.v false .bool])]
noncomputable def impl_ValidFrackp : Keep := { loop := fun id => match id with | _ => ([], []), join := fun id => match id with | _ => none }
noncomputable def impl_ValidFracc : Code := bodyOf Go.Proofs.Try.f86
noncomputable def impl_ValidFracF (n : Nat) : Fun := { id := 86, sp := impl_ValidFracsp, bs := impl_ValidFracbs, rs := impl_ValidFracrs, f := fun x y => impl_ValidFrac n x.1 }

theorem impl_ValidFrac_eq (n : Nat) (a0 : (Int) × (Int)) : runBody ([impl_withinF n, impl_gcdF n]) ty 19 n impl_ValidFrackp impl_ValidFracc Go.Proofs.Try.f86.results.toList impl_ValidFracrs impl_ValidFracsp impl_ValidFracbs (a0, ()) () = impl_ValidFrac n a0 := by
  refine Eq.trans (b := impl_ValidFrac_t n a0) (by kernel_rfl) ?_
  rfl

theorem impl_ValidFrac_ok (n : Nat) : FunOk P (impl_ValidFracF n) :=
  funOk_mk (C := [impl_withinF n, impl_gcdF n]) (N := 19) (kp := impl_ValidFrackp) (c := impl_ValidFracc) (n := n) (G := fun x y => impl_ValidFrac n x.1) follows (AllOk.mem (⟨impl_within_ok n, ⟨impl_gcd_ok n, trivial⟩⟩ : AllOk P ([impl_withinF n, impl_gcdF n]))) (by kernel_rfl : P.funcs[86]? = some Go.Proofs.Try.f86) (by kernel_rfl) (by kernel_rfl) (by kernel_rfl)
    (fun x y => impl_ValidFrac_eq n x.1) (fun _ _ => map_same (fun _ => rfl) _) (fun _ _ _ _ => rfl)

abbrev impl_ValidTablesp : List Sp := [.v true (.pair (.int .i64) (.pair (.list tO) (.pair .bool tF)))]
abbrev impl_ValidTablebs : List (Bs × Bool) := []
abbrev impl_ValidTablers : List (Bool × List Rp) := [(false, [.v false .bool])]
noncomputable def impl_ValidTablekp : Keep := { loop := fun id => match id with | 4 => ([1, 38, 36, 37], []) | 8 => ([44, 5, 1, 43, 36, 37, 38, 4], []) | _ => ([], []), join := fun id => match id with | _ => none }
noncomputable def impl_ValidTablec : Code := bodyOf Go.Proofs.Try.f56
noncomputable def impl_ValidTableF (n : Nat) : Fun := { id := 56, sp := impl_ValidTablesp, bs := impl_ValidTablebs, rs := impl_ValidTablers, f := fun x y => impl_ValidTable n x.1 }

noncomputable abbrev impl_ValidTablecs (n : Nat) : List Fun := [impl_withinF n, impl_ValidFracF n]
abbrev impl_ValidTables8 (v44 : Int) (v5 : Bool) (v43_0 : Int) (v43_1 : Int) (v43_2 : Int) (v43_3 : Int) (v43_4 : Int) (v43_5 : Int) (v36 : List OB9) (v37 : Int) (v38 : Int) (b0_0 : Int) (b0_1 : List OB9) (b0_2 : Bool) (b0_3 : Int) (b0_4 : Int) (b1_0 : Int) (b1_1 : Int) (b1_2 : Int) (b1_3 : Int) (b1_4 : Int) (b1_5 : Int) (b1_6 : Int) (b1_7 : Int) (b1_8 : Int) : St := { env := [(44, .one (.sc (.int .i64 v44))), (5, .one (.sc (.bool v5))), (1, .one (.ref 0 0 0 0 0 0)), (43, .agg [.sc (.int .i8 v43_0), .sc (.int .i8 v43_1), .sc (.int .i8 v43_2), .sc (.int .i8 v43_3), .sc (.int .i8 v43_4), .sc (.int .i8 v43_5)]), (36, .one (.list true tO v36)), (37, .one (.sc (.int .i64 v37))), (38, .one (.sc (.int .i64 v38))), (4, .one (.ref 1 0 0 0 0 0))], bx := [(0, .var 28 [.sc (.int .i64 b0_0), .list true tO b0_1, .sc (.bool b0_2), .sc (.int .i64 b0_3), .sc (.int .i64 b0_4)]), (1, .var 49 [.sc (.int .i8 b1_0), .sc (.int .i8 b1_1), .sc (.int .i8 b1_2), .sc (.int .i8 b1_3), .sc (.int .i8 b1_4), .sc (.int .i8 b1_5), .sc (.int .i64 b1_6), .sc (.int .i64 b1_7), .sc (.int .i64 b1_8)])], nx := 2 }
abbrev impl_ValidTables4 (v38 : Int) (v36 : List OB9) (v37 : Int) (b0_0 : Int) (b0_1 : List OB9) (b0_2 : Bool) (b0_3 : Int) (b0_4 : Int) : St := { env := [(1, .one (.ref 0 0 0 0 0 0)), (38, .one (.sc (.int .i64 v38))), (36, .one (.list true tO v36)), (37, .one (.sc (.int .i64 v37)))], bx := [(0, .var 28 [.sc (.int .i64 b0_0), .list true tO b0_1, .sc (.bool b0_2), .sc (.int .i64 b0_3), .sc (.int .i64 b0_4)])], nx := 1 }
noncomputable abbrev impl_ValidTablek0 (n : Nat) := kAt (impl_ValidTablecs n) ty 83 0 n impl_ValidTablekp impl_ValidTablec [1, 1, 0, 1, 0] [] (ending ty 0 Go.Proofs.Try.f56.results.toList impl_ValidTablers impl_ValidTablebs)
theorem impl_ValidTable_l8_eq (n : Nat) (G4 : St → Option ((((Bool) × (Unit)) × (Unit)) × (Unit))) : ∀ (k : Nat) (v44 : Int) (v5 : Bool) (v43_0 : Int) (v43_1 : Int) (v43_2 : Int) (v43_3 : Int) (v43_4 : Int) (v43_5 : Int) (v36 : List OB9) (v37 : Int) (v38 : Int) (b0_0 : Int) (b0_1 : List OB9) (b0_2 : Bool) (b0_3 : Int) (b0_4 : Int) (b1_0 : Int) (b1_1 : Int) (b1_2 : Int) (b1_3 : Int) (b1_4 : Int) (b1_5 : Int) (b1_6 : Int) (b1_7 : Int) (b1_8 : Int), iter (interp (impl_ValidTablecs n) ty 83 0 n impl_ValidTablekp (codeAt impl_ValidTablec [1, 1, 0, 1, 0, 0, 1, 1, 0, 0, 1, 1, 0, 1, 0, 0])) (canon 0 (impl_ValidTablekp.loop 8)) (kAt (impl_ValidTablecs n) ty 83 0 n impl_ValidTablekp impl_ValidTablec [1, 1, 0, 1, 0, 0, 1, 1, 0, 0, 1, 1, 0, 1, 0] [G4] (ending ty 0 Go.Proofs.Try.f56.results.toList impl_ValidTablers impl_ValidTablebs)) k (impl_ValidTables8 v44 v5 v43_0 v43_1 v43_2 v43_3 v43_4 v43_5 v36 v37 v38 b0_0 b0_1 b0_2 b0_3 b0_4 b1_0 b1_1 b1_2 b1_3 b1_4 b1_5 b1_6 b1_7 b1_8) = impl_ValidTable_l8 n (fun v38 v36 v37 b0_0 b0_1 b0_2 b0_3 b0_4 => G4 (impl_ValidTables4 v38 v36 v37 b0_0 b0_1 b0_2 b0_3 b0_4)) k v44 v5 v43_0 v43_1 v43_2 v43_3 v43_4 v43_5 v36 v37 v38 b0_0 b0_1 b0_2 b0_3 b0_4 b1_0 b1_1 b1_2 b1_3 b1_4 b1_5 b1_6 b1_7 b1_8
  | 0, _, _, _, _, _, _, _, _, _, _, _, _, _, _, _, _, _, _, _, _, _, _, _, _, _ => by kernel_rfl
  | k + 1, v44, v5, v43_0, v43_1, v43_2, v43_3, v43_4, v43_5, v36, v37, v38, b0_0, b0_1, b0_2, b0_3, b0_4, b1_0, b1_1, b1_2, b1_3, b1_4, b1_5, b1_6, b1_7, b1_8 => by
    refine Eq.trans (b := impl_ValidTable_t8 n (fun v38 v36 v37 b0_0 b0_1 b0_2 b0_3 b0_4 => G4 (impl_ValidTables4 v38 v36 v37 b0_0 b0_1 b0_2 b0_3 b0_4)) (fun v44 v5 v43_0 v43_1 v43_2 v43_3 v43_4 v43_5 v36 v37 v38 b0_0 b0_1 b0_2 b0_3 b0_4 b1_0 b1_1 b1_2 b1_3 b1_4 b1_5 b1_6 b1_7 b1_8 => iter (interp (impl_ValidTablecs n) ty 83 0 n impl_ValidTablekp (codeAt impl_ValidTablec [1, 1, 0, 1, 0, 0, 1, 1, 0, 0, 1, 1, 0, 1, 0, 0])) (canon 0 (impl_ValidTablekp.loop 8)) (kAt (impl_ValidTablecs n) ty 83 0 n impl_ValidTablekp impl_ValidTablec [1, 1, 0, 1, 0, 0, 1, 1, 0, 0, 1, 1, 0, 1, 0] [G4] (ending ty 0 Go.Proofs.Try.f56.results.toList impl_ValidTablers impl_ValidTablebs)) k (impl_ValidTables8 v44 v5 v43_0 v43_1 v43_2 v43_3 v43_4 v43_5 v36 v37 v38 b0_0 b0_1 b0_2 b0_3 b0_4 b1_0 b1_1 b1_2 b1_3 b1_4 b1_5 b1_6 b1_7 b1_8)) v44 v5 v43_0 v43_1 v43_2 v43_3 v43_4 v43_5 v36 v37 v38 b0_0 b0_1 b0_2 b0_3 b0_4 b1_0 b1_1 b1_2 b1_3 b1_4 b1_5 b1_6 b1_7 b1_8) (by kernel_rfl) ?_
    have e := congrArg (fun g => impl_ValidTable_t8 n (fun v38 v36 v37 b0_0 b0_1 b0_2 b0_3 b0_4 => G4 (impl_ValidTables4 v38 v36 v37 b0_0 b0_1 b0_2 b0_3 b0_4)) g v44 v5 v43_0 v43_1 v43_2 v43_3 v43_4 v43_5 v36 v37 v38 b0_0 b0_1 b0_2 b0_3 b0_4 b1_0 b1_1 b1_2 b1_3 b1_4 b1_5 b1_6 b1_7 b1_8) (funext fun v44 => funext fun v5 => funext fun v43_0 => funext fun v43_1 => funext fun v43_2 => funext fun v43_3 => funext fun v43_4 => funext fun v43_5 => funext fun v36 => funext fun v37 => funext fun v38 => funext fun b0_0 => funext fun b0_1 => funext fun b0_2 => funext fun b0_3 => funext fun b0_4 => funext fun b1_0 => funext fun b1_1 => funext fun b1_2 => funext fun b1_3 => funext fun b1_4 => funext fun b1_5 => funext fun b1_6 => funext fun b1_7 => funext fun b1_8 => impl_ValidTable_l8_eq n G4 k v44 v5 v43_0 v43_1 v43_2 v43_3 v43_4 v43_5 v36 v37 v38 b0_0 b0_1 b0_2 b0_3 b0_4 b1_0 b1_1 b1_2 b1_3 b1_4 b1_5 b1_6 b1_7 b1_8)
    exact e

theorem impl_ValidTable_l4_eq (n : Nat) : ∀ (k : Nat) (v38 : Int) (v36 : List OB9) (v37 : Int) (b0_0 : Int) (b0_1 : List OB9) (b0_2 : Bool) (b0_3 : Int) (b0_4 : Int), iter (interp (impl_ValidTablecs n) ty 83 0 n impl_ValidTablekp (codeAt impl_ValidTablec [1, 1, 0, 1, 0, 0])) (canon 0 (impl_ValidTablekp.loop 4)) (impl_ValidTablek0 n) k (impl_ValidTables4 v38 v36 v37 b0_0 b0_1 b0_2 b0_3 b0_4) = impl_ValidTable_l4 n k v38 v36 v37 b0_0 b0_1 b0_2 b0_3 b0_4
  | 0, _, _, _, _, _, _, _, _ => by kernel_rfl
  | k + 1, v38, v36, v37, b0_0, b0_1, b0_2, b0_3, b0_4 => by
    refine Eq.trans (b := impl_ValidTable_t4 n (fun k' v44 v5 v43_0 v43_1 v43_2 v43_3 v43_4 v43_5 v36 v37 v38 b0_0 b0_1 b0_2 b0_3 b0_4 b1_0 b1_1 b1_2 b1_3 b1_4 b1_5 b1_6 b1_7 b1_8 => iter (interp (impl_ValidTablecs n) ty 83 0 n impl_ValidTablekp (codeAt impl_ValidTablec [1, 1, 0, 1, 0, 0, 1, 1, 0, 0, 1, 1, 0, 1, 0, 0])) (canon 0 (impl_ValidTablekp.loop 8)) (kAt (impl_ValidTablecs n) ty 83 0 n impl_ValidTablekp impl_ValidTablec [1, 1, 0, 1, 0, 0, 1, 1, 0, 0, 1, 1, 0, 1, 0] [(fun s => iter (interp (impl_ValidTablecs n) ty 83 0 n impl_ValidTablekp (codeAt impl_ValidTablec [1, 1, 0, 1, 0, 0])) (canon 0 (impl_ValidTablekp.loop 4)) (impl_ValidTablek0 n) k s)] (ending ty 0 Go.Proofs.Try.f56.results.toList impl_ValidTablers impl_ValidTablebs)) k' (impl_ValidTables8 v44 v5 v43_0 v43_1 v43_2 v43_3 v43_4 v43_5 v36 v37 v38 b0_0 b0_1 b0_2 b0_3 b0_4 b1_0 b1_1 b1_2 b1_3 b1_4 b1_5 b1_6 b1_7 b1_8)) (fun v38 v36 v37 b0_0 b0_1 b0_2 b0_3 b0_4 => iter (interp (impl_ValidTablecs n) ty 83 0 n impl_ValidTablekp (codeAt impl_ValidTablec [1, 1, 0, 1, 0, 0])) (canon 0 (impl_ValidTablekp.loop 4)) (impl_ValidTablek0 n) k (impl_ValidTables4 v38 v36 v37 b0_0 b0_1 b0_2 b0_3 b0_4)) v38 v36 v37 b0_0 b0_1 b0_2 b0_3 b0_4) (by kernel_rfl) ?_
    have e := congr (congrArg (fun h8 g => impl_ValidTable_t4 n h8 g v38 v36 v37 b0_0 b0_1 b0_2 b0_3 b0_4) ((funext fun k' => funext fun v44 => funext fun v5 => funext fun v43_0 => funext fun v43_1 => funext fun v43_2 => funext fun v43_3 => funext fun v43_4 => funext fun v43_5 => funext fun v36 => funext fun v37 => funext fun v38 => funext fun b0_0 => funext fun b0_1 => funext fun b0_2 => funext fun b0_3 => funext fun b0_4 => funext fun b1_0 => funext fun b1_1 => funext fun b1_2 => funext fun b1_3 => funext fun b1_4 => funext fun b1_5 => funext fun b1_6 => funext fun b1_7 => funext fun b1_8 => impl_ValidTable_l8_eq n (fun s => iter (interp (impl_ValidTablecs n) ty 83 0 n impl_ValidTablekp (codeAt impl_ValidTablec [1, 1, 0, 1, 0, 0])) (canon 0 (impl_ValidTablekp.loop 4)) (impl_ValidTablek0 n) k s) k' v44 v5 v43_0 v43_1 v43_2 v43_3 v43_4 v43_5 v36 v37 v38 b0_0 b0_1 b0_2 b0_3 b0_4 b1_0 b1_1 b1_2 b1_3 b1_4 b1_5 b1_6 b1_7 b1_8).trans (congrArg (fun z => impl_ValidTable_l8 n z) (funext fun v38 => funext fun v36 => funext fun v37 => funext fun b0_0 => funext fun b0_1 => funext fun b0_2 => funext fun b0_3 => funext fun b0_4 => impl_ValidTable_l4_eq n k v38 v36 v37 b0_0 b0_1 b0_2 b0_3 b0_4)))) (funext fun v38 => funext fun v36 => funext fun v37 => funext fun b0_0 => funext fun b0_1 => funext fun b0_2 => funext fun b0_3 => funext fun b0_4 => impl_ValidTable_l4_eq n k v38 v36 v37 b0_0 b0_1 b0_2 b0_3 b0_4)
    exact e

theorem impl_ValidTable_eq (n : Nat) (a0 : (Int) × ((List OB9) × ((Bool) × (Int × Int)))) : runBody (impl_ValidTablecs n) ty 83 n impl_ValidTablekp impl_ValidTablec Go.Proofs.Try.f56.results.toList impl_ValidTablers impl_ValidTablesp impl_ValidTablebs (a0, ()) () = impl_ValidTable n a0 := by
  refine Eq.trans (b := impl_ValidTable_t n (fun k v38 v36 v37 b0_0 b0_1 b0_2 b0_3 b0_4 => iter (interp (impl_ValidTablecs n) ty 83 0 n impl_ValidTablekp (codeAt impl_ValidTablec [1, 1, 0, 1, 0, 0])) (canon 0 (impl_ValidTablekp.loop 4)) (impl_ValidTablek0 n) k (impl_ValidTables4 v38 v36 v37 b0_0 b0_1 b0_2 b0_3 b0_4)) a0) (by kernel_rfl) ?_
  have e := congrArg (fun h4 => impl_ValidTable_t n h4 a0) (funext fun k => funext fun v38 => funext fun v36 => funext fun v37 => funext fun b0_0 => funext fun b0_1 => funext fun b0_2 => funext fun b0_3 => funext fun b0_4 => impl_ValidTable_l4_eq n k v38 v36 v37 b0_0 b0_1 b0_2 b0_3 b0_4)
  exact e

theorem impl_ValidTable_ok (n : Nat) : FunOk P (impl_ValidTableF n) :=
  funOk_mk (C := [impl_withinF n, impl_ValidFracF n]) (N := 83) (kp := impl_ValidTablekp) (c := impl_ValidTablec) (n := n) (G := fun x y => impl_ValidTable n x.1) follows (AllOk.mem (⟨impl_within_ok n, ⟨impl_ValidFrac_ok n, trivial⟩⟩ : AllOk P ([impl_withinF n, impl_ValidFracF n]))) (by kernel_rfl : P.funcs[56]? = some Go.Proofs.Try.f56) (by kernel_rfl) (by kernel_rfl) (by kernel_rfl)
    (fun x y => impl_ValidTable_eq n x.1) (fun _ _ => map_same (fun _ => rfl) _) (fun _ _ _ _ => rfl)

abbrev impl_fracOfsp : List Sp := [.v false (.int .i64), .v false (.int .i64)]
abbrev impl_fracOfbs : List (Bs × Bool) := []
abbrev impl_fracOfrs : List (Bool × List Rp) := [(true, [.v false tF]), (false, [.v false .bool])]
noncomputable def impl_fracOfkp : Keep := { loop := fun id => match id with | _ => ([], []), join := fun id => match id with | _ => none }
noncomputable def impl_fracOfc : Code := bodyOf Go.Proofs.Try.f137
noncomputable def impl_fracOfF (n : Nat) : Fun := { id := 137, sp := impl_fracOfsp, bs := impl_fracOfbs, rs := impl_fracOfrs, f := fun x y => impl_fracOf n x.1 x.2.1 }

theorem impl_fracOf_eq (n : Nat) (a0 : Int) (a1 : Int) : runBody ([impl_gcdF n, impl_ValidFracF n]) ty 29 n impl_fracOfkp impl_fracOfc Go.Proofs.Try.f137.results.toList impl_fracOfrs impl_fracOfsp impl_fracOfbs (a0, (a1, ())) () = impl_fracOf n a0 a1 := by
  refine Eq.trans (b := impl_fracOf_t n a0 a1) (by kernel_rfl) ?_
  rfl

theorem impl_fracOf_ok (n : Nat) : FunOk P (impl_fracOfF n) :=
  funOk_mk (C := [impl_gcdF n, impl_ValidFracF n]) (N := 29) (kp := impl_fracOfkp) (c := impl_fracOfc) (n := n) (G := fun x y => impl_fracOf n x.1 x.2.1) follows (AllOk.mem (⟨impl_gcd_ok n, ⟨impl_ValidFrac_ok n, trivial⟩⟩ : AllOk P ([impl_gcdF n, impl_ValidFracF n]))) (by kernel_rfl : P.funcs[137]? = some Go.Proofs.Try.f137) (by kernel_rfl) (by kernel_rfl) (by kernel_rfl)
    (fun x y => impl_fracOf_eq n x.1 x.2.1) (fun _ _ => map_same (fun _ => rfl) _) (fun _ _ _ _ => rfl)

abbrev impl_zerosp : List Sp := []
abbrev impl_zerobs : List (Bs × Bool) := []
abbrev impl_zerors : List (Bool × List Rp) := [(true, [.v false tF])]
noncomputable def impl_zerokp : Keep := { loop := fun id => match id with | _ => ([], []), join := fun id => match id with | _ => none }
noncomputable def impl_zeroc : Code := bodyOf Go.Proofs.Try.f116
noncomputable def impl_zeroF (n : Nat) : Fun := { id := 116, sp := impl_zerosp, bs := impl_zerobs, rs := impl_zerors, f := fun x y => impl_zero n }

theorem impl_zero_eq (n : Nat) : runBody ([]) ty 2 n impl_zerokp impl_zeroc Go.Proofs.Try.f116.results.toList impl_zerors impl_zerosp impl_zerobs () () = impl_zero n := by
  refine Eq.trans (b := impl_zero_t n) (by kernel_rfl) ?_
  rfl

theorem impl_zero_ok (n : Nat) : FunOk P (impl_zeroF n) :=
  funOk_mk (C := []) (N := 2) (kp := impl_zerokp) (c := impl_zeroc) (n := n) (G := fun x y => impl_zero n) follows (AllOk.mem (trivial : AllOk P ([]))) (by kernel_rfl : P.funcs[116]? = some Go.Proofs.Try.f116) (by kernel_rfl) (by kernel_rfl) (by kernel_rfl)
    (fun x y => impl_zero_eq n) (fun _ _ => map_same (fun _ => rfl) _) (fun _ _ _ _ => rfl)

abbrev impl_calc_toldsp : List Sp := [.ref 0, .v false (.int .i64), .v false (.int .i64)]
abbrev impl_calc_toldbs : List (Bs × Bool) := [(.var 89 .bool, true)]
abbrev impl_calc_toldrs : List (Bool × List Rp) := [(true, [.v false tF])]
noncomputable def impl_calc_toldkp : Keep := { loop := fun id => match id with | _ => ([], []), join := fun id => match id with | _ => none }
noncomputable def impl_calc_toldc : Code := bodyOf Go.Proofs.Try.f124
noncomputable def impl_calc_toldF (n : Nat) : Fun := { id := 124, sp := impl_calc_toldsp, bs := impl_calc_toldbs, rs := impl_calc_toldrs, f := fun x y => impl_calc_told n x.2.1 x.2.2.1 y.1 }

theorem impl_calc_told_eq (n : Nat) (a1 : Int) (a2 : Int) (b0 : Bool) : runBody ([impl_fracOfF n, impl_zeroF n]) ty 22 n impl_calc_toldkp impl_calc_toldc Go.Proofs.Try.f124.results.toList impl_calc_toldrs impl_calc_toldsp impl_calc_toldbs ((), (a1, (a2, ()))) (b0, ()) = impl_calc_told n a1 a2 b0 := by
  refine Eq.trans (b := impl_calc_told_t n a1 a2 b0) (by kernel_rfl) ?_
  rfl

theorem impl_calc_told_ok (n : Nat) : FunOk P (impl_calc_toldF n) :=
  funOk_mk (C := [impl_fracOfF n, impl_zeroF n]) (N := 22) (kp := impl_calc_toldkp) (c := impl_calc_toldc) (n := n) (G := fun x y => impl_calc_told n x.2.1 x.2.2.1 y.1) follows (AllOk.mem (⟨impl_fracOf_ok n, ⟨impl_zero_ok n, trivial⟩⟩ : AllOk P ([impl_fracOfF n, impl_zeroF n]))) (by kernel_rfl : P.funcs[124]? = some Go.Proofs.Try.f124) (by kernel_rfl) (by kernel_rfl) (by kernel_rfl)
    (fun x y => impl_calc_told_eq n x.2.1 x.2.2.1 y.1) (fun _ _ => map_same (fun _ => rfl) _) (fun _ _ _ _ => rfl)

abbrev impl_calc_addsp : List Sp := [.ref 0, .v true tF, .v true tF]
abbrev impl_calc_addbs : List (Bs × Bool) := [(.var 89 .bool, true)]
abbrev impl_calc_addrs : List (Bool × List Rp) := [(true, [.v false tF])]
noncomputable def impl_calc_addkp : Keep := { loop := fun id => match id with | _ => ([], []), join := fun id => match id with | _ => none }
noncomputable def impl_calc_addc : Code := bodyOf Go.Proofs.Try.f117
noncomputable def impl_calc_addF (n : Nat) : Fun := { id := 117, sp := impl_calc_addsp, bs := impl_calc_addbs, rs := impl_calc_addrs, f := fun x y => impl_calc_add n x.2.1 x.2.2.1 y.1 }

theorem impl_calc_add_eq (n : Nat) (a1 : (Int) × (Int)) (a2 : (Int) × (Int)) (b0 : Bool) : runBody ([impl_calc_toldF n]) ty 25 n impl_calc_addkp impl_calc_addc Go.Proofs.Try.f117.results.toList impl_calc_addrs impl_calc_addsp impl_calc_addbs ((), (a1, (a2, ()))) (b0, ()) = impl_calc_add n a1 a2 b0 := by
  refine Eq.trans (b := impl_calc_add_t n a1 a2 b0) (by kernel_rfl) ?_
  rfl

theorem impl_calc_add_ok (n : Nat) : FunOk P (impl_calc_addF n) :=
  funOk_mk (C := [impl_calc_toldF n]) (N := 25) (kp := impl_calc_addkp) (c := impl_calc_addc) (n := n) (G := fun x y => impl_calc_add n x.2.1 x.2.2.1 y.1) follows (AllOk.mem (⟨impl_calc_told_ok n, trivial⟩ : AllOk P ([impl_calc_toldF n]))) (by kernel_rfl : P.funcs[117]? = some Go.Proofs.Try.f117) (by kernel_rfl) (by kernel_rfl) (by kernel_rfl)
    (fun x y => impl_calc_add_eq n x.2.1 x.2.2.1 y.1) (fun _ _ => map_same (fun _ => rfl) _) (fun _ _ _ _ => rfl)

abbrev impl_calc_mulsp : List Sp := [.ref 0, .v true tF, .v true tF]
abbrev impl_calc_mulbs : List (Bs × Bool) := [(.var 89 .bool, true)]
abbrev impl_calc_mulrs : List (Bool × List Rp) := [(true, [.v false tF])]
noncomputable def impl_calc_mulkp : Keep := { loop := fun id => match id with | _ => ([], []), join := fun id => match id with | _ => none }
noncomputable def impl_calc_mulc : Code := bodyOf Go.Proofs.Try.f118
noncomputable def impl_calc_mulF (n : Nat) : Fun := { id := 118, sp := impl_calc_mulsp, bs := impl_calc_mulbs, rs := impl_calc_mulrs, f := fun x y => impl_calc_mul n x.2.1 x.2.2.1 y.1 }

theorem impl_calc_mul_eq (n : Nat) (a1 : (Int) × (Int)) (a2 : (Int) × (Int)) (b0 : Bool) : runBody ([impl_calc_toldF n]) ty 19 n impl_calc_mulkp impl_calc_mulc Go.Proofs.Try.f118.results.toList impl_calc_mulrs impl_calc_mulsp impl_calc_mulbs ((), (a1, (a2, ()))) (b0, ()) = impl_calc_mul n a1 a2 b0 := by
  refine Eq.trans (b := impl_calc_mul_t n a1 a2 b0) (by kernel_rfl) ?_
  rfl

theorem impl_calc_mul_ok (n : Nat) : FunOk P (impl_calc_mulF n) :=
  funOk_mk (C := [impl_calc_toldF n]) (N := 19) (kp := impl_calc_mulkp) (c := impl_calc_mulc) (n := n) (G := fun x y => impl_calc_mul n x.2.1 x.2.2.1 y.1) follows (AllOk.mem (⟨impl_calc_told_ok n, trivial⟩ : AllOk P ([impl_calc_toldF n]))) (by kernel_rfl : P.funcs[118]? = some Go.Proofs.Try.f118) (by kernel_rfl) (by kernel_rfl) (by kernel_rfl)
    (fun x y => impl_calc_mul_eq n x.2.1 x.2.2.1 y.1) (fun _ _ => map_same (fun _ => rfl) _) (fun _ _ _ _ => rfl)

abbrev impl_numsp : List Sp := [.v false (.int .i64)]
abbrev impl_numbs : List (Bs × Bool) := []
abbrev impl_numrs : List (Bool × List Rp) := [(true, [.v false tF])]
noncomputable def impl_numkp : Keep := { loop := fun id => match id with | _ => ([], []), join := fun id => match id with | _ => none }
noncomputable def impl_numc : Code := bodyOf Go.Proofs.Try.f90
noncomputable def impl_numF (n : Nat) : Fun := { id := 90, sp := impl_numsp, bs := impl_numbs, rs := impl_numrs, f := fun x y => impl_num n x.1 }

theorem impl_num_eq (n : Nat) (a0 : Int) : runBody ([]) ty 5 n impl_numkp impl_numc Go.Proofs.Try.f90.results.toList impl_numrs impl_numsp impl_numbs (a0, ()) () = impl_num n a0 := by
  refine Eq.trans (b := impl_num_t n a0) (by kernel_rfl) ?_
  rfl

theorem impl_num_ok (n : Nat) : FunOk P (impl_numF n) :=
  funOk_mk (C := []) (N := 5) (kp := impl_numkp) (c := impl_numc) (n := n) (G := fun x y => impl_num n x.1) follows (AllOk.mem (trivial : AllOk P ([]))) (by kernel_rfl : P.funcs[90]? = some Go.Proofs.Try.f90) (by kernel_rfl) (by kernel_rfl) (by kernel_rfl)
    (fun x y => impl_num_eq n x.1) (fun _ _ => map_same (fun _ => rfl) _) (fun _ _ _ _ => rfl)

abbrev math_bits_Mul64sp : List Sp := [.v false (.int .u64), .v false (.int .u64)]
abbrev math_bits_Mul64bs : List (Bs × Bool) := []
abbrev math_bits_Mul64rs : List (Bool × List Rp) := [(false, [.v false (.int .u64)]), (false, [.v false (.int .u64)])]
noncomputable def math_bits_Mul64kp : Keep := { loop := fun id => match id with | _ => ([], []), join := fun id => match id with | _ => none }
noncomputable def math_bits_Mul64c : Code := bodyOf Go.Proofs.Try.f141
noncomputable def math_bits_Mul64F (n : Nat) : Fun := { id := 141, sp := math_bits_Mul64sp, bs := math_bits_Mul64bs, rs := math_bits_Mul64rs, f := fun x y => math_bits_Mul64 n x.1 x.2.1 }

theorem math_bits_Mul64_eq (n : Nat) (a0 : Int) (a1 : Int) : runBody ([]) ty 51 n math_bits_Mul64kp math_bits_Mul64c Go.Proofs.Try.f141.results.toList math_bits_Mul64rs math_bits_Mul64sp math_bits_Mul64bs (a0, (a1, ())) () = math_bits_Mul64 n a0 a1 := by
  refine Eq.trans (b := math_bits_Mul64_t n a0 a1) (by kernel_rfl) ?_
  rfl

theorem math_bits_Mul64_ok (n : Nat) : FunOk P (math_bits_Mul64F n) :=
  funOk_mk (C := []) (N := 51) (kp := math_bits_Mul64kp) (c := math_bits_Mul64c) (n := n) (G := fun x y => math_bits_Mul64 n x.1 x.2.1) follows (AllOk.mem (trivial : AllOk P ([]))) (by kernel_rfl : P.funcs[141]? = some Go.Proofs.Try.f141) (by kernel_rfl) (by kernel_rfl) (by kernel_rfl)
    (fun x y => math_bits_Mul64_eq n x.1 x.2.1) (fun _ _ => map_same (fun _ => rfl) _) (fun _ _ _ _ => rfl)

abbrev math_bits_Mulsp : List Sp := [.v false (.int .u64), .v false (.int .u64)]
abbrev math_bits_Mulbs : List (Bs × Bool) := []
abbrev math_bits_Mulrs : List (Bool × List Rp) := [(false, [.v false (.int .u64)]), (false, [.v false (.int .u64)])]
noncomputable def math_bits_Mulkp : Keep := { loop := fun id => match id with | _ => ([], []), join := fun id => match id with | _ => none }
noncomputable def math_bits_Mulc : Code := bodyOf Go.Proofs.Try.f135
noncomputable def math_bits_MulF (n : Nat) : Fun := { id := 135, sp := math_bits_Mulsp, bs := math_bits_Mulbs, rs := math_bits_Mulrs, f := fun x y => math_bits_Mul n x.1 x.2.1 }

theorem math_bits_Mul_eq (n : Nat) (a0 : Int) (a1 : Int) : runBody ([math_bits_Mul64F n]) ty 30 n math_bits_Mulkp math_bits_Mulc Go.Proofs.Try.f135.results.toList math_bits_Mulrs math_bits_Mulsp math_bits_Mulbs (a0, (a1, ())) () = math_bits_Mul n a0 a1 := by
  refine Eq.trans (b := math_bits_Mul_t n a0 a1) (by kernel_rfl) ?_
  rfl

theorem math_bits_Mul_ok (n : Nat) : FunOk P (math_bits_MulF n) :=
  funOk_mk (C := [math_bits_Mul64F n]) (N := 30) (kp := math_bits_Mulkp) (c := math_bits_Mulc) (n := n) (G := fun x y => math_bits_Mul n x.1 x.2.1) follows (AllOk.mem (⟨math_bits_Mul64_ok n, trivial⟩ : AllOk P ([math_bits_Mul64F n]))) (by kernel_rfl : P.funcs[135]? = some Go.Proofs.Try.f135) (by kernel_rfl) (by kernel_rfl) (by kernel_rfl)
    (fun x y => math_bits_Mul_eq n x.1 x.2.1) (fun _ _ => map_same (fun _ => rfl) _) (fun _ _ _ _ => rfl)

abbrev slices_Repeat_impl_Frac_impl_Fracsp : List Sp := [.v false (.list tF), .v false (.int .i64)]
abbrev slices_Repeat_impl_Frac_impl_Fracbs : List (Bs × Bool) := []
abbrev slices_Repeat_impl_Frac_impl_Fracrs : List (Bool × List Rp) := [(false, [.new  tF])]
noncomputable def slices_Repeat_impl_Frac_impl_Frackp : Keep := { loop := fun id => match id with | 8 => ([8, 7], []) | _ => ([], []), join := fun id => match id with | _ => none }
noncomputable def slices_Repeat_impl_Frac_impl_Fracc : Code := bodyOf Go.Proofs.Try.f119
noncomputable def slices_Repeat_impl_Frac_impl_FracF (n : Nat) : Fun := { id := 119, sp := slices_Repeat_impl_Frac_impl_Fracsp, bs := slices_Repeat_impl_Frac_impl_Fracbs, rs := slices_Repeat_impl_Frac_impl_Fracrs, f := fun x y => slices_Repeat_impl_Frac_impl_Frac n x.1 x.2.1 }

abbrev slices_Repeat_impl_Frac_impl_Fracs8 (v8 : Int) (b0 : List (Int × Int)) : St := { env := [(8, .one (.sc (.int .i64 v8))), (7, .one (.slice 0 0 none))], bx := [(0, .row 0 tF b0)], nx := 1 }
noncomputable abbrev slices_Repeat_impl_Frac_impl_Frack0 (n : Nat) := kAt ([math_bits_MulF n]) ty 48 0 n slices_Repeat_impl_Frac_impl_Frackp slices_Repeat_impl_Frac_impl_Fracc [1, 1, 1, 1, 1, 1, 0, 0] [] (ending ty 0 Go.Proofs.Try.f119.results.toList slices_Repeat_impl_Frac_impl_Fracrs slices_Repeat_impl_Frac_impl_Fracbs)
theorem slices_Repeat_impl_Frac_impl_Frac_l8_eq (n : Nat) : ∀ (k : Nat) (v8 : Int) (b0 : List (Int × Int)), iter (interp ([math_bits_MulF n]) ty 48 0 n slices_Repeat_impl_Frac_impl_Frackp (codeAt slices_Repeat_impl_Frac_impl_Fracc [1, 1, 1, 1, 1, 1, 0, 0, 0])) (canon 0 (slices_Repeat_impl_Frac_impl_Frackp.loop 8)) (slices_Repeat_impl_Frac_impl_Frack0 n) k (slices_Repeat_impl_Frac_impl_Fracs8 v8 b0) = slices_Repeat_impl_Frac_impl_Frac_l8 n k v8 b0
  | 0, _, _ => by kernel_rfl
  | k + 1, v8, b0 => by
    refine Eq.trans (b := slices_Repeat_impl_Frac_impl_Frac_t8 n (fun v8 b0 => iter (interp ([math_bits_MulF n]) ty 48 0 n slices_Repeat_impl_Frac_impl_Frackp (codeAt slices_Repeat_impl_Frac_impl_Fracc [1, 1, 1, 1, 1, 1, 0, 0, 0])) (canon 0 (slices_Repeat_impl_Frac_impl_Frackp.loop 8)) (slices_Repeat_impl_Frac_impl_Frack0 n) k (slices_Repeat_impl_Frac_impl_Fracs8 v8 b0)) v8 b0) (by kernel_rfl) ?_
    have e := congrArg (fun g => slices_Repeat_impl_Frac_impl_Frac_t8 n g v8 b0) (funext fun v8 => funext fun b0 => slices_Repeat_impl_Frac_impl_Frac_l8_eq n k v8 b0)
    exact e

theorem slices_Repeat_impl_Frac_impl_Frac_eq (n : Nat) (a0 : List (Int × Int)) (a1 : Int) : runBody ([math_bits_MulF n]) ty 48 n slices_Repeat_impl_Frac_impl_Frackp slices_Repeat_impl_Frac_impl_Fracc Go.Proofs.Try.f119.results.toList slices_Repeat_impl_Frac_impl_Fracrs slices_Repeat_impl_Frac_impl_Fracsp slices_Repeat_impl_Frac_impl_Fracbs (a0, (a1, ())) () = slices_Repeat_impl_Frac_impl_Frac n a0 a1 := by
  refine Eq.trans (b := slices_Repeat_impl_Frac_impl_Frac_t n (fun k v8 b0 => iter (interp ([math_bits_MulF n]) ty 48 0 n slices_Repeat_impl_Frac_impl_Frackp (codeAt slices_Repeat_impl_Frac_impl_Fracc [1, 1, 1, 1, 1, 1, 0, 0, 0])) (canon 0 (slices_Repeat_impl_Frac_impl_Frackp.loop 8)) (slices_Repeat_impl_Frac_impl_Frack0 n) k (slices_Repeat_impl_Frac_impl_Fracs8 v8 b0)) a0 a1) (by kernel_rfl) ?_
  have e := congrArg (fun h8 => slices_Repeat_impl_Frac_impl_Frac_t n h8 a0 a1) (funext fun k => funext fun v8 => funext fun b0 => slices_Repeat_impl_Frac_impl_Frac_l8_eq n k v8 b0)
  exact e

theorem slices_Repeat_impl_Frac_impl_Frac_ok (n : Nat) : FunOk P (slices_Repeat_impl_Frac_impl_FracF n) :=
  funOk_mk (C := [math_bits_MulF n]) (N := 48) (kp := slices_Repeat_impl_Frac_impl_Frackp) (c := slices_Repeat_impl_Frac_impl_Fracc) (n := n) (G := fun x y => slices_Repeat_impl_Frac_impl_Frac n x.1 x.2.1) follows (AllOk.mem (⟨math_bits_Mul_ok n, trivial⟩ : AllOk P ([math_bits_MulF n]))) (by kernel_rfl : P.funcs[119]? = some Go.Proofs.Try.f119) (by kernel_rfl) (by kernel_rfl) (by kernel_rfl)
    (fun x y => slices_Repeat_impl_Frac_impl_Frac_eq n x.1 x.2.1) (fun _ _ => map_same (fun _ => rfl) _) (fun _ _ _ _ => rfl)

abbrev impl_calc_normalsp : List Sp := [.ref 0, .v true (.pair (.int .i64) (.pair (.list tO) (.pair .bool tF)))]
abbrev impl_calc_normalbs : List (Bs × Bool) := [(.var 89 .bool, true)]
abbrev impl_calc_normalrs : List (Bool × List Rp) := [(false, [.newp  tF]), (false, [.new  tF])]
noncomputable def impl_calc_normalkp : Keep := { loop := fun id => match id with | 3 => ([3, 0, 21, 7, 6, 20], []) | 7 => ([8, 27, 9, 3, 0, 20, 21, 7, 6, 26], []) | 11 => ([33, 10, 8, 11, 31, 3, 0, 20, 21, 7, 6, 26, 27, 9, 32], []) | 19 => ([64, 14, 8, 0, 62, 3, 20, 21, 7, 6, 9, 63], []) | _ => ([], []), join := fun id => match id with | _ => none }
noncomputable def impl_calc_normalc : Code := bodyOf Go.Proofs.Try.f57
noncomputable def impl_calc_normalF (n : Nat) : Fun := { id := 57, sp := impl_calc_normalsp, bs := impl_calc_normalbs, rs := impl_calc_normalrs, f := fun x y => impl_calc_normal n x.2.1 y.1 }

noncomputable abbrev impl_calc_normalcs (n : Nat) : List Fun := [impl_numF n, impl_zeroF n, impl_calc_mulF n, impl_calc_addF n, slices_Repeat_impl_Frac_impl_FracF n]
abbrev impl_calc_normals19 (v64 : Int) (v8 : Int) (v62 : List OB9) (v20 : Int) (v21 : Int) (v63 : Int) (b0 : Bool) (b1_0 : Int) (b1_1 : Int) (b2_0 : Int) (b2_1 : List OB9) (b2_2 : Bool) (b2_3 : Int) (b2_4 : Int) (b3 : List (Int × Int)) (b4p : List Nat) (b4i : List (List (Int × Int))) (b5 : List (Int × Int)) : St := { env := [(64, .one (.sc (.int .i64 v64))), (14, .one (.ref 1 0 0 0 0 0)), (8, .one (.sc (.int .i64 v8))), (0, .one (.ref 0 0 0 0 0 0)), (62, .one (.list true tO v62)), (3, .one (.ref 2 0 0 0 0 0)), (20, .one (.sc (.int .i64 v20))), (21, .one (.sc (.int .i64 v21))), (7, .one (.slice 3 0 none)), (6, .one (.slice 4 0 none)), (9, .one (.slice 5 0 none)), (63, .one (.sc (.int .i64 v63)))], bx := [(0, .var 89 [.sc (.bool b0)]), (1, .var 26 [.sc (.int .i64 b1_0), .sc (.int .i64 b1_1)]), (2, .var 28 [.sc (.int .i64 b2_0), .list true tO b2_1, .sc (.bool b2_2), .sc (.int .i64 b2_3), .sc (.int .i64 b2_4)]), (3, .row 0 tF b3), (4, .pool 0 tF b4p b4i), (5, .row 0 tF b5)], nx := 6 }
abbrev impl_calc_normals11 (v33 : Int) (v10 : Int) (v8 : Int) (v11 : Int) (v31 : List OB9) (v20 : Int) (v21 : Int) (v26 : Int) (v27 : Int) (v32 : Int) (b0 : Bool) (b1_0 : Int) (b1_1 : List OB9) (b1_2 : Bool) (b1_3 : Int) (b1_4 : Int) (b2 : List (Int × Int)) (b3p : List Nat) (b3i : List (List (Int × Int))) (b4 : List (Int × Int)) : St := { env := [(33, .one (.sc (.int .i64 v33))), (10, .one (.sc (.int .i64 v10))), (8, .one (.sc (.int .i64 v8))), (11, .one (.sc (.int .i64 v11))), (31, .one (.list true tO v31)), (3, .one (.ref 1 0 0 0 0 0)), (0, .one (.ref 0 0 0 0 0 0)), (20, .one (.sc (.int .i64 v20))), (21, .one (.sc (.int .i64 v21))), (7, .one (.slice 2 0 none)), (6, .one (.slice 3 0 none)), (26, .one (.sc (.int .i64 v26))), (27, .one (.sc (.int .i64 v27))), (9, .one (.slice 4 0 none)), (32, .one (.sc (.int .i64 v32)))], bx := [(0, .var 89 [.sc (.bool b0)]), (1, .var 28 [.sc (.int .i64 b1_0), .list true tO b1_1, .sc (.bool b1_2), .sc (.int .i64 b1_3), .sc (.int .i64 b1_4)]), (2, .row 0 tF b2), (3, .pool 0 tF b3p b3i), (4, .row 0 tF b4)], nx := 5 }
abbrev impl_calc_normals7 (v8 : Int) (v27 : Int) (v20 : Int) (v21 : Int) (v26 : Int) (b0 : Bool) (b1 : List (Int × Int)) (b2_0 : Int) (b2_1 : List OB9) (b2_2 : Bool) (b2_3 : Int) (b2_4 : Int) (b3 : List (Int × Int)) (b4p : List Nat) (b4i : List (List (Int × Int))) : St := { env := [(8, .one (.sc (.int .i64 v8))), (27, .one (.sc (.int .i64 v27))), (9, .one (.slice 1 0 none)), (3, .one (.ref 2 0 0 0 0 0)), (0, .one (.ref 0 0 0 0 0 0)), (20, .one (.sc (.int .i64 v20))), (21, .one (.sc (.int .i64 v21))), (7, .one (.slice 3 0 none)), (6, .one (.slice 4 0 none)), (26, .one (.sc (.int .i64 v26)))], bx := [(0, .var 89 [.sc (.bool b0)]), (1, .row 0 tF b1), (2, .var 28 [.sc (.int .i64 b2_0), .list true tO b2_1, .sc (.bool b2_2), .sc (.int .i64 b2_3), .sc (.int .i64 b2_4)]), (3, .row 0 tF b3), (4, .pool 0 tF b4p b4i)], nx := 5 }
abbrev impl_calc_normals3 (v21 : Int) (v20 : Int) (b0 : Bool) (b1_0 : Int) (b1_1 : List OB9) (b1_2 : Bool) (b1_3 : Int) (b1_4 : Int) (b2 : List (Int × Int)) (b3p : List Nat) (b3i : List (List (Int × Int))) : St := { env := [(3, .one (.ref 1 0 0 0 0 0)), (0, .one (.ref 0 0 0 0 0 0)), (21, .one (.sc (.int .i64 v21))), (7, .one (.slice 2 0 none)), (6, .one (.slice 3 0 none)), (20, .one (.sc (.int .i64 v20)))], bx := [(0, .var 89 [.sc (.bool b0)]), (1, .var 28 [.sc (.int .i64 b1_0), .list true tO b1_1, .sc (.bool b1_2), .sc (.int .i64 b1_3), .sc (.int .i64 b1_4)]), (2, .row 0 tF b2), (3, .pool 0 tF b3p b3i)], nx := 4 }
noncomputable abbrev impl_calc_normalk0 (n : Nat) := kAt (impl_calc_normalcs n) typ 120 1 n impl_calc_normalkp impl_calc_normalc [1, 1, 0, 1, 0] [] (ending typ 1 Go.Proofs.Try.f57.results.toList impl_calc_normalrs impl_calc_normalbs)
theorem impl_calc_normal_l19_eq (n : Nat) (G3 : St → Option (((((List Nat) × (List (List (Int × Int)))) × (Unit)) × (((List (Int × Int)) × (Unit)) × (Unit))) × ((Bool) × (Unit)))) : ∀ (k : Nat) (v64 : Int) (v8 : Int) (v62 : List OB9) (v20 : Int) (v21 : Int) (v63 : Int) (b0 : Bool) (b1_0 : Int) (b1_1 : Int) (b2_0 : Int) (b2_1 : List OB9) (b2_2 : Bool) (b2_3 : Int) (b2_4 : Int) (b3 : List (Int × Int)) (b4p : List Nat) (b4i : List (List (Int × Int))) (b5 : List (Int × Int)), iter (interp (impl_calc_normalcs n) typ 120 1 n impl_calc_normalkp (codeAt impl_calc_normalc [1, 1, 0, 1, 0, 0, 1, 1, 0, 0, 1, 1, 1, 1, 0, 1, 0, 0])) (canon 1 (impl_calc_normalkp.loop 19)) (kAt (impl_calc_normalcs n) typ 120 1 n impl_calc_normalkp impl_calc_normalc [1, 1, 0, 1, 0, 0, 1, 1, 0, 0, 1, 1, 1, 1, 0, 1, 0] [G3] (ending typ 1 Go.Proofs.Try.f57.results.toList impl_calc_normalrs impl_calc_normalbs)) k (impl_calc_normals19 v64 v8 v62 v20 v21 v63 b0 b1_0 b1_1 b2_0 b2_1 b2_2 b2_3 b2_4 b3 b4p b4i b5) = impl_calc_normal_l19 n (fun v21 v20 b0 b1_0 b1_1 b1_2 b1_3 b1_4 b2 b3p b3i => G3 (impl_calc_normals3 v21 v20 b0 b1_0 b1_1 b1_2 b1_3 b1_4 b2 b3p b3i)) k v64 v8 v62 v20 v21 v63 b0 b1_0 b1_1 b2_0 b2_1 b2_2 b2_3 b2_4 b3 b4p b4i b5
  | 0, _, _, _, _, _, _, _, _, _, _, _, _, _, _, _, _, _, _ => by kernel_rfl
  | k + 1, v64, v8, v62, v20, v21, v63, b0, b1_0, b1_1, b2_0, b2_1, b2_2, b2_3, b2_4, b3, b4p, b4i, b5 => by
    refine Eq.trans (b := impl_calc_normal_t19 n (fun v21 v20 b0 b1_0 b1_1 b1_2 b1_3 b1_4 b2 b3p b3i => G3 (impl_calc_normals3 v21 v20 b0 b1_0 b1_1 b1_2 b1_3 b1_4 b2 b3p b3i)) (fun v64 v8 v62 v20 v21 v63 b0 b1_0 b1_1 b2_0 b2_1 b2_2 b2_3 b2_4 b3 b4p b4i b5 => iter (interp (impl_calc_normalcs n) typ 120 1 n impl_calc_normalkp (codeAt impl_calc_normalc [1, 1, 0, 1, 0, 0, 1, 1, 0, 0, 1, 1, 1, 1, 0, 1, 0, 0])) (canon 1 (impl_calc_normalkp.loop 19)) (kAt (impl_calc_normalcs n) typ 120 1 n impl_calc_normalkp impl_calc_normalc [1, 1, 0, 1, 0, 0, 1, 1, 0, 0, 1, 1, 1, 1, 0, 1, 0] [G3] (ending typ 1 Go.Proofs.Try.f57.results.toList impl_calc_normalrs impl_calc_normalbs)) k (impl_calc_normals19 v64 v8 v62 v20 v21 v63 b0 b1_0 b1_1 b2_0 b2_1 b2_2 b2_3 b2_4 b3 b4p b4i b5)) v64 v8 v62 v20 v21 v63 b0 b1_0 b1_1 b2_0 b2_1 b2_2 b2_3 b2_4 b3 b4p b4i b5) (by kernel_rfl) ?_
    have e := congrArg (fun g => impl_calc_normal_t19 n (fun v21 v20 b0 b1_0 b1_1 b1_2 b1_3 b1_4 b2 b3p b3i => G3 (impl_calc_normals3 v21 v20 b0 b1_0 b1_1 b1_2 b1_3 b1_4 b2 b3p b3i)) g v64 v8 v62 v20 v21 v63 b0 b1_0 b1_1 b2_0 b2_1 b2_2 b2_3 b2_4 b3 b4p b4i b5) (funext fun v64 => funext fun v8 => funext fun v62 => funext fun v20 => funext fun v21 => funext fun v63 => funext fun b0 => funext fun b1_0 => funext fun b1_1 => funext fun b2_0 => funext fun b2_1 => funext fun b2_2 => funext fun b2_3 => funext fun b2_4 => funext fun b3 => funext fun b4p => funext fun b4i => funext fun b5 => impl_calc_normal_l19_eq n G3 k v64 v8 v62 v20 v21 v63 b0 b1_0 b1_1 b2_0 b2_1 b2_2 b2_3 b2_4 b3 b4p b4i b5)
    exact e

theorem impl_calc_normal_l11_eq (n : Nat) (G3 : St → Option (((((List Nat) × (List (List (Int × Int)))) × (Unit)) × (((List (Int × Int)) × (Unit)) × (Unit))) × ((Bool) × (Unit)))) (G7 : St → Option (((((List Nat) × (List (List (Int × Int)))) × (Unit)) × (((List (Int × Int)) × (Unit)) × (Unit))) × ((Bool) × (Unit)))) : ∀ (k : Nat) (v33 : Int) (v10 : Int) (v8 : Int) (v11 : Int) (v31 : List OB9) (v20 : Int) (v21 : Int) (v26 : Int) (v27 : Int) (v32 : Int) (b0 : Bool) (b1_0 : Int) (b1_1 : List OB9) (b1_2 : Bool) (b1_3 : Int) (b1_4 : Int) (b2 : List (Int × Int)) (b3p : List Nat) (b3i : List (List (Int × Int))) (b4 : List (Int × Int)), iter (interp (impl_calc_normalcs n) typ 120 1 n impl_calc_normalkp (codeAt impl_calc_normalc [1, 1, 0, 1, 0, 0, 1, 1, 0, 0, 1, 1, 0, 1, 0, 0, 1, 1, 0, 0, 1, 1, 0, 1, 0, 0])) (canon 1 (impl_calc_normalkp.loop 11)) (kAt (impl_calc_normalcs n) typ 120 1 n impl_calc_normalkp impl_calc_normalc [1, 1, 0, 1, 0, 0, 1, 1, 0, 0, 1, 1, 0, 1, 0, 0, 1, 1, 0, 0, 1, 1, 0, 1, 0] [G3, G7] (ending typ 1 Go.Proofs.Try.f57.results.toList impl_calc_normalrs impl_calc_normalbs)) k (impl_calc_normals11 v33 v10 v8 v11 v31 v20 v21 v26 v27 v32 b0 b1_0 b1_1 b1_2 b1_3 b1_4 b2 b3p b3i b4) = impl_calc_normal_l11 n (fun v21 v20 b0 b1_0 b1_1 b1_2 b1_3 b1_4 b2 b3p b3i => G3 (impl_calc_normals3 v21 v20 b0 b1_0 b1_1 b1_2 b1_3 b1_4 b2 b3p b3i)) (fun v8 v27 v20 v21 v26 b0 b1 b2_0 b2_1 b2_2 b2_3 b2_4 b3 b4p b4i => G7 (impl_calc_normals7 v8 v27 v20 v21 v26 b0 b1 b2_0 b2_1 b2_2 b2_3 b2_4 b3 b4p b4i)) k v33 v10 v8 v11 v31 v20 v21 v26 v27 v32 b0 b1_0 b1_1 b1_2 b1_3 b1_4 b2 b3p b3i b4
  | 0, _, _, _, _, _, _, _, _, _, _, _, _, _, _, _, _, _, _, _, _ => by kernel_rfl
  | k + 1, v33, v10, v8, v11, v31, v20, v21, v26, v27, v32, b0, b1_0, b1_1, b1_2, b1_3, b1_4, b2, b3p, b3i, b4 => by
    refine Eq.trans (b := impl_calc_normal_t11 n (fun v21 v20 b0 b1_0 b1_1 b1_2 b1_3 b1_4 b2 b3p b3i => G3 (impl_calc_normals3 v21 v20 b0 b1_0 b1_1 b1_2 b1_3 b1_4 b2 b3p b3i)) (fun v8 v27 v20 v21 v26 b0 b1 b2_0 b2_1 b2_2 b2_3 b2_4 b3 b4p b4i => G7 (impl_calc_normals7 v8 v27 v20 v21 v26 b0 b1 b2_0 b2_1 b2_2 b2_3 b2_4 b3 b4p b4i)) (fun v33 v10 v8 v11 v31 v20 v21 v26 v27 v32 b0 b1_0 b1_1 b1_2 b1_3 b1_4 b2 b3p b3i b4 => iter (interp (impl_calc_normalcs n) typ 120 1 n impl_calc_normalkp (codeAt impl_calc_normalc [1, 1, 0, 1, 0, 0, 1, 1, 0, 0, 1, 1, 0, 1, 0, 0, 1, 1, 0, 0, 1, 1, 0, 1, 0, 0])) (canon 1 (impl_calc_normalkp.loop 11)) (kAt (impl_calc_normalcs n) typ 120 1 n impl_calc_normalkp impl_calc_normalc [1, 1, 0, 1, 0, 0, 1, 1, 0, 0, 1, 1, 0, 1, 0, 0, 1, 1, 0, 0, 1, 1, 0, 1, 0] [G3, G7] (ending typ 1 Go.Proofs.Try.f57.results.toList impl_calc_normalrs impl_calc_normalbs)) k (impl_calc_normals11 v33 v10 v8 v11 v31 v20 v21 v26 v27 v32 b0 b1_0 b1_1 b1_2 b1_3 b1_4 b2 b3p b3i b4)) v33 v10 v8 v11 v31 v20 v21 v26 v27 v32 b0 b1_0 b1_1 b1_2 b1_3 b1_4 b2 b3p b3i b4) (by kernel_rfl) ?_
    have e := congrArg (fun g => impl_calc_normal_t11 n (fun v21 v20 b0 b1_0 b1_1 b1_2 b1_3 b1_4 b2 b3p b3i => G3 (impl_calc_normals3 v21 v20 b0 b1_0 b1_1 b1_2 b1_3 b1_4 b2 b3p b3i)) (fun v8 v27 v20 v21 v26 b0 b1 b2_0 b2_1 b2_2 b2_3 b2_4 b3 b4p b4i => G7 (impl_calc_normals7 v8 v27 v20 v21 v26 b0 b1 b2_0 b2_1 b2_2 b2_3 b2_4 b3 b4p b4i)) g v33 v10 v8 v11 v31 v20 v21 v26 v27 v32 b0 b1_0 b1_1 b1_2 b1_3 b1_4 b2 b3p b3i b4) (funext fun v33 => funext fun v10 => funext fun v8 => funext fun v11 => funext fun v31 => funext fun v20 => funext fun v21 => funext fun v26 => funext fun v27 => funext fun v32 => funext fun b0 => funext fun b1_0 => funext fun b1_1 => funext fun b1_2 => funext fun b1_3 => funext fun b1_4 => funext fun b2 => funext fun b3p => funext fun b3i => funext fun b4 => impl_calc_normal_l11_eq n G3 G7 k v33 v10 v8 v11 v31 v20 v21 v26 v27 v32 b0 b1_0 b1_1 b1_2 b1_3 b1_4 b2 b3p b3i b4)
    exact e

theorem impl_calc_normal_l7_eq (n : Nat) (G3 : St → Option (((((List Nat) × (List (List (Int × Int)))) × (Unit)) × (((List (Int × Int)) × (Unit)) × (Unit))) × ((Bool) × (Unit)))) : ∀ (k : Nat) (v8 : Int) (v27 : Int) (v20 : Int) (v21 : Int) (v26 : Int) (b0 : Bool) (b1 : List (Int × Int)) (b2_0 : Int) (b2_1 : List OB9) (b2_2 : Bool) (b2_3 : Int) (b2_4 : Int) (b3 : List (Int × Int)) (b4p : List Nat) (b4i : List (List (Int × Int))), iter (interp (impl_calc_normalcs n) typ 120 1 n impl_calc_normalkp (codeAt impl_calc_normalc [1, 1, 0, 1, 0, 0, 1, 1, 0, 0, 1, 1, 0, 1, 0, 0])) (canon 1 (impl_calc_normalkp.loop 7)) (kAt (impl_calc_normalcs n) typ 120 1 n impl_calc_normalkp impl_calc_normalc [1, 1, 0, 1, 0, 0, 1, 1, 0, 0, 1, 1, 0, 1, 0] [G3] (ending typ 1 Go.Proofs.Try.f57.results.toList impl_calc_normalrs impl_calc_normalbs)) k (impl_calc_normals7 v8 v27 v20 v21 v26 b0 b1 b2_0 b2_1 b2_2 b2_3 b2_4 b3 b4p b4i) = impl_calc_normal_l7 n (fun v21 v20 b0 b1_0 b1_1 b1_2 b1_3 b1_4 b2 b3p b3i => G3 (impl_calc_normals3 v21 v20 b0 b1_0 b1_1 b1_2 b1_3 b1_4 b2 b3p b3i)) k v8 v27 v20 v21 v26 b0 b1 b2_0 b2_1 b2_2 b2_3 b2_4 b3 b4p b4i
  | 0, _, _, _, _, _, _, _, _, _, _, _, _, _, _, _ => by kernel_rfl
  | k + 1, v8, v27, v20, v21, v26, b0, b1, b2_0, b2_1, b2_2, b2_3, b2_4, b3, b4p, b4i => by
    refine Eq.trans (b := impl_calc_normal_t7 n (fun k' v33 v10 v8 v11 v31 v20 v21 v26 v27 v32 b0 b1_0 b1_1 b1_2 b1_3 b1_4 b2 b3p b3i b4 => iter (interp (impl_calc_normalcs n) typ 120 1 n impl_calc_normalkp (codeAt impl_calc_normalc [1, 1, 0, 1, 0, 0, 1, 1, 0, 0, 1, 1, 0, 1, 0, 0, 1, 1, 0, 0, 1, 1, 0, 1, 0, 0])) (canon 1 (impl_calc_normalkp.loop 11)) (kAt (impl_calc_normalcs n) typ 120 1 n impl_calc_normalkp impl_calc_normalc [1, 1, 0, 1, 0, 0, 1, 1, 0, 0, 1, 1, 0, 1, 0, 0, 1, 1, 0, 0, 1, 1, 0, 1, 0] [G3, (fun s => iter (interp (impl_calc_normalcs n) typ 120 1 n impl_calc_normalkp (codeAt impl_calc_normalc [1, 1, 0, 1, 0, 0, 1, 1, 0, 0, 1, 1, 0, 1, 0, 0])) (canon 1 (impl_calc_normalkp.loop 7)) (kAt (impl_calc_normalcs n) typ 120 1 n impl_calc_normalkp impl_calc_normalc [1, 1, 0, 1, 0, 0, 1, 1, 0, 0, 1, 1, 0, 1, 0] [G3] (ending typ 1 Go.Proofs.Try.f57.results.toList impl_calc_normalrs impl_calc_normalbs)) k s)] (ending typ 1 Go.Proofs.Try.f57.results.toList impl_calc_normalrs impl_calc_normalbs)) k' (impl_calc_normals11 v33 v10 v8 v11 v31 v20 v21 v26 v27 v32 b0 b1_0 b1_1 b1_2 b1_3 b1_4 b2 b3p b3i b4)) (fun k' v64 v8 v62 v20 v21 v63 b0 b1_0 b1_1 b2_0 b2_1 b2_2 b2_3 b2_4 b3 b4p b4i b5 => iter (interp (impl_calc_normalcs n) typ 120 1 n impl_calc_normalkp (codeAt impl_calc_normalc [1, 1, 0, 1, 0, 0, 1, 1, 0, 0, 1, 1, 1, 1, 0, 1, 0, 0])) (canon 1 (impl_calc_normalkp.loop 19)) (kAt (impl_calc_normalcs n) typ 120 1 n impl_calc_normalkp impl_calc_normalc [1, 1, 0, 1, 0, 0, 1, 1, 0, 0, 1, 1, 1, 1, 0, 1, 0] [G3] (ending typ 1 Go.Proofs.Try.f57.results.toList impl_calc_normalrs impl_calc_normalbs)) k' (impl_calc_normals19 v64 v8 v62 v20 v21 v63 b0 b1_0 b1_1 b2_0 b2_1 b2_2 b2_3 b2_4 b3 b4p b4i b5)) (fun v21 v20 b0 b1_0 b1_1 b1_2 b1_3 b1_4 b2 b3p b3i => G3 (impl_calc_normals3 v21 v20 b0 b1_0 b1_1 b1_2 b1_3 b1_4 b2 b3p b3i)) (fun v8 v27 v20 v21 v26 b0 b1 b2_0 b2_1 b2_2 b2_3 b2_4 b3 b4p b4i => iter (interp (impl_calc_normalcs n) typ 120 1 n impl_calc_normalkp (codeAt impl_calc_normalc [1, 1, 0, 1, 0, 0, 1, 1, 0, 0, 1, 1, 0, 1, 0, 0])) (canon 1 (impl_calc_normalkp.loop 7)) (kAt (impl_calc_normalcs n) typ 120 1 n impl_calc_normalkp impl_calc_normalc [1, 1, 0, 1, 0, 0, 1, 1, 0, 0, 1, 1, 0, 1, 0] [G3] (ending typ 1 Go.Proofs.Try.f57.results.toList impl_calc_normalrs impl_calc_normalbs)) k (impl_calc_normals7 v8 v27 v20 v21 v26 b0 b1 b2_0 b2_1 b2_2 b2_3 b2_4 b3 b4p b4i)) v8 v27 v20 v21 v26 b0 b1 b2_0 b2_1 b2_2 b2_3 b2_4 b3 b4p b4i) (by kernel_rfl) ?_
    have e := congr (congr (congrArg (fun h11 h19 g => impl_calc_normal_t7 n h11 h19 (fun v21 v20 b0 b1_0 b1_1 b1_2 b1_3 b1_4 b2 b3p b3i => G3 (impl_calc_normals3 v21 v20 b0 b1_0 b1_1 b1_2 b1_3 b1_4 b2 b3p b3i)) g v8 v27 v20 v21 v26 b0 b1 b2_0 b2_1 b2_2 b2_3 b2_4 b3 b4p b4i) ((funext fun k' => funext fun v33 => funext fun v10 => funext fun v8 => funext fun v11 => funext fun v31 => funext fun v20 => funext fun v21 => funext fun v26 => funext fun v27 => funext fun v32 => funext fun b0 => funext fun b1_0 => funext fun b1_1 => funext fun b1_2 => funext fun b1_3 => funext fun b1_4 => funext fun b2 => funext fun b3p => funext fun b3i => funext fun b4 => impl_calc_normal_l11_eq n G3 (fun s => iter (interp (impl_calc_normalcs n) typ 120 1 n impl_calc_normalkp (codeAt impl_calc_normalc [1, 1, 0, 1, 0, 0, 1, 1, 0, 0, 1, 1, 0, 1, 0, 0])) (canon 1 (impl_calc_normalkp.loop 7)) (kAt (impl_calc_normalcs n) typ 120 1 n impl_calc_normalkp impl_calc_normalc [1, 1, 0, 1, 0, 0, 1, 1, 0, 0, 1, 1, 0, 1, 0] [G3] (ending typ 1 Go.Proofs.Try.f57.results.toList impl_calc_normalrs impl_calc_normalbs)) k s) k' v33 v10 v8 v11 v31 v20 v21 v26 v27 v32 b0 b1_0 b1_1 b1_2 b1_3 b1_4 b2 b3p b3i b4).trans (congrArg (fun z => impl_calc_normal_l11 n (fun v21 v20 b0 b1_0 b1_1 b1_2 b1_3 b1_4 b2 b3p b3i => G3 (impl_calc_normals3 v21 v20 b0 b1_0 b1_1 b1_2 b1_3 b1_4 b2 b3p b3i)) z) (funext fun v8 => funext fun v27 => funext fun v20 => funext fun v21 => funext fun v26 => funext fun b0 => funext fun b1 => funext fun b2_0 => funext fun b2_1 => funext fun b2_2 => funext fun b2_3 => funext fun b2_4 => funext fun b3 => funext fun b4p => funext fun b4i => impl_calc_normal_l7_eq n G3 k v8 v27 v20 v21 v26 b0 b1 b2_0 b2_1 b2_2 b2_3 b2_4 b3 b4p b4i)))) (funext fun k' => funext fun v64 => funext fun v8 => funext fun v62 => funext fun v20 => funext fun v21 => funext fun v63 => funext fun b0 => funext fun b1_0 => funext fun b1_1 => funext fun b2_0 => funext fun b2_1 => funext fun b2_2 => funext fun b2_3 => funext fun b2_4 => funext fun b3 => funext fun b4p => funext fun b4i => funext fun b5 => impl_calc_normal_l19_eq n G3 k' v64 v8 v62 v20 v21 v63 b0 b1_0 b1_1 b2_0 b2_1 b2_2 b2_3 b2_4 b3 b4p b4i b5)) (funext fun v8 => funext fun v27 => funext fun v20 => funext fun v21 => funext fun v26 => funext fun b0 => funext fun b1 => funext fun b2_0 => funext fun b2_1 => funext fun b2_2 => funext fun b2_3 => funext fun b2_4 => funext fun b3 => funext fun b4p => funext fun b4i => impl_calc_normal_l7_eq n G3 k v8 v27 v20 v21 v26 b0 b1 b2_0 b2_1 b2_2 b2_3 b2_4 b3 b4p b4i)
    exact e

theorem impl_calc_normal_l3_eq (n : Nat) : ∀ (k : Nat) (v21 : Int) (v20 : Int) (b0 : Bool) (b1_0 : Int) (b1_1 : List OB9) (b1_2 : Bool) (b1_3 : Int) (b1_4 : Int) (b2 : List (Int × Int)) (b3p : List Nat) (b3i : List (List (Int × Int))), iter (interp (impl_calc_normalcs n) typ 120 1 n impl_calc_normalkp (codeAt impl_calc_normalc [1, 1, 0, 1, 0, 0])) (canon 1 (impl_calc_normalkp.loop 3)) (impl_calc_normalk0 n) k (impl_calc_normals3 v21 v20 b0 b1_0 b1_1 b1_2 b1_3 b1_4 b2 b3p b3i) = impl_calc_normal_l3 n k v21 v20 b0 b1_0 b1_1 b1_2 b1_3 b1_4 b2 b3p b3i
  | 0, _, _, _, _, _, _, _, _, _, _, _ => by kernel_rfl
  | k + 1, v21, v20, b0, b1_0, b1_1, b1_2, b1_3, b1_4, b2, b3p, b3i => by
    refine Eq.trans (b := impl_calc_normal_t3 n (fun k' v8 v27 v20 v21 v26 b0 b1 b2_0 b2_1 b2_2 b2_3 b2_4 b3 b4p b4i => iter (interp (impl_calc_normalcs n) typ 120 1 n impl_calc_normalkp (codeAt impl_calc_normalc [1, 1, 0, 1, 0, 0, 1, 1, 0, 0, 1, 1, 0, 1, 0, 0])) (canon 1 (impl_calc_normalkp.loop 7)) (kAt (impl_calc_normalcs n) typ 120 1 n impl_calc_normalkp impl_calc_normalc [1, 1, 0, 1, 0, 0, 1, 1, 0, 0, 1, 1, 0, 1, 0] [(fun s => iter (interp (impl_calc_normalcs n) typ 120 1 n impl_calc_normalkp (codeAt impl_calc_normalc [1, 1, 0, 1, 0, 0])) (canon 1 (impl_calc_normalkp.loop 3)) (impl_calc_normalk0 n) k s)] (ending typ 1 Go.Proofs.Try.f57.results.toList impl_calc_normalrs impl_calc_normalbs)) k' (impl_calc_normals7 v8 v27 v20 v21 v26 b0 b1 b2_0 b2_1 b2_2 b2_3 b2_4 b3 b4p b4i)) (fun v21 v20 b0 b1_0 b1_1 b1_2 b1_3 b1_4 b2 b3p b3i => iter (interp (impl_calc_normalcs n) typ 120 1 n impl_calc_normalkp (codeAt impl_calc_normalc [1, 1, 0, 1, 0, 0])) (canon 1 (impl_calc_normalkp.loop 3)) (impl_calc_normalk0 n) k (impl_calc_normals3 v21 v20 b0 b1_0 b1_1 b1_2 b1_3 b1_4 b2 b3p b3i)) v21 v20 b0 b1_0 b1_1 b1_2 b1_3 b1_4 b2 b3p b3i) (by kernel_rfl) ?_
    have e := congr (congrArg (fun h7 g => impl_calc_normal_t3 n h7 g v21 v20 b0 b1_0 b1_1 b1_2 b1_3 b1_4 b2 b3p b3i) ((funext fun k' => funext fun v8 => funext fun v27 => funext fun v20 => funext fun v21 => funext fun v26 => funext fun b0 => funext fun b1 => funext fun b2_0 => funext fun b2_1 => funext fun b2_2 => funext fun b2_3 => funext fun b2_4 => funext fun b3 => funext fun b4p => funext fun b4i => impl_calc_normal_l7_eq n (fun s => iter (interp (impl_calc_normalcs n) typ 120 1 n impl_calc_normalkp (codeAt impl_calc_normalc [1, 1, 0, 1, 0, 0])) (canon 1 (impl_calc_normalkp.loop 3)) (impl_calc_normalk0 n) k s) k' v8 v27 v20 v21 v26 b0 b1 b2_0 b2_1 b2_2 b2_3 b2_4 b3 b4p b4i).trans (congrArg (fun z => impl_calc_normal_l7 n z) (funext fun v21 => funext fun v20 => funext fun b0 => funext fun b1_0 => funext fun b1_1 => funext fun b1_2 => funext fun b1_3 => funext fun b1_4 => funext fun b2 => funext fun b3p => funext fun b3i => impl_calc_normal_l3_eq n k v21 v20 b0 b1_0 b1_1 b1_2 b1_3 b1_4 b2 b3p b3i)))) (funext fun v21 => funext fun v20 => funext fun b0 => funext fun b1_0 => funext fun b1_1 => funext fun b1_2 => funext fun b1_3 => funext fun b1_4 => funext fun b2 => funext fun b3p => funext fun b3i => impl_calc_normal_l3_eq n k v21 v20 b0 b1_0 b1_1 b1_2 b1_3 b1_4 b2 b3p b3i)
    exact e

theorem impl_calc_normal_eq (n : Nat) (a1 : (Int) × ((List OB9) × ((Bool) × (Int × Int)))) (b0 : Bool) : runBody (impl_calc_normalcs n) typ 120 n impl_calc_normalkp impl_calc_normalc Go.Proofs.Try.f57.results.toList impl_calc_normalrs impl_calc_normalsp impl_calc_normalbs ((), (a1, ())) (b0, ()) = impl_calc_normal n a1 b0 := by
  refine Eq.trans (b := impl_calc_normal_t n (fun k v21 v20 b0 b1_0 b1_1 b1_2 b1_3 b1_4 b2 b3p b3i => iter (interp (impl_calc_normalcs n) typ 120 1 n impl_calc_normalkp (codeAt impl_calc_normalc [1, 1, 0, 1, 0, 0])) (canon 1 (impl_calc_normalkp.loop 3)) (impl_calc_normalk0 n) k (impl_calc_normals3 v21 v20 b0 b1_0 b1_1 b1_2 b1_3 b1_4 b2 b3p b3i)) a1 b0) (by kernel_rfl) ?_
  have e := congrArg (fun h3 => impl_calc_normal_t n h3 a1 b0) (funext fun k => funext fun v21 => funext fun v20 => funext fun b0 => funext fun b1_0 => funext fun b1_1 => funext fun b1_2 => funext fun b1_3 => funext fun b1_4 => funext fun b2 => funext fun b3p => funext fun b3i => impl_calc_normal_l3_eq n k v21 v20 b0 b1_0 b1_1 b1_2 b1_3 b1_4 b2 b3p b3i)
  exact e

theorem impl_calc_normal_ok (n : Nat) : FunOk P (impl_calc_normalF n) :=
  funOk_mkP (C := [impl_numF n, impl_zeroF n, impl_calc_mulF n, impl_calc_addF n, slices_Repeat_impl_Frac_impl_FracF n]) (N := 120) (kp := impl_calc_normalkp) (c := impl_calc_normalc) (n := n) (G := fun x y => impl_calc_normal n x.2.1 y.1) follows (AllOk.mem (⟨impl_num_ok n, ⟨impl_zero_ok n, ⟨impl_calc_mul_ok n, ⟨impl_calc_add_ok n, ⟨slices_Repeat_impl_Frac_impl_Frac_ok n, trivial⟩⟩⟩⟩⟩ : AllOk P ([impl_numF n, impl_zeroF n, impl_calc_mulF n, impl_calc_addF n, slices_Repeat_impl_Frac_impl_FracF n]))) (by kernel_rfl : P.funcs[57]? = some Go.Proofs.Try.f57) (by kernel_rfl) (by kernel_rfl) (by kernel_rfl)
    (fun x y => impl_calc_normal_eq n x.2.1 y.1) (fun _ _ => map_same (fun _ => rfl) _) (fun _ _ _ _ => rfl)

abbrev impl_NormalOfsp : List Sp := [.v true (.pair (.int .i64) (.pair (.list tO) (.pair .bool tF)))]
abbrev impl_NormalOfbs : List (Bs × Bool) := []
abbrev impl_NormalOfrs : List (Bool × List Rp) := [(false, [.newp  tF]), (false, [.new  tF]), (false, [.v false (.int .i64)])]
noncomputable def impl_NormalOfkp : Keep := { loop := fun id => match id with | _ => ([], []), join := fun id => match id with | _ => none }
noncomputable def impl_NormalOfc : Code := bodyOf Go.Proofs.Try.f11
noncomputable def impl_NormalOfF (n : Nat) : Fun := { id := 11, sp := impl_NormalOfsp, bs := impl_NormalOfbs, rs := impl_NormalOfrs, f := fun x y => impl_NormalOf n x.1 }

theorem impl_NormalOf_eq (n : Nat) (a0 : (Int) × ((List OB9) × ((Bool) × (Int × Int)))) : runBody ([impl_ValidTableF n, impl_calc_normalF n]) typ 25 n impl_NormalOfkp impl_NormalOfc Go.Proofs.Try.f11.results.toList impl_NormalOfrs impl_NormalOfsp impl_NormalOfbs (a0, ()) () = impl_NormalOf n a0 := by
  refine Eq.trans (b := impl_NormalOf_t n a0) (by kernel_rfl) ?_
  rfl

theorem impl_NormalOf_ok (n : Nat) : FunOk P (impl_NormalOfF n) :=
  funOk_mkP (C := [impl_ValidTableF n, impl_calc_normalF n]) (N := 25) (kp := impl_NormalOfkp) (c := impl_NormalOfc) (n := n) (G := fun x y => impl_NormalOf n x.1) follows (AllOk.mem (⟨impl_ValidTable_ok n, ⟨impl_calc_normal_ok n, trivial⟩⟩ : AllOk P ([impl_ValidTableF n, impl_calc_normalF n]))) (by kernel_rfl : P.funcs[11]? = some Go.Proofs.Try.f11) (by kernel_rfl) (by kernel_rfl) (by kernel_rfl)
    (fun x y => impl_NormalOf_eq n x.1) (fun _ _ => map_same (fun _ => rfl) _) (fun _ _ _ _ => rfl)

abbrev impl_areValid_1sp : List Sp := [.v true tF]
abbrev impl_areValid_1bs : List (Bs × Bool) := []
abbrev impl_areValid_1rs : List (Bool × List Rp) := [(false, [.v false .bool])]
noncomputable def impl_areValid_1kp : Keep := { loop := fun id => match id with | _ => ([], []), join := fun id => match id with | _ => none }
noncomputable def impl_areValid_1c : Code := bodyOf Go.Proofs.Try.f122
noncomputable def impl_areValid_1F (n : Nat) : Fun := { id := 122, sp := impl_areValid_1sp, bs := impl_areValid_1bs, rs := impl_areValid_1rs, f := fun x y => impl_areValid_1 n x.1 }

theorem impl_areValid_1_eq (n : Nat) (a0 : (Int) × (Int)) : runBody ([impl_ValidFracF n]) ty 6 n impl_areValid_1kp impl_areValid_1c Go.Proofs.Try.f122.results.toList impl_areValid_1rs impl_areValid_1sp impl_areValid_1bs (a0, ()) () = impl_areValid_1 n a0 := by
  refine Eq.trans (b := impl_areValid_1_t n a0) (by kernel_rfl) ?_
  rfl

theorem impl_areValid_1_ok (n : Nat) : FunOk P (impl_areValid_1F n) :=
  funOk_mk (C := [impl_ValidFracF n]) (N := 6) (kp := impl_areValid_1kp) (c := impl_areValid_1c) (n := n) (G := fun x y => impl_areValid_1 n x.1) follows (AllOk.mem (⟨impl_ValidFrac_ok n, trivial⟩ : AllOk P ([impl_ValidFracF n]))) (by kernel_rfl : P.funcs[122]? = some Go.Proofs.Try.f122) (by kernel_rfl) (by kernel_rfl) (by kernel_rfl)
    (fun x y => impl_areValid_1_eq n x.1) (fun _ _ => map_same (fun _ => rfl) _) (fun _ _ _ _ => rfl)

abbrev slices_IndexFunc_impl_Frac_impl_Frac_at_impl_areValid_1sp : List Sp := [.v false (.list tF), .cl 122 []]
abbrev slices_IndexFunc_impl_Frac_impl_Frac_at_impl_areValid_1bs : List (Bs × Bool) := []
abbrev slices_IndexFunc_impl_Frac_impl_Frac_at_impl_areValid_1rs : List (Bool × List Rp) := [(false, [.v false (.int .i64)])]
noncomputable def slices_IndexFunc_impl_Frac_impl_Frac_at_impl_areValid_1kp : Keep := { loop := fun id => match id with | 2 => ([8, 0, 1, 7], []) | _ => ([], []), join := fun id => match id with | _ => none }
noncomputable def slices_IndexFunc_impl_Frac_impl_Frac_at_impl_areValid_1c : Code := bodyOf Go.Proofs.Try.f136
noncomputable def slices_IndexFunc_impl_Frac_impl_Frac_at_impl_areValid_1F (n : Nat) : Fun := { id := 136, sp := slices_IndexFunc_impl_Frac_impl_Frac_at_impl_areValid_1sp, bs := slices_IndexFunc_impl_Frac_impl_Frac_at_impl_areValid_1bs, rs := slices_IndexFunc_impl_Frac_impl_Frac_at_impl_areValid_1rs, f := fun x y => slices_IndexFunc_impl_Frac_impl_Frac_at_impl_areValid_1 n x.1 }

abbrev slices_IndexFunc_impl_Frac_impl_Frac_at_impl_areValid_1s2 (v8 : Int) (v0 : List (Int × Int)) (v7 : Int) : St := { env := [(8, .one (.sc (.int .i64 v8))), (0, .one (.list true tF v0)), (1, .one (.clos 122 [])), (7, .one (.sc (.int .i64 v7)))], bx := [], nx := 0 }
noncomputable abbrev slices_IndexFunc_impl_Frac_impl_Frac_at_impl_areValid_1k0 (n : Nat) := kAt ([impl_areValid_1F n]) ty 19 0 n slices_IndexFunc_impl_Frac_impl_Frac_at_impl_areValid_1kp slices_IndexFunc_impl_Frac_impl_Frac_at_impl_areValid_1c [1, 0, 1, 0] [] (ending ty 0 Go.Proofs.Try.f136.results.toList slices_IndexFunc_impl_Frac_impl_Frac_at_impl_areValid_1rs slices_IndexFunc_impl_Frac_impl_Frac_at_impl_areValid_1bs)
theorem slices_IndexFunc_impl_Frac_impl_Frac_at_impl_areValid_1_l2_eq (n : Nat) : ∀ (k : Nat) (v8 : Int) (v0 : List (Int × Int)) (v7 : Int), iter (interp ([impl_areValid_1F n]) ty 19 0 n slices_IndexFunc_impl_Frac_impl_Frac_at_impl_areValid_1kp (codeAt slices_IndexFunc_impl_Frac_impl_Frac_at_impl_areValid_1c [1, 0, 1, 0, 0])) (canon 0 (slices_IndexFunc_impl_Frac_impl_Frac_at_impl_areValid_1kp.loop 2)) (slices_IndexFunc_impl_Frac_impl_Frac_at_impl_areValid_1k0 n) k (slices_IndexFunc_impl_Frac_impl_Frac_at_impl_areValid_1s2 v8 v0 v7) = slices_IndexFunc_impl_Frac_impl_Frac_at_impl_areValid_1_l2 n k v8 v0 v7
  | 0, _, _, _ => by kernel_rfl
  | k + 1, v8, v0, v7 => by
    refine Eq.trans (b := slices_IndexFunc_impl_Frac_impl_Frac_at_impl_areValid_1_t2 n (fun v8 v0 v7 => iter (interp ([impl_areValid_1F n]) ty 19 0 n slices_IndexFunc_impl_Frac_impl_Frac_at_impl_areValid_1kp (codeAt slices_IndexFunc_impl_Frac_impl_Frac_at_impl_areValid_1c [1, 0, 1, 0, 0])) (canon 0 (slices_IndexFunc_impl_Frac_impl_Frac_at_impl_areValid_1kp.loop 2)) (slices_IndexFunc_impl_Frac_impl_Frac_at_impl_areValid_1k0 n) k (slices_IndexFunc_impl_Frac_impl_Frac_at_impl_areValid_1s2 v8 v0 v7)) v8 v0 v7) (by kernel_rfl) ?_
    have e := congrArg (fun g => slices_IndexFunc_impl_Frac_impl_Frac_at_impl_areValid_1_t2 n g v8 v0 v7) (funext fun v8 => funext fun v0 => funext fun v7 => slices_IndexFunc_impl_Frac_impl_Frac_at_impl_areValid_1_l2_eq n k v8 v0 v7)
    exact e

theorem slices_IndexFunc_impl_Frac_impl_Frac_at_impl_areValid_1_eq (n : Nat) (a0 : List (Int × Int)) : runBody ([impl_areValid_1F n]) ty 19 n slices_IndexFunc_impl_Frac_impl_Frac_at_impl_areValid_1kp slices_IndexFunc_impl_Frac_impl_Frac_at_impl_areValid_1c Go.Proofs.Try.f136.results.toList slices_IndexFunc_impl_Frac_impl_Frac_at_impl_areValid_1rs slices_IndexFunc_impl_Frac_impl_Frac_at_impl_areValid_1sp slices_IndexFunc_impl_Frac_impl_Frac_at_impl_areValid_1bs (a0, ((), ())) () = slices_IndexFunc_impl_Frac_impl_Frac_at_impl_areValid_1 n a0 := by
  refine Eq.trans (b := slices_IndexFunc_impl_Frac_impl_Frac_at_impl_areValid_1_t n (fun k v8 v0 v7 => iter (interp ([impl_areValid_1F n]) ty 19 0 n slices_IndexFunc_impl_Frac_impl_Frac_at_impl_areValid_1kp (codeAt slices_IndexFunc_impl_Frac_impl_Frac_at_impl_areValid_1c [1, 0, 1, 0, 0])) (canon 0 (slices_IndexFunc_impl_Frac_impl_Frac_at_impl_areValid_1kp.loop 2)) (slices_IndexFunc_impl_Frac_impl_Frac_at_impl_areValid_1k0 n) k (slices_IndexFunc_impl_Frac_impl_Frac_at_impl_areValid_1s2 v8 v0 v7)) a0) (by kernel_rfl) ?_
  have e := congrArg (fun h2 => slices_IndexFunc_impl_Frac_impl_Frac_at_impl_areValid_1_t n h2 a0) (funext fun k => funext fun v8 => funext fun v0 => funext fun v7 => slices_IndexFunc_impl_Frac_impl_Frac_at_impl_areValid_1_l2_eq n k v8 v0 v7)
  exact e

theorem slices_IndexFunc_impl_Frac_impl_Frac_at_impl_areValid_1_ok (n : Nat) : FunOk P (slices_IndexFunc_impl_Frac_impl_Frac_at_impl_areValid_1F n) :=
  funOk_mk (C := [impl_areValid_1F n]) (N := 19) (kp := slices_IndexFunc_impl_Frac_impl_Frac_at_impl_areValid_1kp) (c := slices_IndexFunc_impl_Frac_impl_Frac_at_impl_areValid_1c) (n := n) (G := fun x y => slices_IndexFunc_impl_Frac_impl_Frac_at_impl_areValid_1 n x.1) follows (AllOk.mem (⟨impl_areValid_1_ok n, trivial⟩ : AllOk P ([impl_areValid_1F n]))) (by kernel_rfl : P.funcs[136]? = some Go.Proofs.Try.f136) (by kernel_rfl) (by kernel_rfl) (by kernel_rfl)
    (fun x y => slices_IndexFunc_impl_Frac_impl_Frac_at_impl_areValid_1_eq n x.1) (fun _ _ => map_same (fun _ => rfl) _) (fun _ _ _ _ => rfl)

abbrev slices_ContainsFunc_impl_Frac_impl_Frac_at_impl_areValid_1sp : List Sp := [.v false (.list tF), .cl 122 []]
abbrev slices_ContainsFunc_impl_Frac_impl_Frac_at_impl_areValid_1bs : List (Bs × Bool) := []
abbrev slices_ContainsFunc_impl_Frac_impl_Frac_at_impl_areValid_1rs : List (Bool × List Rp) := [(false, [.v false .bool])]
noncomputable def slices_ContainsFunc_impl_Frac_impl_Frac_at_impl_areValid_1kp : Keep := { loop := fun id => match id with | _ => ([], []), join := fun id => match id with | _ => none }
noncomputable def slices_ContainsFunc_impl_Frac_impl_Frac_at_impl_areValid_1c : Code := bodyOf Go.Proofs.Try.f121
noncomputable def slices_ContainsFunc_impl_Frac_impl_Frac_at_impl_areValid_1F (n : Nat) : Fun := { id := 121, sp := slices_ContainsFunc_impl_Frac_impl_Frac_at_impl_areValid_1sp, bs := slices_ContainsFunc_impl_Frac_impl_Frac_at_impl_areValid_1bs, rs := slices_ContainsFunc_impl_Frac_impl_Frac_at_impl_areValid_1rs, f := fun x y => slices_ContainsFunc_impl_Frac_impl_Frac_at_impl_areValid_1 n x.1 }

theorem slices_ContainsFunc_impl_Frac_impl_Frac_at_impl_areValid_1_eq (n : Nat) (a0 : List (Int × Int)) : runBody ([slices_IndexFunc_impl_Frac_impl_Frac_at_impl_areValid_1F n]) ty 9 n slices_ContainsFunc_impl_Frac_impl_Frac_at_impl_areValid_1kp slices_ContainsFunc_impl_Frac_impl_Frac_at_impl_areValid_1c Go.Proofs.Try.f121.results.toList slices_ContainsFunc_impl_Frac_impl_Frac_at_impl_areValid_1rs slices_ContainsFunc_impl_Frac_impl_Frac_at_impl_areValid_1sp slices_ContainsFunc_impl_Frac_impl_Frac_at_impl_areValid_1bs (a0, ((), ())) () = slices_ContainsFunc_impl_Frac_impl_Frac_at_impl_areValid_1 n a0 := by
  refine Eq.trans (b := slices_ContainsFunc_impl_Frac_impl_Frac_at_impl_areValid_1_t n a0) (by kernel_rfl) ?_
  rfl

theorem slices_ContainsFunc_impl_Frac_impl_Frac_at_impl_areValid_1_ok (n : Nat) : FunOk P (slices_ContainsFunc_impl_Frac_impl_Frac_at_impl_areValid_1F n) :=
  funOk_mk (C := [slices_IndexFunc_impl_Frac_impl_Frac_at_impl_areValid_1F n]) (N := 9) (kp := slices_ContainsFunc_impl_Frac_impl_Frac_at_impl_areValid_1kp) (c := slices_ContainsFunc_impl_Frac_impl_Frac_at_impl_areValid_1c) (n := n) (G := fun x y => slices_ContainsFunc_impl_Frac_impl_Frac_at_impl_areValid_1 n x.1) follows (AllOk.mem (⟨slices_IndexFunc_impl_Frac_impl_Frac_at_impl_areValid_1_ok n, trivial⟩ : AllOk P ([slices_IndexFunc_impl_Frac_impl_Frac_at_impl_areValid_1F n]))) (by kernel_rfl : P.funcs[121]? = some Go.Proofs.Try.f121) (by kernel_rfl) (by kernel_rfl) (by kernel_rfl)
    (fun x y => slices_ContainsFunc_impl_Frac_impl_Frac_at_impl_areValid_1_eq n x.1) (fun _ _ => map_same (fun _ => rfl) _) (fun _ _ _ _ => rfl)

abbrev impl_areValidsp : List Sp := [.v false (.list tF)]
abbrev impl_areValidbs : List (Bs × Bool) := []
abbrev impl_areValidrs : List (Bool × List Rp) := [(false, [.v false .bool])]
noncomputable def impl_areValidkp : Keep := { loop := fun id => match id with | _ => ([], []), join := fun id => match id with | _ => none }
noncomputable def impl_areValidc : Code := bodyOf Go.Proofs.Try.f61
noncomputable def impl_areValidF (n : Nat) : Fun := { id := 61, sp := impl_areValidsp, bs := impl_areValidbs, rs := impl_areValidrs, f := fun x y => impl_areValid n x.1 }

theorem impl_areValid_eq (n : Nat) (a0 : List (Int × Int)) : runBody ([slices_ContainsFunc_impl_Frac_impl_Frac_at_impl_areValid_1F n]) ty 6 n impl_areValidkp impl_areValidc Go.Proofs.Try.f61.results.toList impl_areValidrs impl_areValidsp impl_areValidbs (a0, ()) () = impl_areValid n a0 := by
  refine Eq.trans (b := impl_areValid_t n a0) (by kernel_rfl) ?_
  rfl

theorem impl_areValid_ok (n : Nat) : FunOk P (impl_areValidF n) :=
  funOk_mk (C := [slices_ContainsFunc_impl_Frac_impl_Frac_at_impl_areValid_1F n]) (N := 6) (kp := impl_areValidkp) (c := impl_areValidc) (n := n) (G := fun x y => impl_areValid n x.1) follows (AllOk.mem (⟨slices_ContainsFunc_impl_Frac_impl_Frac_at_impl_areValid_1_ok n, trivial⟩ : AllOk P ([slices_ContainsFunc_impl_Frac_impl_Frac_at_impl_areValid_1F n]))) (by kernel_rfl : P.funcs[61]? = some Go.Proofs.Try.f61) (by kernel_rfl) (by kernel_rfl) (by kernel_rfl)
    (fun x y => impl_areValid_eq n x.1) (fun _ _ => map_same (fun _ => rfl) _) (fun _ _ _ _ => rfl)

abbrev impl_calc_divsp : List Sp := [.ref 0, .v true tF, .v true tF]
abbrev impl_calc_divbs : List (Bs × Bool) := [(.var 89 .bool, true)]
abbrev impl_calc_divrs : List (Bool × List Rp) := [(true, [.v false tF])]
noncomputable def impl_calc_divkp : Keep := { loop := fun id => match id with | _ => ([], []), join := fun id => match id with | _ => none }
noncomputable def impl_calc_divc : Code := bodyOf Go.Proofs.Try.f66
noncomputable def impl_calc_divF (n : Nat) : Fun := { id := 66, sp := impl_calc_divsp, bs := impl_calc_divbs, rs := impl_calc_divrs, f := fun x y => impl_calc_div n x.2.1 x.2.2.1 y.1 }

theorem impl_calc_div_eq (n : Nat) (a1 : (Int) × (Int)) (a2 : (Int) × (Int)) (b0 : Bool) : runBody ([impl_zeroF n, impl_calc_toldF n]) ty 26 n impl_calc_divkp impl_calc_divc Go.Proofs.Try.f66.results.toList impl_calc_divrs impl_calc_divsp impl_calc_divbs ((), (a1, (a2, ()))) (b0, ()) = impl_calc_div n a1 a2 b0 := by
  refine Eq.trans (b := impl_calc_div_t n a1 a2 b0) (by kernel_rfl) ?_
  rfl

theorem impl_calc_div_ok (n : Nat) : FunOk P (impl_calc_divF n) :=
  funOk_mk (C := [impl_zeroF n, impl_calc_toldF n]) (N := 26) (kp := impl_calc_divkp) (c := impl_calc_divc) (n := n) (G := fun x y => impl_calc_div n x.2.1 x.2.2.1 y.1) follows (AllOk.mem (⟨impl_zero_ok n, ⟨impl_calc_told_ok n, trivial⟩⟩ : AllOk P ([impl_zeroF n, impl_calc_toldF n]))) (by kernel_rfl : P.funcs[66]? = some Go.Proofs.Try.f66) (by kernel_rfl) (by kernel_rfl) (by kernel_rfl)
    (fun x y => impl_calc_div_eq n x.2.1 x.2.2.1 y.1) (fun _ _ => map_same (fun _ => rfl) _) (fun _ _ _ _ => rfl)

abbrev impl_calc_subsp : List Sp := [.ref 0, .v true tF, .v true tF]
abbrev impl_calc_subbs : List (Bs × Bool) := [(.var 89 .bool, true)]
abbrev impl_calc_subrs : List (Bool × List Rp) := [(true, [.v false tF])]
noncomputable def impl_calc_subkp : Keep := { loop := fun id => match id with | _ => ([], []), join := fun id => match id with | _ => none }
noncomputable def impl_calc_subc : Code := bodyOf Go.Proofs.Try.f88
noncomputable def impl_calc_subF (n : Nat) : Fun := { id := 88, sp := impl_calc_subsp, bs := impl_calc_subbs, rs := impl_calc_subrs, f := fun x y => impl_calc_sub n x.2.1 x.2.2.1 y.1 }

theorem impl_calc_sub_eq (n : Nat) (a1 : (Int) × (Int)) (a2 : (Int) × (Int)) (b0 : Bool) : runBody ([impl_calc_toldF n]) ty 25 n impl_calc_subkp impl_calc_subc Go.Proofs.Try.f88.results.toList impl_calc_subrs impl_calc_subsp impl_calc_subbs ((), (a1, (a2, ()))) (b0, ()) = impl_calc_sub n a1 a2 b0 := by
  refine Eq.trans (b := impl_calc_sub_t n a1 a2 b0) (by kernel_rfl) ?_
  rfl

theorem impl_calc_sub_ok (n : Nat) : FunOk P (impl_calc_subF n) :=
  funOk_mk (C := [impl_calc_toldF n]) (N := 25) (kp := impl_calc_subkp) (c := impl_calc_subc) (n := n) (G := fun x y => impl_calc_sub n x.2.1 x.2.2.1 y.1) follows (AllOk.mem (⟨impl_calc_told_ok n, trivial⟩ : AllOk P ([impl_calc_toldF n]))) (by kernel_rfl : P.funcs[88]? = some Go.Proofs.Try.f88) (by kernel_rfl) (by kernel_rfl) (by kernel_rfl)
    (fun x y => impl_calc_sub_eq n x.2.1 x.2.2.1 y.1) (fun _ _ => map_same (fun _ => rfl) _) (fun _ _ _ _ => rfl)

abbrev impl_calc_eliminatesp : List Sp := [.ref 0, .sl 1, .sl 2, .v false (.int .i64), .v false (.int .i64)]
abbrev impl_calc_eliminatebs : List (Bs × Bool) := [(.var 89 .bool, true), (.pool  tF, true), (.row  tF, true)]
abbrev impl_calc_eliminaters : List (Bool × List Rp) := [(false, [.v false .bool])]
noncomputable def impl_calc_eliminatekp : Keep := { loop := fun id => match id with | 2 => ([11, 4, 1, 0, 2, 3], []) | 9 => ([67, 4, 1, 0, 2, 3, 66], []) | 14 => ([14, 4, 1, 13, 0, 12, 2, 3, 66, 67], []) | _ => ([], []), join := fun id => match id with | _ => none }
noncomputable def impl_calc_eliminatec : Code := bodyOf Go.Proofs.Try.f65
noncomputable def impl_calc_eliminateF (n : Nat) : Fun := { id := 65, sp := impl_calc_eliminatesp, bs := impl_calc_eliminatebs, rs := impl_calc_eliminaters, f := fun x y => impl_calc_eliminate n x.2.2.2.1 x.2.2.2.2.1 y.1 y.2.1 y.2.2.1 }

noncomputable abbrev impl_calc_eliminatecs (n : Nat) : List Fun := [impl_calc_divF n, impl_calc_mulF n, impl_calc_subF n]
abbrev impl_calc_eliminates14 (v14 : Int) (v4 : Int) (v12 : Int) (v3 : Int) (v66 : Int) (v67 : Int) (b0 : Bool) (b1p : List Nat) (b1i : List (List (Int × Int))) (b2 : List (Int × Int)) (b3_0 : Int) (b3_1 : Int) : St := { env := [(14, .one (.sc (.int .i64 v14))), (4, .one (.sc (.int .i64 v4))), (1, .one (.slice 1 0 none)), (13, .one (.ref 3 0 0 0 0 0)), (0, .one (.ref 0 0 0 0 0 0)), (12, .one (.sc (.int .i64 v12))), (2, .one (.slice 2 0 none)), (3, .one (.sc (.int .i64 v3))), (66, .one (.sc (.int .i64 v66))), (67, .one (.sc (.int .i64 v67)))], bx := [(0, .var 89 [.sc (.bool b0)]), (1, .pool 0 tF b1p b1i), (2, .row 0 tF b2), (3, .var 26 [.sc (.int .i64 b3_0), .sc (.int .i64 b3_1)])], nx := 4 }
abbrev impl_calc_eliminates9 (v67 : Int) (v4 : Int) (v3 : Int) (v66 : Int) (b0 : Bool) (b1p : List Nat) (b1i : List (List (Int × Int))) (b2 : List (Int × Int)) : St := { env := [(67, .one (.sc (.int .i64 v67))), (4, .one (.sc (.int .i64 v4))), (1, .one (.slice 1 0 none)), (0, .one (.ref 0 0 0 0 0 0)), (2, .one (.slice 2 0 none)), (3, .one (.sc (.int .i64 v3))), (66, .one (.sc (.int .i64 v66)))], bx := [(0, .var 89 [.sc (.bool b0)]), (1, .pool 0 tF b1p b1i), (2, .row 0 tF b2)], nx := 3 }
abbrev impl_calc_eliminates2 (v11 : Int) (v4 : Int) (v3 : Int) (b0 : Bool) (b1p : List Nat) (b1i : List (List (Int × Int))) (b2 : List (Int × Int)) : St := { env := [(11, .one (.sc (.int .i64 v11))), (4, .one (.sc (.int .i64 v4))), (1, .one (.slice 1 0 none)), (0, .one (.ref 0 0 0 0 0 0)), (2, .one (.slice 2 0 none)), (3, .one (.sc (.int .i64 v3)))], bx := [(0, .var 89 [.sc (.bool b0)]), (1, .pool 0 tF b1p b1i), (2, .row 0 tF b2)], nx := 3 }
noncomputable abbrev impl_calc_eliminatek0 (n : Nat) := kAt (impl_calc_eliminatecs n) typ 158 3 n impl_calc_eliminatekp impl_calc_eliminatec [1, 1, 1, 1, 1, 1, 0, 1, 0] [] (ending typ 3 Go.Proofs.Try.f65.results.toList impl_calc_eliminaters impl_calc_eliminatebs)
noncomputable abbrev impl_calc_eliminatek1 (n : Nat) := kAt (impl_calc_eliminatecs n) typ 158 3 n impl_calc_eliminatekp impl_calc_eliminatec [1, 1, 0, 0] [] (ending typ 3 Go.Proofs.Try.f65.results.toList impl_calc_eliminaters impl_calc_eliminatebs)
theorem impl_calc_eliminate_l14_eq (n : Nat) (G9 : St → Option ((((Bool) × (Unit)) × (Unit)) × ((Bool) × (((List Nat) × (List (List (Int × Int)))) × ((List (Int × Int)) × (Unit)))))) : ∀ (k : Nat) (v14 : Int) (v4 : Int) (v12 : Int) (v3 : Int) (v66 : Int) (v67 : Int) (b0 : Bool) (b1p : List Nat) (b1i : List (List (Int × Int))) (b2 : List (Int × Int)) (b3_0 : Int) (b3_1 : Int), iter (interp (impl_calc_eliminatecs n) typ 158 3 n impl_calc_eliminatekp (codeAt impl_calc_eliminatec [1, 1, 1, 1, 1, 1, 0, 1, 0, 0, 1, 1, 0, 0, 1, 1, 1, 0, 1, 0, 0])) (canon 3 (impl_calc_eliminatekp.loop 14)) (kAt (impl_calc_eliminatecs n) typ 158 3 n impl_calc_eliminatekp impl_calc_eliminatec [1, 1, 1, 1, 1, 1, 0, 1, 0, 0, 1, 1, 0, 0, 1, 1, 1, 0, 1, 0] [G9] (ending typ 3 Go.Proofs.Try.f65.results.toList impl_calc_eliminaters impl_calc_eliminatebs)) k (impl_calc_eliminates14 v14 v4 v12 v3 v66 v67 b0 b1p b1i b2 b3_0 b3_1) = impl_calc_eliminate_l14 n (fun v67 v4 v3 v66 b0 b1p b1i b2 => G9 (impl_calc_eliminates9 v67 v4 v3 v66 b0 b1p b1i b2)) k v14 v4 v12 v3 v66 v67 b0 b1p b1i b2 b3_0 b3_1
  | 0, _, _, _, _, _, _, _, _, _, _, _, _ => by kernel_rfl
  | k + 1, v14, v4, v12, v3, v66, v67, b0, b1p, b1i, b2, b3_0, b3_1 => by
    refine Eq.trans (b := impl_calc_eliminate_t14 n (fun v67 v4 v3 v66 b0 b1p b1i b2 => G9 (impl_calc_eliminates9 v67 v4 v3 v66 b0 b1p b1i b2)) (fun v14 v4 v12 v3 v66 v67 b0 b1p b1i b2 b3_0 b3_1 => iter (interp (impl_calc_eliminatecs n) typ 158 3 n impl_calc_eliminatekp (codeAt impl_calc_eliminatec [1, 1, 1, 1, 1, 1, 0, 1, 0, 0, 1, 1, 0, 0, 1, 1, 1, 0, 1, 0, 0])) (canon 3 (impl_calc_eliminatekp.loop 14)) (kAt (impl_calc_eliminatecs n) typ 158 3 n impl_calc_eliminatekp impl_calc_eliminatec [1, 1, 1, 1, 1, 1, 0, 1, 0, 0, 1, 1, 0, 0, 1, 1, 1, 0, 1, 0] [G9] (ending typ 3 Go.Proofs.Try.f65.results.toList impl_calc_eliminaters impl_calc_eliminatebs)) k (impl_calc_eliminates14 v14 v4 v12 v3 v66 v67 b0 b1p b1i b2 b3_0 b3_1)) v14 v4 v12 v3 v66 v67 b0 b1p b1i b2 b3_0 b3_1) (by kernel_rfl) ?_
    have e := congrArg (fun g => impl_calc_eliminate_t14 n (fun v67 v4 v3 v66 b0 b1p b1i b2 => G9 (impl_calc_eliminates9 v67 v4 v3 v66 b0 b1p b1i b2)) g v14 v4 v12 v3 v66 v67 b0 b1p b1i b2 b3_0 b3_1) (funext fun v14 => funext fun v4 => funext fun v12 => funext fun v3 => funext fun v66 => funext fun v67 => funext fun b0 => funext fun b1p => funext fun b1i => funext fun b2 => funext fun b3_0 => funext fun b3_1 => impl_calc_eliminate_l14_eq n G9 k v14 v4 v12 v3 v66 v67 b0 b1p b1i b2 b3_0 b3_1)
    exact e

theorem impl_calc_eliminate_l9_eq (n : Nat) : ∀ (k : Nat) (v67 : Int) (v4 : Int) (v3 : Int) (v66 : Int) (b0 : Bool) (b1p : List Nat) (b1i : List (List (Int × Int))) (b2 : List (Int × Int)), iter (interp (impl_calc_eliminatecs n) typ 158 3 n impl_calc_eliminatekp (codeAt impl_calc_eliminatec [1, 1, 1, 1, 1, 1, 0, 1, 0, 0])) (canon 3 (impl_calc_eliminatekp.loop 9)) (impl_calc_eliminatek0 n) k (impl_calc_eliminates9 v67 v4 v3 v66 b0 b1p b1i b2) = impl_calc_eliminate_l9 n k v67 v4 v3 v66 b0 b1p b1i b2
  | 0, _, _, _, _, _, _, _, _ => by kernel_rfl
  | k + 1, v67, v4, v3, v66, b0, b1p, b1i, b2 => by
    refine Eq.trans (b := impl_calc_eliminate_t9 n (fun k' v14 v4 v12 v3 v66 v67 b0 b1p b1i b2 b3_0 b3_1 => iter (interp (impl_calc_eliminatecs n) typ 158 3 n impl_calc_eliminatekp (codeAt impl_calc_eliminatec [1, 1, 1, 1, 1, 1, 0, 1, 0, 0, 1, 1, 0, 0, 1, 1, 1, 0, 1, 0, 0])) (canon 3 (impl_calc_eliminatekp.loop 14)) (kAt (impl_calc_eliminatecs n) typ 158 3 n impl_calc_eliminatekp impl_calc_eliminatec [1, 1, 1, 1, 1, 1, 0, 1, 0, 0, 1, 1, 0, 0, 1, 1, 1, 0, 1, 0] [(fun s => iter (interp (impl_calc_eliminatecs n) typ 158 3 n impl_calc_eliminatekp (codeAt impl_calc_eliminatec [1, 1, 1, 1, 1, 1, 0, 1, 0, 0])) (canon 3 (impl_calc_eliminatekp.loop 9)) (impl_calc_eliminatek0 n) k s)] (ending typ 3 Go.Proofs.Try.f65.results.toList impl_calc_eliminaters impl_calc_eliminatebs)) k' (impl_calc_eliminates14 v14 v4 v12 v3 v66 v67 b0 b1p b1i b2 b3_0 b3_1)) (fun v67 v4 v3 v66 b0 b1p b1i b2 => iter (interp (impl_calc_eliminatecs n) typ 158 3 n impl_calc_eliminatekp (codeAt impl_calc_eliminatec [1, 1, 1, 1, 1, 1, 0, 1, 0, 0])) (canon 3 (impl_calc_eliminatekp.loop 9)) (impl_calc_eliminatek0 n) k (impl_calc_eliminates9 v67 v4 v3 v66 b0 b1p b1i b2)) v67 v4 v3 v66 b0 b1p b1i b2) (by kernel_rfl) ?_
    have e := congr (congrArg (fun h14 g => impl_calc_eliminate_t9 n h14 g v67 v4 v3 v66 b0 b1p b1i b2) ((funext fun k' => funext fun v14 => funext fun v4 => funext fun v12 => funext fun v3 => funext fun v66 => funext fun v67 => funext fun b0 => funext fun b1p => funext fun b1i => funext fun b2 => funext fun b3_0 => funext fun b3_1 => impl_calc_eliminate_l14_eq n (fun s => iter (interp (impl_calc_eliminatecs n) typ 158 3 n impl_calc_eliminatekp (codeAt impl_calc_eliminatec [1, 1, 1, 1, 1, 1, 0, 1, 0, 0])) (canon 3 (impl_calc_eliminatekp.loop 9)) (impl_calc_eliminatek0 n) k s) k' v14 v4 v12 v3 v66 v67 b0 b1p b1i b2 b3_0 b3_1).trans (congrArg (fun z => impl_calc_eliminate_l14 n z) (funext fun v67 => funext fun v4 => funext fun v3 => funext fun v66 => funext fun b0 => funext fun b1p => funext fun b1i => funext fun b2 => impl_calc_eliminate_l9_eq n k v67 v4 v3 v66 b0 b1p b1i b2)))) (funext fun v67 => funext fun v4 => funext fun v3 => funext fun v66 => funext fun b0 => funext fun b1p => funext fun b1i => funext fun b2 => impl_calc_eliminate_l9_eq n k v67 v4 v3 v66 b0 b1p b1i b2)
    exact e

theorem impl_calc_eliminate_l2_eq (n : Nat) : ∀ (k : Nat) (v11 : Int) (v4 : Int) (v3 : Int) (b0 : Bool) (b1p : List Nat) (b1i : List (List (Int × Int))) (b2 : List (Int × Int)), iter (interp (impl_calc_eliminatecs n) typ 158 3 n impl_calc_eliminatekp (codeAt impl_calc_eliminatec [1, 1, 0, 0, 0])) (canon 3 (impl_calc_eliminatekp.loop 2)) (impl_calc_eliminatek1 n) k (impl_calc_eliminates2 v11 v4 v3 b0 b1p b1i b2) = impl_calc_eliminate_l2 n k v11 v4 v3 b0 b1p b1i b2
  | 0, _, _, _, _, _, _, _ => by kernel_rfl
  | k + 1, v11, v4, v3, b0, b1p, b1i, b2 => by
    refine Eq.trans (b := impl_calc_eliminate_t2 n (fun k' v67 v4 v3 v66 b0 b1p b1i b2 => iter (interp (impl_calc_eliminatecs n) typ 158 3 n impl_calc_eliminatekp (codeAt impl_calc_eliminatec [1, 1, 1, 1, 1, 1, 0, 1, 0, 0])) (canon 3 (impl_calc_eliminatekp.loop 9)) (impl_calc_eliminatek0 n) k' (impl_calc_eliminates9 v67 v4 v3 v66 b0 b1p b1i b2)) (fun v11 v4 v3 b0 b1p b1i b2 => iter (interp (impl_calc_eliminatecs n) typ 158 3 n impl_calc_eliminatekp (codeAt impl_calc_eliminatec [1, 1, 0, 0, 0])) (canon 3 (impl_calc_eliminatekp.loop 2)) (impl_calc_eliminatek1 n) k (impl_calc_eliminates2 v11 v4 v3 b0 b1p b1i b2)) v11 v4 v3 b0 b1p b1i b2) (by kernel_rfl) ?_
    have e := congr (congrArg (fun h9 g => impl_calc_eliminate_t2 n h9 g v11 v4 v3 b0 b1p b1i b2) (funext fun k' => funext fun v67 => funext fun v4 => funext fun v3 => funext fun v66 => funext fun b0 => funext fun b1p => funext fun b1i => funext fun b2 => impl_calc_eliminate_l9_eq n k' v67 v4 v3 v66 b0 b1p b1i b2)) (funext fun v11 => funext fun v4 => funext fun v3 => funext fun b0 => funext fun b1p => funext fun b1i => funext fun b2 => impl_calc_eliminate_l2_eq n k v11 v4 v3 b0 b1p b1i b2)
    exact e

theorem impl_calc_eliminate_eq (n : Nat) (a3 : Int) (a4 : Int) (b0 : Bool) (b1 : (List Nat) × (List (List (Int × Int)))) (b2 : List (Int × Int)) : runBody (impl_calc_eliminatecs n) typ 158 n impl_calc_eliminatekp impl_calc_eliminatec Go.Proofs.Try.f65.results.toList impl_calc_eliminaters impl_calc_eliminatesp impl_calc_eliminatebs ((), ((), ((), (a3, (a4, ()))))) (b0, (b1, (b2, ()))) = impl_calc_eliminate n a3 a4 b0 b1 b2 := by
  refine Eq.trans (b := impl_calc_eliminate_t n (fun k v11 v4 v3 b0 b1p b1i b2 => iter (interp (impl_calc_eliminatecs n) typ 158 3 n impl_calc_eliminatekp (codeAt impl_calc_eliminatec [1, 1, 0, 0, 0])) (canon 3 (impl_calc_eliminatekp.loop 2)) (impl_calc_eliminatek1 n) k (impl_calc_eliminates2 v11 v4 v3 b0 b1p b1i b2)) a3 a4 b0 b1 b2) (by kernel_rfl) ?_
  have e := congrArg (fun h2 => impl_calc_eliminate_t n h2 a3 a4 b0 b1 b2) (funext fun k => funext fun v11 => funext fun v4 => funext fun v3 => funext fun b0 => funext fun b1p => funext fun b1i => funext fun b2 => impl_calc_eliminate_l2_eq n k v11 v4 v3 b0 b1p b1i b2)
  exact e

theorem impl_calc_eliminate_ok (n : Nat) : FunOk P (impl_calc_eliminateF n) :=
  funOk_mkP (C := [impl_calc_divF n, impl_calc_mulF n, impl_calc_subF n]) (N := 158) (kp := impl_calc_eliminatekp) (c := impl_calc_eliminatec) (n := n) (G := fun x y => impl_calc_eliminate n x.2.2.2.1 x.2.2.2.2.1 y.1 y.2.1 y.2.2.1) follows (AllOk.mem (⟨impl_calc_div_ok n, ⟨impl_calc_mul_ok n, ⟨impl_calc_sub_ok n, trivial⟩⟩⟩ : AllOk P ([impl_calc_divF n, impl_calc_mulF n, impl_calc_subF n]))) (by kernel_rfl : P.funcs[65]? = some Go.Proofs.Try.f65) (by kernel_rfl) (by kernel_rfl) (by kernel_rfl)
    (fun x y => impl_calc_eliminate_eq n x.2.2.2.1 x.2.2.2.2.1 y.1 y.2.1 y.2.2.1) (fun _ _ => map_same (fun _ => rfl) _) (fun _ _ _ _ => rfl)

abbrev slices_Clone_impl_Frac_impl_Fracsp : List Sp := [.v false (.list tF)]
abbrev slices_Clone_impl_Frac_impl_Fracbs : List (Bs × Bool) := []
abbrev slices_Clone_impl_Frac_impl_Fracrs : List (Bool × List Rp) := [(false, [.new  tF])]
noncomputable def slices_Clone_impl_Frac_impl_Frackp : Keep := { loop := fun id => match id with | _ => ([], []), join := fun id => match id with | _ => none }
noncomputable def slices_Clone_impl_Frac_impl_Fracc : Code := bodyOf Go.Proofs.Try.f64
noncomputable def slices_Clone_impl_Frac_impl_FracF (n : Nat) : Fun := { id := 64, sp := slices_Clone_impl_Frac_impl_Fracsp, bs := slices_Clone_impl_Frac_impl_Fracbs, rs := slices_Clone_impl_Frac_impl_Fracrs, f := fun x y => slices_Clone_impl_Frac_impl_Frac n x.1 }

theorem slices_Clone_impl_Frac_impl_Frac_eq (n : Nat) (a0 : List (Int × Int)) : runBody ([]) ty 8 n slices_Clone_impl_Frac_impl_Frackp slices_Clone_impl_Frac_impl_Fracc Go.Proofs.Try.f64.results.toList slices_Clone_impl_Frac_impl_Fracrs slices_Clone_impl_Frac_impl_Fracsp slices_Clone_impl_Frac_impl_Fracbs (a0, ()) () = slices_Clone_impl_Frac_impl_Frac n a0 := by
  refine Eq.trans (b := slices_Clone_impl_Frac_impl_Frac_t n a0) (by kernel_rfl) ?_
  rfl

theorem slices_Clone_impl_Frac_impl_Frac_ok (n : Nat) : FunOk P (slices_Clone_impl_Frac_impl_FracF n) :=
  funOk_mk (C := []) (N := 8) (kp := slices_Clone_impl_Frac_impl_Frackp) (c := slices_Clone_impl_Frac_impl_Fracc) (n := n) (G := fun x y => slices_Clone_impl_Frac_impl_Frac n x.1) follows (AllOk.mem (trivial : AllOk P ([]))) (by kernel_rfl : P.funcs[64]? = some Go.Proofs.Try.f64) (by kernel_rfl) (by kernel_rfl) (by kernel_rfl)
    (fun x y => slices_Clone_impl_Frac_impl_Frac_eq n x.1) (fun _ _ => map_same (fun _ => rfl) _) (fun _ _ _ _ => rfl)

abbrev impl_copyRowssp : List Sp := [.v false (.list (.list tF))]
abbrev impl_copyRowsbs : List (Bs × Bool) := []
abbrev impl_copyRowsrs : List (Bool × List Rp) := [(false, [.newp  tF])]
noncomputable def impl_copyRowskp : Keep := { loop := fun id => match id with | 3 => ([9, 3, 7, 8], []) | _ => ([], []), join := fun id => match id with | _ => none }
noncomputable def impl_copyRowsc : Code := bodyOf Go.Proofs.Try.f60
noncomputable def impl_copyRowsF (n : Nat) : Fun := { id := 60, sp := impl_copyRowssp, bs := impl_copyRowsbs, rs := impl_copyRowsrs, f := fun x y => impl_copyRows n x.1 }

noncomputable abbrev impl_copyRowscs (n : Nat) : List Fun := [slices_Clone_impl_Frac_impl_FracF n]
abbrev impl_copyRowss3 (v9 : Int) (v7 : List (List (Int × Int))) (v8 : Int) (b0p : List Nat) (b0i : List (List (Int × Int))) : St := { env := [(9, .one (.sc (.int .i64 v9))), (3, .one (.slice 0 0 none)), (7, .one (.list true (.list tF) v7)), (8, .one (.sc (.int .i64 v8)))], bx := [(0, .pool 0 tF b0p b0i)], nx := 1 }
noncomputable abbrev impl_copyRowsk0 (n : Nat) := kAt (impl_copyRowscs n) typ 20 0 n impl_copyRowskp impl_copyRowsc [1, 1, 0, 1, 0] [] (ending typ 0 Go.Proofs.Try.f60.results.toList impl_copyRowsrs impl_copyRowsbs)
theorem impl_copyRows_l3_eq (n : Nat) : ∀ (k : Nat) (v9 : Int) (v7 : List (List (Int × Int))) (v8 : Int) (b0p : List Nat) (b0i : List (List (Int × Int))), iter (interp (impl_copyRowscs n) typ 20 0 n impl_copyRowskp (codeAt impl_copyRowsc [1, 1, 0, 1, 0, 0])) (canon 0 (impl_copyRowskp.loop 3)) (impl_copyRowsk0 n) k (impl_copyRowss3 v9 v7 v8 b0p b0i) = impl_copyRows_l3 n k v9 v7 v8 b0p b0i
  | 0, _, _, _, _, _ => by kernel_rfl
  | k + 1, v9, v7, v8, b0p, b0i => by
    refine Eq.trans (b := impl_copyRows_t3 n (fun v9 v7 v8 b0p b0i => iter (interp (impl_copyRowscs n) typ 20 0 n impl_copyRowskp (codeAt impl_copyRowsc [1, 1, 0, 1, 0, 0])) (canon 0 (impl_copyRowskp.loop 3)) (impl_copyRowsk0 n) k (impl_copyRowss3 v9 v7 v8 b0p b0i)) v9 v7 v8 b0p b0i) (by kernel_rfl) ?_
    have e := congrArg (fun g => impl_copyRows_t3 n g v9 v7 v8 b0p b0i) (funext fun v9 => funext fun v7 => funext fun v8 => funext fun b0p => funext fun b0i => impl_copyRows_l3_eq n k v9 v7 v8 b0p b0i)
    exact e

theorem impl_copyRows_eq (n : Nat) (a0 : List (List (Int × Int))) : runBody (impl_copyRowscs n) typ 20 n impl_copyRowskp impl_copyRowsc Go.Proofs.Try.f60.results.toList impl_copyRowsrs impl_copyRowssp impl_copyRowsbs (a0, ()) () = impl_copyRows n a0 := by
  refine Eq.trans (b := impl_copyRows_t n (fun k v9 v7 v8 b0p b0i => iter (interp (impl_copyRowscs n) typ 20 0 n impl_copyRowskp (codeAt impl_copyRowsc [1, 1, 0, 1, 0, 0])) (canon 0 (impl_copyRowskp.loop 3)) (impl_copyRowsk0 n) k (impl_copyRowss3 v9 v7 v8 b0p b0i)) a0) (by kernel_rfl) ?_
  have e := congrArg (fun h3 => impl_copyRows_t n h3 a0) (funext fun k => funext fun v9 => funext fun v7 => funext fun v8 => funext fun b0p => funext fun b0i => impl_copyRows_l3_eq n k v9 v7 v8 b0p b0i)
  exact e

theorem impl_copyRows_ok (n : Nat) : FunOk P (impl_copyRowsF n) :=
  funOk_mkP (C := [slices_Clone_impl_Frac_impl_FracF n]) (N := 20) (kp := impl_copyRowskp) (c := impl_copyRowsc) (n := n) (G := fun x y => impl_copyRows n x.1) follows (AllOk.mem (⟨slices_Clone_impl_Frac_impl_Frac_ok n, trivial⟩ : AllOk P ([slices_Clone_impl_Frac_impl_FracF n]))) (by kernel_rfl : P.funcs[60]? = some Go.Proofs.Try.f60) (by kernel_rfl) (by kernel_rfl) (by kernel_rfl)
    (fun x y => impl_copyRows_eq n x.1) (fun _ _ => map_same (fun _ => rfl) _) (fun _ _ _ _ => rfl)

abbrev impl_SolveFracs_1sp : List Sp := [.v false (.list tF), .ref 0]
abbrev impl_SolveFracs_1bs : List (Bs × Bool) := [(.var 3 (.int .i64), true)]
abbrev impl_SolveFracs_1rs : List (Bool × List Rp) := [(false, [.v false .bool])]
noncomputable def impl_SolveFracs_1kp : Keep := { loop := fun id => match id with | _ => ([], []), join := fun id => match id with | _ => none }
noncomputable def impl_SolveFracs_1c : Code := bodyOf Go.Proofs.Try.f63
noncomputable def impl_SolveFracs_1F (n : Nat) : Fun := { id := 63, sp := impl_SolveFracs_1sp, bs := impl_SolveFracs_1bs, rs := impl_SolveFracs_1rs, f := fun x y => impl_SolveFracs_1 n x.1 y.1 }

theorem impl_SolveFracs_1_eq (n : Nat) (a0 : List (Int × Int)) (b0 : Int) : runBody ([]) typ 8 n impl_SolveFracs_1kp impl_SolveFracs_1c Go.Proofs.Try.f63.results.toList impl_SolveFracs_1rs impl_SolveFracs_1sp impl_SolveFracs_1bs (a0, ((), ())) (b0, ()) = impl_SolveFracs_1 n a0 b0 := by
  refine Eq.trans (b := impl_SolveFracs_1_t n a0 b0) (by kernel_rfl) ?_
  rfl

theorem impl_SolveFracs_1_ok (n : Nat) : FunOk P (impl_SolveFracs_1F n) :=
  funOk_mkP (C := []) (N := 8) (kp := impl_SolveFracs_1kp) (c := impl_SolveFracs_1c) (n := n) (G := fun x y => impl_SolveFracs_1 n x.1 y.1) follows (AllOk.mem (trivial : AllOk P ([]))) (by kernel_rfl : P.funcs[63]? = some Go.Proofs.Try.f63) (by kernel_rfl) (by kernel_rfl) (by kernel_rfl)
    (fun x y => impl_SolveFracs_1_eq n x.1 y.1) (fun _ _ => map_same (fun _ => rfl) _) (fun _ _ _ _ => rfl)

abbrev slices_IndexFunc_impl_Frac_impl_Frac_at_impl_SolveFracs_1sp : List Sp := [.v false (.list (.list tF)), .cl 63 [0]]
abbrev slices_IndexFunc_impl_Frac_impl_Frac_at_impl_SolveFracs_1bs : List (Bs × Bool) := [(.var 3 (.int .i64), true)]
abbrev slices_IndexFunc_impl_Frac_impl_Frac_at_impl_SolveFracs_1rs : List (Bool × List Rp) := [(false, [.v false (.int .i64)])]
noncomputable def slices_IndexFunc_impl_Frac_impl_Frac_at_impl_SolveFracs_1kp : Keep := { loop := fun id => match id with | 2 => ([8, 0, 1, 7], []) | _ => ([], []), join := fun id => match id with | _ => none }
noncomputable def slices_IndexFunc_impl_Frac_impl_Frac_at_impl_SolveFracs_1c : Code := bodyOf Go.Proofs.Try.f123
noncomputable def slices_IndexFunc_impl_Frac_impl_Frac_at_impl_SolveFracs_1F (n : Nat) : Fun := { id := 123, sp := slices_IndexFunc_impl_Frac_impl_Frac_at_impl_SolveFracs_1sp, bs := slices_IndexFunc_impl_Frac_impl_Frac_at_impl_SolveFracs_1bs, rs := slices_IndexFunc_impl_Frac_impl_Frac_at_impl_SolveFracs_1rs, f := fun x y => slices_IndexFunc_impl_Frac_impl_Frac_at_impl_SolveFracs_1 n x.1 y.1 }

abbrev slices_IndexFunc_impl_Frac_impl_Frac_at_impl_SolveFracs_1s2 (v8 : Int) (v0 : List (List (Int × Int))) (v7 : Int) (b0 : Int) : St := { env := [(8, .one (.sc (.int .i64 v8))), (0, .one (.list true (.list tF) v0)), (1, .one (.clos 63 (0 :: []))), (7, .one (.sc (.int .i64 v7)))], bx := [(0, .var 3 [.sc (.int .i64 b0)])], nx := 1 }
noncomputable abbrev slices_IndexFunc_impl_Frac_impl_Frac_at_impl_SolveFracs_1k0 (n : Nat) := kAt ([impl_SolveFracs_1F n]) ty 19 1 n slices_IndexFunc_impl_Frac_impl_Frac_at_impl_SolveFracs_1kp slices_IndexFunc_impl_Frac_impl_Frac_at_impl_SolveFracs_1c [1, 0, 1, 0] [] (ending ty 1 Go.Proofs.Try.f123.results.toList slices_IndexFunc_impl_Frac_impl_Frac_at_impl_SolveFracs_1rs slices_IndexFunc_impl_Frac_impl_Frac_at_impl_SolveFracs_1bs)
theorem slices_IndexFunc_impl_Frac_impl_Frac_at_impl_SolveFracs_1_l2_eq (n : Nat) : ∀ (k : Nat) (v8 : Int) (v0 : List (List (Int × Int))) (v7 : Int) (b0 : Int), iter (interp ([impl_SolveFracs_1F n]) ty 19 1 n slices_IndexFunc_impl_Frac_impl_Frac_at_impl_SolveFracs_1kp (codeAt slices_IndexFunc_impl_Frac_impl_Frac_at_impl_SolveFracs_1c [1, 0, 1, 0, 0])) (canon 1 (slices_IndexFunc_impl_Frac_impl_Frac_at_impl_SolveFracs_1kp.loop 2)) (slices_IndexFunc_impl_Frac_impl_Frac_at_impl_SolveFracs_1k0 n) k (slices_IndexFunc_impl_Frac_impl_Frac_at_impl_SolveFracs_1s2 v8 v0 v7 b0) = slices_IndexFunc_impl_Frac_impl_Frac_at_impl_SolveFracs_1_l2 n k v8 v0 v7 b0
  | 0, _, _, _, _ => by kernel_rfl
  | k + 1, v8, v0, v7, b0 => by
    refine Eq.trans (b := slices_IndexFunc_impl_Frac_impl_Frac_at_impl_SolveFracs_1_t2 n (fun v8 v0 v7 b0 => iter (interp ([impl_SolveFracs_1F n]) ty 19 1 n slices_IndexFunc_impl_Frac_impl_Frac_at_impl_SolveFracs_1kp (codeAt slices_IndexFunc_impl_Frac_impl_Frac_at_impl_SolveFracs_1c [1, 0, 1, 0, 0])) (canon 1 (slices_IndexFunc_impl_Frac_impl_Frac_at_impl_SolveFracs_1kp.loop 2)) (slices_IndexFunc_impl_Frac_impl_Frac_at_impl_SolveFracs_1k0 n) k (slices_IndexFunc_impl_Frac_impl_Frac_at_impl_SolveFracs_1s2 v8 v0 v7 b0)) v8 v0 v7 b0) (by kernel_rfl) ?_
    have e := congrArg (fun g => slices_IndexFunc_impl_Frac_impl_Frac_at_impl_SolveFracs_1_t2 n g v8 v0 v7 b0) (funext fun v8 => funext fun v0 => funext fun v7 => funext fun b0 => slices_IndexFunc_impl_Frac_impl_Frac_at_impl_SolveFracs_1_l2_eq n k v8 v0 v7 b0)
    exact e

theorem slices_IndexFunc_impl_Frac_impl_Frac_at_impl_SolveFracs_1_eq (n : Nat) (a0 : List (List (Int × Int))) (b0 : Int) : runBody ([impl_SolveFracs_1F n]) ty 19 n slices_IndexFunc_impl_Frac_impl_Frac_at_impl_SolveFracs_1kp slices_IndexFunc_impl_Frac_impl_Frac_at_impl_SolveFracs_1c Go.Proofs.Try.f123.results.toList slices_IndexFunc_impl_Frac_impl_Frac_at_impl_SolveFracs_1rs slices_IndexFunc_impl_Frac_impl_Frac_at_impl_SolveFracs_1sp slices_IndexFunc_impl_Frac_impl_Frac_at_impl_SolveFracs_1bs (a0, ((), ())) (b0, ()) = slices_IndexFunc_impl_Frac_impl_Frac_at_impl_SolveFracs_1 n a0 b0 := by
  refine Eq.trans (b := slices_IndexFunc_impl_Frac_impl_Frac_at_impl_SolveFracs_1_t n (fun k v8 v0 v7 b0 => iter (interp ([impl_SolveFracs_1F n]) ty 19 1 n slices_IndexFunc_impl_Frac_impl_Frac_at_impl_SolveFracs_1kp (codeAt slices_IndexFunc_impl_Frac_impl_Frac_at_impl_SolveFracs_1c [1, 0, 1, 0, 0])) (canon 1 (slices_IndexFunc_impl_Frac_impl_Frac_at_impl_SolveFracs_1kp.loop 2)) (slices_IndexFunc_impl_Frac_impl_Frac_at_impl_SolveFracs_1k0 n) k (slices_IndexFunc_impl_Frac_impl_Frac_at_impl_SolveFracs_1s2 v8 v0 v7 b0)) a0 b0) (by kernel_rfl) ?_
  have e := congrArg (fun h2 => slices_IndexFunc_impl_Frac_impl_Frac_at_impl_SolveFracs_1_t n h2 a0 b0) (funext fun k => funext fun v8 => funext fun v0 => funext fun v7 => funext fun b0 => slices_IndexFunc_impl_Frac_impl_Frac_at_impl_SolveFracs_1_l2_eq n k v8 v0 v7 b0)
  exact e

theorem slices_IndexFunc_impl_Frac_impl_Frac_at_impl_SolveFracs_1_ok (n : Nat) : FunOk P (slices_IndexFunc_impl_Frac_impl_Frac_at_impl_SolveFracs_1F n) :=
  funOk_mk (C := [impl_SolveFracs_1F n]) (N := 19) (kp := slices_IndexFunc_impl_Frac_impl_Frac_at_impl_SolveFracs_1kp) (c := slices_IndexFunc_impl_Frac_impl_Frac_at_impl_SolveFracs_1c) (n := n) (G := fun x y => slices_IndexFunc_impl_Frac_impl_Frac_at_impl_SolveFracs_1 n x.1 y.1) follows (AllOk.mem (⟨impl_SolveFracs_1_ok n, trivial⟩ : AllOk P ([impl_SolveFracs_1F n]))) (by kernel_rfl : P.funcs[123]? = some Go.Proofs.Try.f123) (by kernel_rfl) (by kernel_rfl) (by kernel_rfl)
    (fun x y => slices_IndexFunc_impl_Frac_impl_Frac_at_impl_SolveFracs_1_eq n x.1 y.1) (fun _ _ => map_same (fun _ => rfl) _) (fun _ _ _ _ => rfl)

abbrev slices_ContainsFunc_impl_Frac_impl_Frac_at_impl_SolveFracs_1sp : List Sp := [.v false (.list (.list tF)), .cl 63 [0]]
abbrev slices_ContainsFunc_impl_Frac_impl_Frac_at_impl_SolveFracs_1bs : List (Bs × Bool) := [(.var 3 (.int .i64), true)]
abbrev slices_ContainsFunc_impl_Frac_impl_Frac_at_impl_SolveFracs_1rs : List (Bool × List Rp) := [(false, [.v false .bool])]
noncomputable def slices_ContainsFunc_impl_Frac_impl_Frac_at_impl_SolveFracs_1kp : Keep := { loop := fun id => match id with | _ => ([], []), join := fun id => match id with | _ => none }
noncomputable def slices_ContainsFunc_impl_Frac_impl_Frac_at_impl_SolveFracs_1c : Code := bodyOf Go.Proofs.Try.f62
noncomputable def slices_ContainsFunc_impl_Frac_impl_Frac_at_impl_SolveFracs_1F (n : Nat) : Fun := { id := 62, sp := slices_ContainsFunc_impl_Frac_impl_Frac_at_impl_SolveFracs_1sp, bs := slices_ContainsFunc_impl_Frac_impl_Frac_at_impl_SolveFracs_1bs, rs := slices_ContainsFunc_impl_Frac_impl_Frac_at_impl_SolveFracs_1rs, f := fun x y => slices_ContainsFunc_impl_Frac_impl_Frac_at_impl_SolveFracs_1 n x.1 y.1 }

theorem slices_ContainsFunc_impl_Frac_impl_Frac_at_impl_SolveFracs_1_eq (n : Nat) (a0 : List (List (Int × Int))) (b0 : Int) : runBody ([slices_IndexFunc_impl_Frac_impl_Frac_at_impl_SolveFracs_1F n]) ty 9 n slices_ContainsFunc_impl_Frac_impl_Frac_at_impl_SolveFracs_1kp slices_ContainsFunc_impl_Frac_impl_Frac_at_impl_SolveFracs_1c Go.Proofs.Try.f62.results.toList slices_ContainsFunc_impl_Frac_impl_Frac_at_impl_SolveFracs_1rs slices_ContainsFunc_impl_Frac_impl_Frac_at_impl_SolveFracs_1sp slices_ContainsFunc_impl_Frac_impl_Frac_at_impl_SolveFracs_1bs (a0, ((), ())) (b0, ()) = slices_ContainsFunc_impl_Frac_impl_Frac_at_impl_SolveFracs_1 n a0 b0 := by
  refine Eq.trans (b := slices_ContainsFunc_impl_Frac_impl_Frac_at_impl_SolveFracs_1_t n a0 b0) (by kernel_rfl) ?_
  rfl

theorem slices_ContainsFunc_impl_Frac_impl_Frac_at_impl_SolveFracs_1_ok (n : Nat) : FunOk P (slices_ContainsFunc_impl_Frac_impl_Frac_at_impl_SolveFracs_1F n) :=
  funOk_mk (C := [slices_IndexFunc_impl_Frac_impl_Frac_at_impl_SolveFracs_1F n]) (N := 9) (kp := slices_ContainsFunc_impl_Frac_impl_Frac_at_impl_SolveFracs_1kp) (c := slices_ContainsFunc_impl_Frac_impl_Frac_at_impl_SolveFracs_1c) (n := n) (G := fun x y => slices_ContainsFunc_impl_Frac_impl_Frac_at_impl_SolveFracs_1 n x.1 y.1) follows (AllOk.mem (⟨slices_IndexFunc_impl_Frac_impl_Frac_at_impl_SolveFracs_1_ok n, trivial⟩ : AllOk P ([slices_IndexFunc_impl_Frac_impl_Frac_at_impl_SolveFracs_1F n]))) (by kernel_rfl : P.funcs[62]? = some Go.Proofs.Try.f62) (by kernel_rfl) (by kernel_rfl) (by kernel_rfl)
    (fun x y => slices_ContainsFunc_impl_Frac_impl_Frac_at_impl_SolveFracs_1_eq n x.1 y.1) (fun _ _ => map_same (fun _ => rfl) _) (fun _ _ _ _ => rfl)

abbrev impl_SolveFracssp : List Sp := [.v false (.list (.list tF)), .v false (.list tF)]
abbrev impl_SolveFracsbs : List (Bs × Bool) := []
abbrev impl_SolveFracsrs : List (Bool × List Rp) := [(false, [.new  tF]), (false, [.v false (.int .i64)])]
noncomputable def impl_SolveFracskp : Keep := { loop := fun id => match id with | 2 => ([20, 18, 1, 0, 19], []) | 12 => ([54, 9, 11, 10, 8, 53], []) | 20 => ([70, 10, 11, 9, 69], []) | _ => ([], []), join := fun id => match id with | _ => none }
noncomputable def impl_SolveFracsc : Code := bodyOf Go.Proofs.Try.f14
noncomputable def impl_SolveFracsF (n : Nat) : Fun := { id := 14, sp := impl_SolveFracssp, bs := impl_SolveFracsbs, rs := impl_SolveFracsrs, f := fun x y => impl_SolveFracs n x.1 x.2.1 }

noncomputable abbrev impl_SolveFracscs (n : Nat) : List Fun := [impl_copyRowsF n, impl_areValidF n, slices_ContainsFunc_impl_Frac_impl_Frac_at_impl_SolveFracs_1F n, slices_Clone_impl_Frac_impl_FracF n, impl_calc_eliminateF n, impl_calc_divF n]
abbrev impl_SolveFracss20 (v70 : Int) (v69 : Int) (b0p : List Nat) (b0i : List (List (Int × Int))) (b1 : List (Int × Int)) (b2 : Bool) : St := { env := [(70, .one (.sc (.int .i64 v70))), (10, .one (.slice 0 0 none)), (11, .one (.slice 1 0 none)), (9, .one (.ref 2 0 0 0 0 0)), (69, .one (.sc (.int .i64 v69)))], bx := [(0, .pool 0 tF b0p b0i), (1, .row 0 tF b1), (2, .var 89 [.sc (.bool b2)])], nx := 3 }
abbrev impl_SolveFracss12 (v54 : Int) (v53 : Int) (b0 : Bool) (b1 : List (Int × Int)) (b2p : List Nat) (b2i : List (List (Int × Int))) (b3 : Int) : St := { env := [(54, .one (.sc (.int .i64 v54))), (9, .one (.ref 0 0 0 0 0 0)), (11, .one (.slice 1 0 none)), (10, .one (.slice 2 0 none)), (8, .one (.ref 3 0 0 0 0 0)), (53, .one (.sc (.int .i64 v53)))], bx := [(0, .var 89 [.sc (.bool b0)]), (1, .row 0 tF b1), (2, .pool 0 tF b2p b2i), (3, .var 3 [.sc (.int .i64 b3)])], nx := 4 }
abbrev impl_SolveFracss2 (v20 : Int) (v18 : List (List (Int × Int))) (v1 : List (Int × Int)) (v0 : List (List (Int × Int))) (v19 : Int) : St := { env := [(20, .one (.sc (.int .i64 v20))), (18, .one (.list true (.list tF) v18)), (1, .one (.list true tF v1)), (0, .one (.list true (.list tF) v0)), (19, .one (.sc (.int .i64 v19)))], bx := [], nx := 0 }
noncomputable abbrev impl_SolveFracsk0 (n : Nat) := kAt (impl_SolveFracscs n) typ 95 0 n impl_SolveFracskp impl_SolveFracsc [1, 1, 1, 1, 1, 1, 0, 1, 0] [] (ending typ 0 Go.Proofs.Try.f14.results.toList impl_SolveFracsrs impl_SolveFracsbs)
noncomputable abbrev impl_SolveFracsk1 (n : Nat) := kAt (impl_SolveFracscs n) typ 95 0 n impl_SolveFracskp impl_SolveFracsc [1, 1, 1, 1, 1, 0, 1, 0] [] (ending typ 0 Go.Proofs.Try.f14.results.toList impl_SolveFracsrs impl_SolveFracsbs)
noncomputable abbrev impl_SolveFracsk2 (n : Nat) := kAt (impl_SolveFracscs n) typ 95 0 n impl_SolveFracskp impl_SolveFracsc [1, 0, 1, 0] [] (ending typ 0 Go.Proofs.Try.f14.results.toList impl_SolveFracsrs impl_SolveFracsbs)
theorem impl_SolveFracs_l20_eq (n : Nat) : ∀ (k : Nat) (v70 : Int) (v69 : Int) (b0p : List Nat) (b0i : List (List (Int × Int))) (b1 : List (Int × Int)) (b2 : Bool), iter (interp (impl_SolveFracscs n) typ 95 0 n impl_SolveFracskp (codeAt impl_SolveFracsc [1, 1, 1, 1, 1, 1, 0, 1, 0, 0])) (canon 0 (impl_SolveFracskp.loop 20)) (impl_SolveFracsk0 n) k (impl_SolveFracss20 v70 v69 b0p b0i b1 b2) = impl_SolveFracs_l20 n k v70 v69 b0p b0i b1 b2
  | 0, _, _, _, _, _, _ => by kernel_rfl
  | k + 1, v70, v69, b0p, b0i, b1, b2 => by
    refine Eq.trans (b := impl_SolveFracs_t20 n (fun v70 v69 b0p b0i b1 b2 => iter (interp (impl_SolveFracscs n) typ 95 0 n impl_SolveFracskp (codeAt impl_SolveFracsc [1, 1, 1, 1, 1, 1, 0, 1, 0, 0])) (canon 0 (impl_SolveFracskp.loop 20)) (impl_SolveFracsk0 n) k (impl_SolveFracss20 v70 v69 b0p b0i b1 b2)) v70 v69 b0p b0i b1 b2) (by kernel_rfl) ?_
    have e := congrArg (fun g => impl_SolveFracs_t20 n g v70 v69 b0p b0i b1 b2) (funext fun v70 => funext fun v69 => funext fun b0p => funext fun b0i => funext fun b1 => funext fun b2 => impl_SolveFracs_l20_eq n k v70 v69 b0p b0i b1 b2)
    exact e

theorem impl_SolveFracs_l12_eq (n : Nat) : ∀ (k : Nat) (v54 : Int) (v53 : Int) (b0 : Bool) (b1 : List (Int × Int)) (b2p : List Nat) (b2i : List (List (Int × Int))) (b3 : Int), iter (interp (impl_SolveFracscs n) typ 95 0 n impl_SolveFracskp (codeAt impl_SolveFracsc [1, 1, 1, 1, 1, 0, 1, 0, 0])) (canon 0 (impl_SolveFracskp.loop 12)) (impl_SolveFracsk1 n) k (impl_SolveFracss12 v54 v53 b0 b1 b2p b2i b3) = impl_SolveFracs_l12 n k v54 v53 b0 b1 b2p b2i b3
  | 0, _, _, _, _, _, _, _ => by kernel_rfl
  | k + 1, v54, v53, b0, b1, b2p, b2i, b3 => by
    refine Eq.trans (b := impl_SolveFracs_t12 n (fun k' v70 v69 b0p b0i b1 b2 => iter (interp (impl_SolveFracscs n) typ 95 0 n impl_SolveFracskp (codeAt impl_SolveFracsc [1, 1, 1, 1, 1, 1, 0, 1, 0, 0])) (canon 0 (impl_SolveFracskp.loop 20)) (impl_SolveFracsk0 n) k' (impl_SolveFracss20 v70 v69 b0p b0i b1 b2)) (fun v54 v53 b0 b1 b2p b2i b3 => iter (interp (impl_SolveFracscs n) typ 95 0 n impl_SolveFracskp (codeAt impl_SolveFracsc [1, 1, 1, 1, 1, 0, 1, 0, 0])) (canon 0 (impl_SolveFracskp.loop 12)) (impl_SolveFracsk1 n) k (impl_SolveFracss12 v54 v53 b0 b1 b2p b2i b3)) v54 v53 b0 b1 b2p b2i b3) (by kernel_rfl) ?_
    have e := congr (congrArg (fun h20 g => impl_SolveFracs_t12 n h20 g v54 v53 b0 b1 b2p b2i b3) (funext fun k' => funext fun v70 => funext fun v69 => funext fun b0p => funext fun b0i => funext fun b1 => funext fun b2 => impl_SolveFracs_l20_eq n k' v70 v69 b0p b0i b1 b2)) (funext fun v54 => funext fun v53 => funext fun b0 => funext fun b1 => funext fun b2p => funext fun b2i => funext fun b3 => impl_SolveFracs_l12_eq n k v54 v53 b0 b1 b2p b2i b3)
    exact e

theorem impl_SolveFracs_l2_eq (n : Nat) : ∀ (k : Nat) (v20 : Int) (v18 : List (List (Int × Int))) (v1 : List (Int × Int)) (v0 : List (List (Int × Int))) (v19 : Int), iter (interp (impl_SolveFracscs n) typ 95 0 n impl_SolveFracskp (codeAt impl_SolveFracsc [1, 0, 1, 0, 0])) (canon 0 (impl_SolveFracskp.loop 2)) (impl_SolveFracsk2 n) k (impl_SolveFracss2 v20 v18 v1 v0 v19) = impl_SolveFracs_l2 n k v20 v18 v1 v0 v19
  | 0, _, _, _, _, _ => by kernel_rfl
  | k + 1, v20, v18, v1, v0, v19 => by
    refine Eq.trans (b := impl_SolveFracs_t2 n (fun k' v54 v53 b0 b1 b2p b2i b3 => iter (interp (impl_SolveFracscs n) typ 95 0 n impl_SolveFracskp (codeAt impl_SolveFracsc [1, 1, 1, 1, 1, 0, 1, 0, 0])) (canon 0 (impl_SolveFracskp.loop 12)) (impl_SolveFracsk1 n) k' (impl_SolveFracss12 v54 v53 b0 b1 b2p b2i b3)) (fun v20 v18 v1 v0 v19 => iter (interp (impl_SolveFracscs n) typ 95 0 n impl_SolveFracskp (codeAt impl_SolveFracsc [1, 0, 1, 0, 0])) (canon 0 (impl_SolveFracskp.loop 2)) (impl_SolveFracsk2 n) k (impl_SolveFracss2 v20 v18 v1 v0 v19)) v20 v18 v1 v0 v19) (by kernel_rfl) ?_
    have e := congr (congrArg (fun h12 g => impl_SolveFracs_t2 n h12 g v20 v18 v1 v0 v19) (funext fun k' => funext fun v54 => funext fun v53 => funext fun b0 => funext fun b1 => funext fun b2p => funext fun b2i => funext fun b3 => impl_SolveFracs_l12_eq n k' v54 v53 b0 b1 b2p b2i b3)) (funext fun v20 => funext fun v18 => funext fun v1 => funext fun v0 => funext fun v19 => impl_SolveFracs_l2_eq n k v20 v18 v1 v0 v19)
    exact e

theorem impl_SolveFracs_eq (n : Nat) (a0 : List (List (Int × Int))) (a1 : List (Int × Int)) : runBody (impl_SolveFracscs n) typ 95 n impl_SolveFracskp impl_SolveFracsc Go.Proofs.Try.f14.results.toList impl_SolveFracsrs impl_SolveFracssp impl_SolveFracsbs (a0, (a1, ())) () = impl_SolveFracs n a0 a1 := by
  refine Eq.trans (b := impl_SolveFracs_t n (fun k v20 v18 v1 v0 v19 => iter (interp (impl_SolveFracscs n) typ 95 0 n impl_SolveFracskp (codeAt impl_SolveFracsc [1, 0, 1, 0, 0])) (canon 0 (impl_SolveFracskp.loop 2)) (impl_SolveFracsk2 n) k (impl_SolveFracss2 v20 v18 v1 v0 v19)) a0 a1) (by kernel_rfl) ?_
  have e := congrArg (fun h2 => impl_SolveFracs_t n h2 a0 a1) (funext fun k => funext fun v20 => funext fun v18 => funext fun v1 => funext fun v0 => funext fun v19 => impl_SolveFracs_l2_eq n k v20 v18 v1 v0 v19)
  exact e

theorem impl_SolveFracs_ok (n : Nat) : FunOk P (impl_SolveFracsF n) :=
  funOk_mkP (C := [impl_copyRowsF n, impl_areValidF n, slices_ContainsFunc_impl_Frac_impl_Frac_at_impl_SolveFracs_1F n, slices_Clone_impl_Frac_impl_FracF n, impl_calc_eliminateF n, impl_calc_divF n]) (N := 95) (kp := impl_SolveFracskp) (c := impl_SolveFracsc) (n := n) (G := fun x y => impl_SolveFracs n x.1 x.2.1) follows (AllOk.mem (⟨impl_copyRows_ok n, ⟨impl_areValid_ok n, ⟨slices_ContainsFunc_impl_Frac_impl_Frac_at_impl_SolveFracs_1_ok n, ⟨slices_Clone_impl_Frac_impl_Frac_ok n, ⟨impl_calc_eliminate_ok n, ⟨impl_calc_div_ok n, trivial⟩⟩⟩⟩⟩⟩ : AllOk P ([impl_copyRowsF n, impl_areValidF n, slices_ContainsFunc_impl_Frac_impl_Frac_at_impl_SolveFracs_1F n, slices_Clone_impl_Frac_impl_FracF n, impl_calc_eliminateF n, impl_calc_divF n]))) (by kernel_rfl : P.funcs[14]? = some Go.Proofs.Try.f14) (by kernel_rfl) (by kernel_rfl) (by kernel_rfl)
    (fun x y => impl_SolveFracs_eq n x.1 x.2.1) (fun _ _ => map_same (fun _ => rfl) _) (fun _ _ _ _ => rfl)

abbrev impl_CorrectionsOfsp : List Sp := [.v true (.pair (.int .i64) (.pair (.list tO) (.pair .bool tF)))]
abbrev impl_CorrectionsOfbs : List (Bs × Bool) := []
abbrev impl_CorrectionsOfrs : List (Bool × List Rp) := [(false, [.new  tF]), (false, [.v false (.int .i64)])]
noncomputable def impl_CorrectionsOfkp : Keep := { loop := fun id => match id with | _ => ([], []), join := fun id => match id with | _ => none }
noncomputable def impl_CorrectionsOfc : Code := bodyOf Go.Proofs.Try.f35
noncomputable def impl_CorrectionsOfF (n : Nat) : Fun := { id := 35, sp := impl_CorrectionsOfsp, bs := impl_CorrectionsOfbs, rs := impl_CorrectionsOfrs, f := fun x y => impl_CorrectionsOf n x.1 }

theorem impl_CorrectionsOf_eq (n : Nat) (a0 : (Int) × ((List OB9) × ((Bool) × (Int × Int)))) : runBody ([impl_NormalOfF n, impl_SolveFracsF n, slices_Clone_impl_Frac_impl_FracF n]) typ 31 n impl_CorrectionsOfkp impl_CorrectionsOfc Go.Proofs.Try.f35.results.toList impl_CorrectionsOfrs impl_CorrectionsOfsp impl_CorrectionsOfbs (a0, ()) () = impl_CorrectionsOf n a0 := by
  refine Eq.trans (b := impl_CorrectionsOf_t n a0) (by kernel_rfl) ?_
  rfl

theorem impl_CorrectionsOf_ok (n : Nat) : FunOk P (impl_CorrectionsOfF n) :=
  funOk_mkP (C := [impl_NormalOfF n, impl_SolveFracsF n, slices_Clone_impl_Frac_impl_FracF n]) (N := 31) (kp := impl_CorrectionsOfkp) (c := impl_CorrectionsOfc) (n := n) (G := fun x y => impl_CorrectionsOf n x.1) follows (AllOk.mem (⟨impl_NormalOf_ok n, ⟨impl_SolveFracs_ok n, ⟨slices_Clone_impl_Frac_impl_Frac_ok n, trivial⟩⟩⟩ : AllOk P ([impl_NormalOfF n, impl_SolveFracsF n, slices_Clone_impl_Frac_impl_FracF n]))) (by kernel_rfl : P.funcs[35]? = some Go.Proofs.Try.f35) (by kernel_rfl) (by kernel_rfl) (by kernel_rfl)
    (fun x y => impl_CorrectionsOf_eq n x.1) (fun _ _ => map_same (fun _ => rfl) _) (fun _ _ _ _ => rfl)

abbrev impl_pairObssp : List Sp := [.v false (.int .i64), .v false (.int .i64), .v true tF]
abbrev impl_pairObsbs : List (Bs × Bool) := []
abbrev impl_pairObsrs : List (Bool × List Rp) := [(true, [.v false tO])]
noncomputable def impl_pairObskp : Keep := { loop := fun id => match id with | _ => ([], []), join := fun id => match id with | _ => none }
noncomputable def impl_pairObsc : Code := bodyOf Go.Proofs.Try.f102
noncomputable def impl_pairObsF (n : Nat) : Fun := { id := 102, sp := impl_pairObssp, bs := impl_pairObsbs, rs := impl_pairObsrs, f := fun x y => impl_pairObs n x.1 x.2.1 x.2.2.1 }

theorem impl_pairObs_eq (n : Nat) (a0 : Int) (a1 : Int) (a2 : (Int) × (Int)) : runBody ([]) ty 17 n impl_pairObskp impl_pairObsc Go.Proofs.Try.f102.results.toList impl_pairObsrs impl_pairObssp impl_pairObsbs (a0, (a1, (a2, ()))) () = impl_pairObs n a0 a1 a2 := by
  refine Eq.trans (b := impl_pairObs_t n a0 a1 a2) (by kernel_rfl) ?_
  rfl

theorem impl_pairObs_ok (n : Nat) : FunOk P (impl_pairObsF n) :=
  funOk_mk (C := []) (N := 17) (kp := impl_pairObskp) (c := impl_pairObsc) (n := n) (G := fun x y => impl_pairObs n x.1 x.2.1 x.2.2.1) follows (AllOk.mem (trivial : AllOk P ([]))) (by kernel_rfl : P.funcs[102]? = some Go.Proofs.Try.f102) (by kernel_rfl) (by kernel_rfl) (by kernel_rfl)
    (fun x y => impl_pairObs_eq n x.1 x.2.1 x.2.2.1) (fun _ _ => map_same (fun _ => rfl) _) (fun _ _ _ _ => rfl)

abbrev impl_RingTablesp : List Sp := [.v false (.list tF), .v true tF]
abbrev impl_RingTablebs : List (Bs × Bool) := []
abbrev impl_RingTablers : List (Bool × List Rp) := [(true, [.v false (.int .i64), .new tO, .v false (.pair .bool tF)]), (false, [.v false (.int .i64)])]
noncomputable def impl_RingTablekp : Keep := { loop := fun id => match id with | 8 => ([35, 7, 6, 33, 4, 34], [.box 0 1 tO]) | _ => ([], []), join := fun id => match id with | _ => none }
noncomputable def impl_RingTablec : Code := bodyOf Go.Proofs.Try.f33
noncomputable def impl_RingTableF (n : Nat) : Fun := { id := 33, sp := impl_RingTablesp, bs := impl_RingTablebs, rs := impl_RingTablers, f := fun x y => impl_RingTable n x.1 x.2.1 }

noncomputable abbrev impl_RingTablecs (n : Nat) : List Fun := [impl_areValidF n, impl_ValidFracF n, impl_pairObsF n]
abbrev impl_RingTables8 (v35 : Int) (v6 : Int) (v33 : List (Int × Int)) (v34 : Int) (b0_0 : Int) (b0_2 : Bool) (b0_3 : Int) (b0_4 : Int) (b1_0 : Int) (b1_2 : Bool) (b1_3 : Int) (b1_4 : Int) (b2 : List OB9) : St := { env := [(35, .one (.sc (.int .i64 v35))), (7, .one (.ref 0 0 0 0 0 0)), (6, .one (.sc (.int .i64 v6))), (33, .one (.list true tF v33)), (4, .one (.ref 1 0 0 0 0 0)), (34, .one (.sc (.int .i64 v34)))], bx := [(0, .var 28 [.sc (.int .i64 b0_0), .slice 2 0 none, .sc (.bool b0_2), .sc (.int .i64 b0_3), .sc (.int .i64 b0_4)]), (1, .var 28 [.sc (.int .i64 b1_0), .sc (.slice none 0 0), .sc (.bool b1_2), .sc (.int .i64 b1_3), .sc (.int .i64 b1_4)]), (2, .row 0 tO b2)], nx := 3 }
noncomputable abbrev impl_RingTablek0 (n : Nat) := kAt (impl_RingTablecs n) ty 54 0 n impl_RingTablekp impl_RingTablec [1, 1, 1, 1, 0, 1, 0] [] (ending ty 0 Go.Proofs.Try.f33.results.toList impl_RingTablers impl_RingTablebs)
theorem impl_RingTable_l8_eq (n : Nat) : ∀ (k : Nat) (v35 : Int) (v6 : Int) (v33 : List (Int × Int)) (v34 : Int) (b0_0 : Int) (b0_2 : Bool) (b0_3 : Int) (b0_4 : Int) (b1_0 : Int) (b1_2 : Bool) (b1_3 : Int) (b1_4 : Int) (b2 : List OB9), iter (interp (impl_RingTablecs n) ty 54 0 n impl_RingTablekp (codeAt impl_RingTablec [1, 1, 1, 1, 0, 1, 0, 0])) (canon 0 (impl_RingTablekp.loop 8)) (impl_RingTablek0 n) k (impl_RingTables8 v35 v6 v33 v34 b0_0 b0_2 b0_3 b0_4 b1_0 b1_2 b1_3 b1_4 b2) = impl_RingTable_l8 n k v35 v6 v33 v34 b0_0 b0_2 b0_3 b0_4 b1_0 b1_2 b1_3 b1_4 b2
  | 0, _, _, _, _, _, _, _, _, _, _, _, _, _ => by kernel_rfl
  | k + 1, v35, v6, v33, v34, b0_0, b0_2, b0_3, b0_4, b1_0, b1_2, b1_3, b1_4, b2 => by
    refine Eq.trans (b := impl_RingTable_t8 n (fun v35 v6 v33 v34 b0_0 b0_2 b0_3 b0_4 b1_0 b1_2 b1_3 b1_4 b2 => iter (interp (impl_RingTablecs n) ty 54 0 n impl_RingTablekp (codeAt impl_RingTablec [1, 1, 1, 1, 0, 1, 0, 0])) (canon 0 (impl_RingTablekp.loop 8)) (impl_RingTablek0 n) k (impl_RingTables8 v35 v6 v33 v34 b0_0 b0_2 b0_3 b0_4 b1_0 b1_2 b1_3 b1_4 b2)) v35 v6 v33 v34 b0_0 b0_2 b0_3 b0_4 b1_0 b1_2 b1_3 b1_4 b2) (by kernel_rfl) ?_
    have e := congrArg (fun g => impl_RingTable_t8 n g v35 v6 v33 v34 b0_0 b0_2 b0_3 b0_4 b1_0 b1_2 b1_3 b1_4 b2) (funext fun v35 => funext fun v6 => funext fun v33 => funext fun v34 => funext fun b0_0 => funext fun b0_2 => funext fun b0_3 => funext fun b0_4 => funext fun b1_0 => funext fun b1_2 => funext fun b1_3 => funext fun b1_4 => funext fun b2 => impl_RingTable_l8_eq n k v35 v6 v33 v34 b0_0 b0_2 b0_3 b0_4 b1_0 b1_2 b1_3 b1_4 b2)
    exact e

theorem impl_RingTable_eq (n : Nat) (a0 : List (Int × Int)) (a1 : (Int) × (Int)) : runBody (impl_RingTablecs n) ty 54 n impl_RingTablekp impl_RingTablec Go.Proofs.Try.f33.results.toList impl_RingTablers impl_RingTablesp impl_RingTablebs (a0, (a1, ())) () = impl_RingTable n a0 a1 := by
  refine Eq.trans (b := impl_RingTable_t n (fun k v35 v6 v33 v34 b0_0 b0_2 b0_3 b0_4 b1_0 b1_2 b1_3 b1_4 b2 => iter (interp (impl_RingTablecs n) ty 54 0 n impl_RingTablekp (codeAt impl_RingTablec [1, 1, 1, 1, 0, 1, 0, 0])) (canon 0 (impl_RingTablekp.loop 8)) (impl_RingTablek0 n) k (impl_RingTables8 v35 v6 v33 v34 b0_0 b0_2 b0_3 b0_4 b1_0 b1_2 b1_3 b1_4 b2)) a0 a1) (by kernel_rfl) ?_
  have e := congrArg (fun h8 => impl_RingTable_t n h8 a0 a1) (funext fun k => funext fun v35 => funext fun v6 => funext fun v33 => funext fun v34 => funext fun b0_0 => funext fun b0_2 => funext fun b0_3 => funext fun b0_4 => funext fun b1_0 => funext fun b1_2 => funext fun b1_3 => funext fun b1_4 => funext fun b2 => impl_RingTable_l8_eq n k v35 v6 v33 v34 b0_0 b0_2 b0_3 b0_4 b1_0 b1_2 b1_3 b1_4 b2)
  exact e

theorem impl_RingTable_ok (n : Nat) : FunOk P (impl_RingTableF n) :=
  funOk_mk (C := [impl_areValidF n, impl_ValidFracF n, impl_pairObsF n]) (N := 54) (kp := impl_RingTablekp) (c := impl_RingTablec) (n := n) (G := fun x y => impl_RingTable n x.1 x.2.1) follows (AllOk.mem (⟨impl_areValid_ok n, ⟨impl_ValidFrac_ok n, ⟨impl_pairObs_ok n, trivial⟩⟩⟩ : AllOk P ([impl_areValidF n, impl_ValidFracF n, impl_pairObsF n]))) (by kernel_rfl : P.funcs[33]? = some Go.Proofs.Try.f33) (by kernel_rfl) (by kernel_rfl) (by kernel_rfl)
    (fun x y => impl_RingTable_eq n x.1 x.2.1) (fun _ _ => map_same (fun _ => rfl) _) (fun _ _ _ _ => rfl)

abbrev impl_calc_sumsp : List Sp := [.ref 0, .v false (.list tF)]
abbrev impl_calc_sumbs : List (Bs × Bool) := [(.var 89 .bool, true)]
abbrev impl_calc_sumrs : List (Bool × List Rp) := [(true, [.v false tF])]
noncomputable def impl_calc_sumkp : Keep := { loop := fun id => match id with | 3 => ([11, 5, 0, 9, 4, 10], []) | _ => ([], []), join := fun id => match id with | _ => none }
noncomputable def impl_calc_sumc : Code := bodyOf Go.Proofs.Try.f89
noncomputable def impl_calc_sumF (n : Nat) : Fun := { id := 89, sp := impl_calc_sumsp, bs := impl_calc_sumbs, rs := impl_calc_sumrs, f := fun x y => impl_calc_sum n x.2.1 y.1 }

noncomputable abbrev impl_calc_sumcs (n : Nat) : List Fun := [impl_zeroF n, impl_calc_addF n]
abbrev impl_calc_sums3 (v11 : Int) (v9 : List (Int × Int)) (v10 : Int) (b0 : Bool) (b1_0 : Int) (b1_1 : Int) (b2_0 : Int) (b2_1 : Int) : St := { env := [(11, .one (.sc (.int .i64 v11))), (5, .one (.ref 1 0 0 0 0 0)), (0, .one (.ref 0 0 0 0 0 0)), (9, .one (.list true tF v9)), (4, .one (.ref 2 0 0 0 0 0)), (10, .one (.sc (.int .i64 v10)))], bx := [(0, .var 89 [.sc (.bool b0)]), (1, .var 26 [.sc (.int .i64 b1_0), .sc (.int .i64 b1_1)]), (2, .var 26 [.sc (.int .i64 b2_0), .sc (.int .i64 b2_1)])], nx := 3 }
noncomputable abbrev impl_calc_sumk0 (n : Nat) := kAt (impl_calc_sumcs n) ty 21 1 n impl_calc_sumkp impl_calc_sumc [1, 1, 0, 1, 0] [] (ending ty 1 Go.Proofs.Try.f89.results.toList impl_calc_sumrs impl_calc_sumbs)
theorem impl_calc_sum_l3_eq (n : Nat) : ∀ (k : Nat) (v11 : Int) (v9 : List (Int × Int)) (v10 : Int) (b0 : Bool) (b1_0 : Int) (b1_1 : Int) (b2_0 : Int) (b2_1 : Int), iter (interp (impl_calc_sumcs n) ty 21 1 n impl_calc_sumkp (codeAt impl_calc_sumc [1, 1, 0, 1, 0, 0])) (canon 1 (impl_calc_sumkp.loop 3)) (impl_calc_sumk0 n) k (impl_calc_sums3 v11 v9 v10 b0 b1_0 b1_1 b2_0 b2_1) = impl_calc_sum_l3 n k v11 v9 v10 b0 b1_0 b1_1 b2_0 b2_1
  | 0, _, _, _, _, _, _, _, _ => by kernel_rfl
  | k + 1, v11, v9, v10, b0, b1_0, b1_1, b2_0, b2_1 => by
    refine Eq.trans (b := impl_calc_sum_t3 n (fun v11 v9 v10 b0 b1_0 b1_1 b2_0 b2_1 => iter (interp (impl_calc_sumcs n) ty 21 1 n impl_calc_sumkp (codeAt impl_calc_sumc [1, 1, 0, 1, 0, 0])) (canon 1 (impl_calc_sumkp.loop 3)) (impl_calc_sumk0 n) k (impl_calc_sums3 v11 v9 v10 b0 b1_0 b1_1 b2_0 b2_1)) v11 v9 v10 b0 b1_0 b1_1 b2_0 b2_1) (by kernel_rfl) ?_
    have e := congrArg (fun g => impl_calc_sum_t3 n g v11 v9 v10 b0 b1_0 b1_1 b2_0 b2_1) (funext fun v11 => funext fun v9 => funext fun v10 => funext fun b0 => funext fun b1_0 => funext fun b1_1 => funext fun b2_0 => funext fun b2_1 => impl_calc_sum_l3_eq n k v11 v9 v10 b0 b1_0 b1_1 b2_0 b2_1)
    exact e

theorem impl_calc_sum_eq (n : Nat) (a1 : List (Int × Int)) (b0 : Bool) : runBody (impl_calc_sumcs n) ty 21 n impl_calc_sumkp impl_calc_sumc Go.Proofs.Try.f89.results.toList impl_calc_sumrs impl_calc_sumsp impl_calc_sumbs ((), (a1, ())) (b0, ()) = impl_calc_sum n a1 b0 := by
  refine Eq.trans (b := impl_calc_sum_t n (fun k v11 v9 v10 b0 b1_0 b1_1 b2_0 b2_1 => iter (interp (impl_calc_sumcs n) ty 21 1 n impl_calc_sumkp (codeAt impl_calc_sumc [1, 1, 0, 1, 0, 0])) (canon 1 (impl_calc_sumkp.loop 3)) (impl_calc_sumk0 n) k (impl_calc_sums3 v11 v9 v10 b0 b1_0 b1_1 b2_0 b2_1)) a1 b0) (by kernel_rfl) ?_
  have e := congrArg (fun h3 => impl_calc_sum_t n h3 a1 b0) (funext fun k => funext fun v11 => funext fun v9 => funext fun v10 => funext fun b0 => funext fun b1_0 => funext fun b1_1 => funext fun b2_0 => funext fun b2_1 => impl_calc_sum_l3_eq n k v11 v9 v10 b0 b1_0 b1_1 b2_0 b2_1)
  exact e

theorem impl_calc_sum_ok (n : Nat) : FunOk P (impl_calc_sumF n) :=
  funOk_mk (C := [impl_zeroF n, impl_calc_addF n]) (N := 21) (kp := impl_calc_sumkp) (c := impl_calc_sumc) (n := n) (G := fun x y => impl_calc_sum n x.2.1 y.1) follows (AllOk.mem (⟨impl_zero_ok n, ⟨impl_calc_add_ok n, trivial⟩⟩ : AllOk P ([impl_zeroF n, impl_calc_addF n]))) (by kernel_rfl : P.funcs[89]? = some Go.Proofs.Try.f89) (by kernel_rfl) (by kernel_rfl) (by kernel_rfl)
    (fun x y => impl_calc_sum_eq n x.2.1 y.1) (fun _ _ => map_same (fun _ => rfl) _) (fun _ _ _ _ => rfl)

abbrev impl_isSomesp : List Sp := [.v false (.list tF)]
abbrev impl_isSomebs : List (Bs × Bool) := []
abbrev impl_isSomers : List (Bool × List Rp) := [(false, [.v false (.int .i64)])]
noncomputable def impl_isSomekp : Keep := { loop := fun id => match id with | _ => ([], []), join := fun id => match id with | _ => none }
noncomputable def impl_isSomec : Code := bodyOf Go.Proofs.Try.f87
noncomputable def impl_isSomeF (n : Nat) : Fun := { id := 87, sp := impl_isSomesp, bs := impl_isSomebs, rs := impl_isSomers, f := fun x y => impl_isSome n x.1 }

theorem impl_isSome_eq (n : Nat) (a0 : List (Int × Int)) : runBody ([impl_areValidF n]) ty 16 n impl_isSomekp impl_isSomec Go.Proofs.Try.f87.results.toList impl_isSomers impl_isSomesp impl_isSomebs (a0, ()) () = impl_isSome n a0 := by
  refine Eq.trans (b := impl_isSome_t n a0) (by kernel_rfl) ?_
  rfl

theorem impl_isSome_ok (n : Nat) : FunOk P (impl_isSomeF n) :=
  funOk_mk (C := [impl_areValidF n]) (N := 16) (kp := impl_isSomekp) (c := impl_isSomec) (n := n) (G := fun x y => impl_isSome n x.1) follows (AllOk.mem (⟨impl_areValid_ok n, trivial⟩ : AllOk P ([impl_areValidF n]))) (by kernel_rfl : P.funcs[87]? = some Go.Proofs.Try.f87) (by kernel_rfl) (by kernel_rfl) (by kernel_rfl)
    (fun x y => impl_isSome_eq n x.1) (fun _ _ => map_same (fun _ => rfl) _) (fun _ _ _ _ => rfl)

abbrev impl_ShareEvenlysp : List Sp := [.v false (.list tF), .v true tF]
abbrev impl_ShareEvenlybs : List (Bs × Bool) := []
abbrev impl_ShareEvenlyrs : List (Bool × List Rp) := [(false, [.new  tF]), (false, [.v false (.int .i64)])]
noncomputable def impl_ShareEvenlykp : Keep := { loop := fun id => match id with | 10 => ([36, 8, 7, 9, 34, 35], []) | _ => ([], []), join := fun id => match id with | _ => none }
noncomputable def impl_ShareEvenlyc : Code := bodyOf Go.Proofs.Try.f26
noncomputable def impl_ShareEvenlyF (n : Nat) : Fun := { id := 26, sp := impl_ShareEvenlysp, bs := impl_ShareEvenlybs, rs := impl_ShareEvenlyrs, f := fun x y => impl_ShareEvenly n x.1 x.2.1 }

noncomputable abbrev impl_ShareEvenlycs (n : Nat) : List Fun := [impl_ValidFracF n, impl_isSomeF n, impl_calc_sumF n, impl_calc_subF n, impl_numF n, impl_calc_divF n]
abbrev impl_ShareEvenlys10 (v36 : Int) (v34 : List (Int × Int)) (v35 : Int) (b0_0 : Int) (b0_1 : Int) (b1 : Bool) (b2 : List (Int × Int)) : St := { env := [(36, .one (.sc (.int .i64 v36))), (8, .one (.ref 0 0 0 0 0 0)), (7, .one (.ref 1 0 0 0 0 0)), (9, .one (.slice 2 0 none)), (34, .one (.list true tF v34)), (35, .one (.sc (.int .i64 v35)))], bx := [(0, .var 26 [.sc (.int .i64 b0_0), .sc (.int .i64 b0_1)]), (1, .var 89 [.sc (.bool b1)]), (2, .row 0 tF b2)], nx := 3 }
noncomputable abbrev impl_ShareEvenlyk0 (n : Nat) := kAt (impl_ShareEvenlycs n) ty 53 0 n impl_ShareEvenlykp impl_ShareEvenlyc [1, 1, 1, 1, 1, 1, 0, 1, 0] [] (ending ty 0 Go.Proofs.Try.f26.results.toList impl_ShareEvenlyrs impl_ShareEvenlybs)
theorem impl_ShareEvenly_l10_eq (n : Nat) : ∀ (k : Nat) (v36 : Int) (v34 : List (Int × Int)) (v35 : Int) (b0_0 : Int) (b0_1 : Int) (b1 : Bool) (b2 : List (Int × Int)), iter (interp (impl_ShareEvenlycs n) ty 53 0 n impl_ShareEvenlykp (codeAt impl_ShareEvenlyc [1, 1, 1, 1, 1, 1, 0, 1, 0, 0])) (canon 0 (impl_ShareEvenlykp.loop 10)) (impl_ShareEvenlyk0 n) k (impl_ShareEvenlys10 v36 v34 v35 b0_0 b0_1 b1 b2) = impl_ShareEvenly_l10 n k v36 v34 v35 b0_0 b0_1 b1 b2
  | 0, _, _, _, _, _, _, _ => by kernel_rfl
  | k + 1, v36, v34, v35, b0_0, b0_1, b1, b2 => by
    refine Eq.trans (b := impl_ShareEvenly_t10 n (fun v36 v34 v35 b0_0 b0_1 b1 b2 => iter (interp (impl_ShareEvenlycs n) ty 53 0 n impl_ShareEvenlykp (codeAt impl_ShareEvenlyc [1, 1, 1, 1, 1, 1, 0, 1, 0, 0])) (canon 0 (impl_ShareEvenlykp.loop 10)) (impl_ShareEvenlyk0 n) k (impl_ShareEvenlys10 v36 v34 v35 b0_0 b0_1 b1 b2)) v36 v34 v35 b0_0 b0_1 b1 b2) (by kernel_rfl) ?_
    have e := congrArg (fun g => impl_ShareEvenly_t10 n g v36 v34 v35 b0_0 b0_1 b1 b2) (funext fun v36 => funext fun v34 => funext fun v35 => funext fun b0_0 => funext fun b0_1 => funext fun b1 => funext fun b2 => impl_ShareEvenly_l10_eq n k v36 v34 v35 b0_0 b0_1 b1 b2)
    exact e

theorem impl_ShareEvenly_eq (n : Nat) (a0 : List (Int × Int)) (a1 : (Int) × (Int)) : runBody (impl_ShareEvenlycs n) ty 53 n impl_ShareEvenlykp impl_ShareEvenlyc Go.Proofs.Try.f26.results.toList impl_ShareEvenlyrs impl_ShareEvenlysp impl_ShareEvenlybs (a0, (a1, ())) () = impl_ShareEvenly n a0 a1 := by
  refine Eq.trans (b := impl_ShareEvenly_t n (fun k v36 v34 v35 b0_0 b0_1 b1 b2 => iter (interp (impl_ShareEvenlycs n) ty 53 0 n impl_ShareEvenlykp (codeAt impl_ShareEvenlyc [1, 1, 1, 1, 1, 1, 0, 1, 0, 0])) (canon 0 (impl_ShareEvenlykp.loop 10)) (impl_ShareEvenlyk0 n) k (impl_ShareEvenlys10 v36 v34 v35 b0_0 b0_1 b1 b2)) a0 a1) (by kernel_rfl) ?_
  have e := congrArg (fun h10 => impl_ShareEvenly_t n h10 a0 a1) (funext fun k => funext fun v36 => funext fun v34 => funext fun v35 => funext fun b0_0 => funext fun b0_1 => funext fun b1 => funext fun b2 => impl_ShareEvenly_l10_eq n k v36 v34 v35 b0_0 b0_1 b1 b2)
  exact e

theorem impl_ShareEvenly_ok (n : Nat) : FunOk P (impl_ShareEvenlyF n) :=
  funOk_mk (C := [impl_ValidFracF n, impl_isSomeF n, impl_calc_sumF n, impl_calc_subF n, impl_numF n, impl_calc_divF n]) (N := 53) (kp := impl_ShareEvenlykp) (c := impl_ShareEvenlyc) (n := n) (G := fun x y => impl_ShareEvenly n x.1 x.2.1) follows (AllOk.mem (⟨impl_ValidFrac_ok n, ⟨impl_isSome_ok n, ⟨impl_calc_sum_ok n, ⟨impl_calc_sub_ok n, ⟨impl_num_ok n, ⟨impl_calc_div_ok n, trivial⟩⟩⟩⟩⟩⟩ : AllOk P ([impl_ValidFracF n, impl_isSomeF n, impl_calc_sumF n, impl_calc_subF n, impl_numF n, impl_calc_divF n]))) (by kernel_rfl : P.funcs[26]? = some Go.Proofs.Try.f26) (by kernel_rfl) (by kernel_rfl) (by kernel_rfl)
    (fun x y => impl_ShareEvenly_eq n x.1 x.2.1) (fun _ _ => map_same (fun _ => rfl) _) (fun _ _ _ _ => rfl)

abbrev impl_floorDivsp : List Sp := [.v false (.int .i64), .v false (.int .i64)]
abbrev impl_floorDivbs : List (Bs × Bool) := []
abbrev impl_floorDivrs : List (Bool × List Rp) := [(false, [.v false (.int .i64)])]
noncomputable def impl_floorDivkp : Keep := { loop := fun id => match id with | _ => ([], []), join := fun id => match id with | _ => none }
noncomputable def impl_floorDivc : Code := bodyOf Go.Proofs.Try.f99
noncomputable def impl_floorDivF (n : Nat) : Fun := { id := 99, sp := impl_floorDivsp, bs := impl_floorDivbs, rs := impl_floorDivrs, f := fun x y => impl_floorDiv n x.1 x.2.1 }

theorem impl_floorDiv_eq (n : Nat) (a0 : Int) (a1 : Int) : runBody ([]) ty 23 n impl_floorDivkp impl_floorDivc Go.Proofs.Try.f99.results.toList impl_floorDivrs impl_floorDivsp impl_floorDivbs (a0, (a1, ())) () = impl_floorDiv n a0 a1 := by
  refine Eq.trans (b := impl_floorDiv_t n a0 a1) (by kernel_rfl) ?_
  rfl

theorem impl_floorDiv_ok (n : Nat) : FunOk P (impl_floorDivF n) :=
  funOk_mk (C := []) (N := 23) (kp := impl_floorDivkp) (c := impl_floorDivc) (n := n) (G := fun x y => impl_floorDiv n x.1 x.2.1) follows (AllOk.mem (trivial : AllOk P ([]))) (by kernel_rfl : P.funcs[99]? = some Go.Proofs.Try.f99) (by kernel_rfl) (by kernel_rfl) (by kernel_rfl)
    (fun x y => impl_floorDiv_eq n x.1 x.2.1) (fun _ _ => map_same (fun _ => rfl) _) (fun _ _ _ _ => rfl)

abbrev impl_ShareWhole_1sp : List Sp := [.v false (.int .i64)]
abbrev impl_ShareWhole_1bs : List (Bs × Bool) := []
abbrev impl_ShareWhole_1rs : List (Bool × List Rp) := [(false, [.v false .bool])]
noncomputable def impl_ShareWhole_1kp : Keep := { loop := fun id => match id with | _ => ([], []), join := fun id => match id with | _ => none }
noncomputable def impl_ShareWhole_1c : Code := bodyOf Go.Proofs.Try.f98
noncomputable def impl_ShareWhole_1F (n : Nat) : Fun := { id := 98, sp := impl_ShareWhole_1sp, bs := impl_ShareWhole_1bs, rs := impl_ShareWhole_1rs, f := fun x y => impl_ShareWhole_1 n x.1 }

theorem impl_ShareWhole_1_eq (n : Nat) (a0 : Int) : runBody ([impl_withinF n]) ty 6 n impl_ShareWhole_1kp impl_ShareWhole_1c Go.Proofs.Try.f98.results.toList impl_ShareWhole_1rs impl_ShareWhole_1sp impl_ShareWhole_1bs (a0, ()) () = impl_ShareWhole_1 n a0 := by
  refine Eq.trans (b := impl_ShareWhole_1_t n a0) (by kernel_rfl) ?_
  rfl

theorem impl_ShareWhole_1_ok (n : Nat) : FunOk P (impl_ShareWhole_1F n) :=
  funOk_mk (C := [impl_withinF n]) (N := 6) (kp := impl_ShareWhole_1kp) (c := impl_ShareWhole_1c) (n := n) (G := fun x y => impl_ShareWhole_1 n x.1) follows (AllOk.mem (⟨impl_within_ok n, trivial⟩ : AllOk P ([impl_withinF n]))) (by kernel_rfl : P.funcs[98]? = some Go.Proofs.Try.f98) (by kernel_rfl) (by kernel_rfl) (by kernel_rfl)
    (fun x y => impl_ShareWhole_1_eq n x.1) (fun _ _ => map_same (fun _ => rfl) _) (fun _ _ _ _ => rfl)

abbrev slices_IndexFunc_int64_int64_at_impl_ShareWhole_1sp : List Sp := [.v false (.list (.int .i64)), .cl 98 []]
abbrev slices_IndexFunc_int64_int64_at_impl_ShareWhole_1bs : List (Bs × Bool) := []
abbrev slices_IndexFunc_int64_int64_at_impl_ShareWhole_1rs : List (Bool × List Rp) := [(false, [.v false (.int .i64)])]
noncomputable def slices_IndexFunc_int64_int64_at_impl_ShareWhole_1kp : Keep := { loop := fun id => match id with | 2 => ([8, 0, 1, 7], []) | _ => ([], []), join := fun id => match id with | _ => none }
noncomputable def slices_IndexFunc_int64_int64_at_impl_ShareWhole_1c : Code := bodyOf Go.Proofs.Try.f132
noncomputable def slices_IndexFunc_int64_int64_at_impl_ShareWhole_1F (n : Nat) : Fun := { id := 132, sp := slices_IndexFunc_int64_int64_at_impl_ShareWhole_1sp, bs := slices_IndexFunc_int64_int64_at_impl_ShareWhole_1bs, rs := slices_IndexFunc_int64_int64_at_impl_ShareWhole_1rs, f := fun x y => slices_IndexFunc_int64_int64_at_impl_ShareWhole_1 n x.1 }

abbrev slices_IndexFunc_int64_int64_at_impl_ShareWhole_1s2 (v8 : Int) (v0 : List (Int)) (v7 : Int) : St := { env := [(8, .one (.sc (.int .i64 v8))), (0, .one (.list true (.int .i64) v0)), (1, .one (.clos 98 [])), (7, .one (.sc (.int .i64 v7)))], bx := [], nx := 0 }
noncomputable abbrev slices_IndexFunc_int64_int64_at_impl_ShareWhole_1k0 (n : Nat) := kAt ([impl_ShareWhole_1F n]) ty 19 0 n slices_IndexFunc_int64_int64_at_impl_ShareWhole_1kp slices_IndexFunc_int64_int64_at_impl_ShareWhole_1c [1, 0, 1, 0] [] (ending ty 0 Go.Proofs.Try.f132.results.toList slices_IndexFunc_int64_int64_at_impl_ShareWhole_1rs slices_IndexFunc_int64_int64_at_impl_ShareWhole_1bs)
theorem slices_IndexFunc_int64_int64_at_impl_ShareWhole_1_l2_eq (n : Nat) : ∀ (k : Nat) (v8 : Int) (v0 : List (Int)) (v7 : Int), iter (interp ([impl_ShareWhole_1F n]) ty 19 0 n slices_IndexFunc_int64_int64_at_impl_ShareWhole_1kp (codeAt slices_IndexFunc_int64_int64_at_impl_ShareWhole_1c [1, 0, 1, 0, 0])) (canon 0 (slices_IndexFunc_int64_int64_at_impl_ShareWhole_1kp.loop 2)) (slices_IndexFunc_int64_int64_at_impl_ShareWhole_1k0 n) k (slices_IndexFunc_int64_int64_at_impl_ShareWhole_1s2 v8 v0 v7) = slices_IndexFunc_int64_int64_at_impl_ShareWhole_1_l2 n k v8 v0 v7
  | 0, _, _, _ => by kernel_rfl
  | k + 1, v8, v0, v7 => by
    refine Eq.trans (b := slices_IndexFunc_int64_int64_at_impl_ShareWhole_1_t2 n (fun v8 v0 v7 => iter (interp ([impl_ShareWhole_1F n]) ty 19 0 n slices_IndexFunc_int64_int64_at_impl_ShareWhole_1kp (codeAt slices_IndexFunc_int64_int64_at_impl_ShareWhole_1c [1, 0, 1, 0, 0])) (canon 0 (slices_IndexFunc_int64_int64_at_impl_ShareWhole_1kp.loop 2)) (slices_IndexFunc_int64_int64_at_impl_ShareWhole_1k0 n) k (slices_IndexFunc_int64_int64_at_impl_ShareWhole_1s2 v8 v0 v7)) v8 v0 v7) (by kernel_rfl) ?_
    have e := congrArg (fun g => slices_IndexFunc_int64_int64_at_impl_ShareWhole_1_t2 n g v8 v0 v7) (funext fun v8 => funext fun v0 => funext fun v7 => slices_IndexFunc_int64_int64_at_impl_ShareWhole_1_l2_eq n k v8 v0 v7)
    exact e

theorem slices_IndexFunc_int64_int64_at_impl_ShareWhole_1_eq (n : Nat) (a0 : List (Int)) : runBody ([impl_ShareWhole_1F n]) ty 19 n slices_IndexFunc_int64_int64_at_impl_ShareWhole_1kp slices_IndexFunc_int64_int64_at_impl_ShareWhole_1c Go.Proofs.Try.f132.results.toList slices_IndexFunc_int64_int64_at_impl_ShareWhole_1rs slices_IndexFunc_int64_int64_at_impl_ShareWhole_1sp slices_IndexFunc_int64_int64_at_impl_ShareWhole_1bs (a0, ((), ())) () = slices_IndexFunc_int64_int64_at_impl_ShareWhole_1 n a0 := by
  refine Eq.trans (b := slices_IndexFunc_int64_int64_at_impl_ShareWhole_1_t n (fun k v8 v0 v7 => iter (interp ([impl_ShareWhole_1F n]) ty 19 0 n slices_IndexFunc_int64_int64_at_impl_ShareWhole_1kp (codeAt slices_IndexFunc_int64_int64_at_impl_ShareWhole_1c [1, 0, 1, 0, 0])) (canon 0 (slices_IndexFunc_int64_int64_at_impl_ShareWhole_1kp.loop 2)) (slices_IndexFunc_int64_int64_at_impl_ShareWhole_1k0 n) k (slices_IndexFunc_int64_int64_at_impl_ShareWhole_1s2 v8 v0 v7)) a0) (by kernel_rfl) ?_
  have e := congrArg (fun h2 => slices_IndexFunc_int64_int64_at_impl_ShareWhole_1_t n h2 a0) (funext fun k => funext fun v8 => funext fun v0 => funext fun v7 => slices_IndexFunc_int64_int64_at_impl_ShareWhole_1_l2_eq n k v8 v0 v7)
  exact e

theorem slices_IndexFunc_int64_int64_at_impl_ShareWhole_1_ok (n : Nat) : FunOk P (slices_IndexFunc_int64_int64_at_impl_ShareWhole_1F n) :=
  funOk_mk (C := [impl_ShareWhole_1F n]) (N := 19) (kp := slices_IndexFunc_int64_int64_at_impl_ShareWhole_1kp) (c := slices_IndexFunc_int64_int64_at_impl_ShareWhole_1c) (n := n) (G := fun x y => slices_IndexFunc_int64_int64_at_impl_ShareWhole_1 n x.1) follows (AllOk.mem (⟨impl_ShareWhole_1_ok n, trivial⟩ : AllOk P ([impl_ShareWhole_1F n]))) (by kernel_rfl : P.funcs[132]? = some Go.Proofs.Try.f132) (by kernel_rfl) (by kernel_rfl) (by kernel_rfl)
    (fun x y => slices_IndexFunc_int64_int64_at_impl_ShareWhole_1_eq n x.1) (fun _ _ => map_same (fun _ => rfl) _) (fun _ _ _ _ => rfl)

abbrev slices_ContainsFunc_int64_int64_at_impl_ShareWhole_1sp : List Sp := [.v false (.list (.int .i64)), .cl 98 []]
abbrev slices_ContainsFunc_int64_int64_at_impl_ShareWhole_1bs : List (Bs × Bool) := []
abbrev slices_ContainsFunc_int64_int64_at_impl_ShareWhole_1rs : List (Bool × List Rp) := [(false, [.v false .bool])]
noncomputable def slices_ContainsFunc_int64_int64_at_impl_ShareWhole_1kp : Keep := { loop := fun id => match id with | _ => ([], []), join := fun id => match id with | _ => none }
noncomputable def slices_ContainsFunc_int64_int64_at_impl_ShareWhole_1c : Code := bodyOf Go.Proofs.Try.f97
noncomputable def slices_ContainsFunc_int64_int64_at_impl_ShareWhole_1F (n : Nat) : Fun := { id := 97, sp := slices_ContainsFunc_int64_int64_at_impl_ShareWhole_1sp, bs := slices_ContainsFunc_int64_int64_at_impl_ShareWhole_1bs, rs := slices_ContainsFunc_int64_int64_at_impl_ShareWhole_1rs, f := fun x y => slices_ContainsFunc_int64_int64_at_impl_ShareWhole_1 n x.1 }

theorem slices_ContainsFunc_int64_int64_at_impl_ShareWhole_1_eq (n : Nat) (a0 : List (Int)) : runBody ([slices_IndexFunc_int64_int64_at_impl_ShareWhole_1F n]) ty 9 n slices_ContainsFunc_int64_int64_at_impl_ShareWhole_1kp slices_ContainsFunc_int64_int64_at_impl_ShareWhole_1c Go.Proofs.Try.f97.results.toList slices_ContainsFunc_int64_int64_at_impl_ShareWhole_1rs slices_ContainsFunc_int64_int64_at_impl_ShareWhole_1sp slices_ContainsFunc_int64_int64_at_impl_ShareWhole_1bs (a0, ((), ())) () = slices_ContainsFunc_int64_int64_at_impl_ShareWhole_1 n a0 := by
  refine Eq.trans (b := slices_ContainsFunc_int64_int64_at_impl_ShareWhole_1_t n a0) (by kernel_rfl) ?_
  rfl

theorem slices_ContainsFunc_int64_int64_at_impl_ShareWhole_1_ok (n : Nat) : FunOk P (slices_ContainsFunc_int64_int64_at_impl_ShareWhole_1F n) :=
  funOk_mk (C := [slices_IndexFunc_int64_int64_at_impl_ShareWhole_1F n]) (N := 9) (kp := slices_ContainsFunc_int64_int64_at_impl_ShareWhole_1kp) (c := slices_ContainsFunc_int64_int64_at_impl_ShareWhole_1c) (n := n) (G := fun x y => slices_ContainsFunc_int64_int64_at_impl_ShareWhole_1 n x.1) follows (AllOk.mem (⟨slices_IndexFunc_int64_int64_at_impl_ShareWhole_1_ok n, trivial⟩ : AllOk P ([slices_IndexFunc_int64_int64_at_impl_ShareWhole_1F n]))) (by kernel_rfl : P.funcs[97]? = some Go.Proofs.Try.f97) (by kernel_rfl) (by kernel_rfl) (by kernel_rfl)
    (fun x y => slices_ContainsFunc_int64_int64_at_impl_ShareWhole_1_eq n x.1) (fun _ _ => map_same (fun _ => rfl) _) (fun _ _ _ _ => rfl)

abbrev impl_ShareWholesp : List Sp := [.v false (.list (.int .i64)), .v false (.int .i64)]
abbrev impl_ShareWholebs : List (Bs × Bool) := []
abbrev impl_ShareWholers : List (Bool × List Rp) := [(false, [.new  (.int .i64)]), (false, [.v false (.int .i64)])]
noncomputable def impl_ShareWholekp : Keep := { loop := fun id => match id with | 5 => ([35, 6, 33, 7, 0, 34], []) | 11 => ([49, 10, 11, 7, 6, 47, 48], []) | _ => ([], []), join := fun id => match id with | _ => none }
noncomputable def impl_ShareWholec : Code := bodyOf Go.Proofs.Try.f30
noncomputable def impl_ShareWholeF (n : Nat) : Fun := { id := 30, sp := impl_ShareWholesp, bs := impl_ShareWholebs, rs := impl_ShareWholers, f := fun x y => impl_ShareWhole n x.1 x.2.1 }

noncomputable abbrev impl_ShareWholecs (n : Nat) : List Fun := [slices_ContainsFunc_int64_int64_at_impl_ShareWhole_1F n, impl_floorDivF n]
abbrev impl_ShareWholes11 (v49 : Int) (v10 : Int) (v7 : Int) (v6 : Int) (v47 : List (Int)) (v48 : Int) (b0 : List (Int)) : St := { env := [(49, .one (.sc (.int .i64 v49))), (10, .one (.sc (.int .i64 v10))), (11, .one (.slice 0 0 none)), (7, .one (.sc (.int .i64 v7))), (6, .one (.sc (.int .i64 v6))), (47, .one (.list true (.int .i64) v47)), (48, .one (.sc (.int .i64 v48)))], bx := [(0, .row 0 (.int .i64) b0)], nx := 1 }
abbrev impl_ShareWholes5 (v35 : Int) (v6 : Int) (v33 : List (Int)) (v7 : Int) (v0 : List (Int)) (v34 : Int) : St := { env := [(35, .one (.sc (.int .i64 v35))), (6, .one (.sc (.int .i64 v6))), (33, .one (.list true (.int .i64) v33)), (7, .one (.sc (.int .i64 v7))), (0, .one (.list true (.int .i64) v0)), (34, .one (.sc (.int .i64 v34)))], bx := [], nx := 0 }
noncomputable abbrev impl_ShareWholek0 (n : Nat) := kAt (impl_ShareWholecs n) ty 71 0 n impl_ShareWholekp impl_ShareWholec [1, 1, 1, 1, 1, 0, 1, 0] [] (ending ty 0 Go.Proofs.Try.f30.results.toList impl_ShareWholers impl_ShareWholebs)
noncomputable abbrev impl_ShareWholek1 (n : Nat) := kAt (impl_ShareWholecs n) ty 71 0 n impl_ShareWholekp impl_ShareWholec [1, 1, 1, 0, 1, 0] [] (ending ty 0 Go.Proofs.Try.f30.results.toList impl_ShareWholers impl_ShareWholebs)
theorem impl_ShareWhole_l11_eq (n : Nat) : ∀ (k : Nat) (v49 : Int) (v10 : Int) (v7 : Int) (v6 : Int) (v47 : List (Int)) (v48 : Int) (b0 : List (Int)), iter (interp (impl_ShareWholecs n) ty 71 0 n impl_ShareWholekp (codeAt impl_ShareWholec [1, 1, 1, 1, 1, 0, 1, 0, 0])) (canon 0 (impl_ShareWholekp.loop 11)) (impl_ShareWholek0 n) k (impl_ShareWholes11 v49 v10 v7 v6 v47 v48 b0) = impl_ShareWhole_l11 n k v49 v10 v7 v6 v47 v48 b0
  | 0, _, _, _, _, _, _, _ => by kernel_rfl
  | k + 1, v49, v10, v7, v6, v47, v48, b0 => by
    refine Eq.trans (b := impl_ShareWhole_t11 n (fun v49 v10 v7 v6 v47 v48 b0 => iter (interp (impl_ShareWholecs n) ty 71 0 n impl_ShareWholekp (codeAt impl_ShareWholec [1, 1, 1, 1, 1, 0, 1, 0, 0])) (canon 0 (impl_ShareWholekp.loop 11)) (impl_ShareWholek0 n) k (impl_ShareWholes11 v49 v10 v7 v6 v47 v48 b0)) v49 v10 v7 v6 v47 v48 b0) (by kernel_rfl) ?_
    have e := congrArg (fun g => impl_ShareWhole_t11 n g v49 v10 v7 v6 v47 v48 b0) (funext fun v49 => funext fun v10 => funext fun v7 => funext fun v6 => funext fun v47 => funext fun v48 => funext fun b0 => impl_ShareWhole_l11_eq n k v49 v10 v7 v6 v47 v48 b0)
    exact e

theorem impl_ShareWhole_l5_eq (n : Nat) : ∀ (k : Nat) (v35 : Int) (v6 : Int) (v33 : List (Int)) (v7 : Int) (v0 : List (Int)) (v34 : Int), iter (interp (impl_ShareWholecs n) ty 71 0 n impl_ShareWholekp (codeAt impl_ShareWholec [1, 1, 1, 0, 1, 0, 0])) (canon 0 (impl_ShareWholekp.loop 5)) (impl_ShareWholek1 n) k (impl_ShareWholes5 v35 v6 v33 v7 v0 v34) = impl_ShareWhole_l5 n k v35 v6 v33 v7 v0 v34
  | 0, _, _, _, _, _, _ => by kernel_rfl
  | k + 1, v35, v6, v33, v7, v0, v34 => by
    refine Eq.trans (b := impl_ShareWhole_t5 n (fun k' v49 v10 v7 v6 v47 v48 b0 => iter (interp (impl_ShareWholecs n) ty 71 0 n impl_ShareWholekp (codeAt impl_ShareWholec [1, 1, 1, 1, 1, 0, 1, 0, 0])) (canon 0 (impl_ShareWholekp.loop 11)) (impl_ShareWholek0 n) k' (impl_ShareWholes11 v49 v10 v7 v6 v47 v48 b0)) (fun v35 v6 v33 v7 v0 v34 => iter (interp (impl_ShareWholecs n) ty 71 0 n impl_ShareWholekp (codeAt impl_ShareWholec [1, 1, 1, 0, 1, 0, 0])) (canon 0 (impl_ShareWholekp.loop 5)) (impl_ShareWholek1 n) k (impl_ShareWholes5 v35 v6 v33 v7 v0 v34)) v35 v6 v33 v7 v0 v34) (by kernel_rfl) ?_
    have e := congr (congrArg (fun h11 g => impl_ShareWhole_t5 n h11 g v35 v6 v33 v7 v0 v34) (funext fun k' => funext fun v49 => funext fun v10 => funext fun v7 => funext fun v6 => funext fun v47 => funext fun v48 => funext fun b0 => impl_ShareWhole_l11_eq n k' v49 v10 v7 v6 v47 v48 b0)) (funext fun v35 => funext fun v6 => funext fun v33 => funext fun v7 => funext fun v0 => funext fun v34 => impl_ShareWhole_l5_eq n k v35 v6 v33 v7 v0 v34)
    exact e

theorem impl_ShareWhole_eq (n : Nat) (a0 : List (Int)) (a1 : Int) : runBody (impl_ShareWholecs n) ty 71 n impl_ShareWholekp impl_ShareWholec Go.Proofs.Try.f30.results.toList impl_ShareWholers impl_ShareWholesp impl_ShareWholebs (a0, (a1, ())) () = impl_ShareWhole n a0 a1 := by
  refine Eq.trans (b := impl_ShareWhole_t n (fun k v35 v6 v33 v7 v0 v34 => iter (interp (impl_ShareWholecs n) ty 71 0 n impl_ShareWholekp (codeAt impl_ShareWholec [1, 1, 1, 0, 1, 0, 0])) (canon 0 (impl_ShareWholekp.loop 5)) (impl_ShareWholek1 n) k (impl_ShareWholes5 v35 v6 v33 v7 v0 v34)) a0 a1) (by kernel_rfl) ?_
  have e := congrArg (fun h5 => impl_ShareWhole_t n h5 a0 a1) (funext fun k => funext fun v35 => funext fun v6 => funext fun v33 => funext fun v7 => funext fun v0 => funext fun v34 => impl_ShareWhole_l5_eq n k v35 v6 v33 v7 v0 v34)
  exact e

theorem impl_ShareWhole_ok (n : Nat) : FunOk P (impl_ShareWholeF n) :=
  funOk_mk (C := [slices_ContainsFunc_int64_int64_at_impl_ShareWhole_1F n, impl_floorDivF n]) (N := 71) (kp := impl_ShareWholekp) (c := impl_ShareWholec) (n := n) (G := fun x y => impl_ShareWhole n x.1 x.2.1) follows (AllOk.mem (⟨slices_ContainsFunc_int64_int64_at_impl_ShareWhole_1_ok n, ⟨impl_floorDiv_ok n, trivial⟩⟩ : AllOk P ([slices_ContainsFunc_int64_int64_at_impl_ShareWhole_1F n, impl_floorDivF n]))) (by kernel_rfl : P.funcs[30]? = some Go.Proofs.Try.f30) (by kernel_rfl) (by kernel_rfl) (by kernel_rfl)
    (fun x y => impl_ShareWhole_eq n x.1 x.2.1) (fun _ _ => map_same (fun _ => rfl) _) (fun _ _ _ _ => rfl)

abbrev laws_f6bigsp : List Sp := [.v false (.list (.int .u8))]
abbrev laws_f6bigbs : List (Bs × Bool) := []
abbrev laws_f6bigrs : List (Bool × List Rp) := [(false, [.v false .bool])]
noncomputable def laws_f6bigkp : Keep := { loop := fun id => match id with | _ => ([], []), join := fun id => match id with | _ => none }
noncomputable def laws_f6bigc : Code := bodyOf Go.Proofs.Try.f9
noncomputable def laws_f6bigF (n : Nat) : Fun := { id := 9, sp := laws_f6bigsp, bs := laws_f6bigbs, rs := laws_f6bigrs, f := fun x y => laws_f6big n x.1 }

theorem laws_f6big_eq (n : Nat) (a0 : List (Int)) : runBody ([]) ty 6 n laws_f6bigkp laws_f6bigc Go.Proofs.Try.f9.results.toList laws_f6bigrs laws_f6bigsp laws_f6bigbs (a0, ()) () = laws_f6big n a0 := by
  refine Eq.trans (b := laws_f6big_t n a0) (by kernel_rfl) ?_
  rfl

theorem laws_f6big_ok (n : Nat) : FunOk P (laws_f6bigF n) :=
  funOk_mk (C := []) (N := 6) (kp := laws_f6bigkp) (c := laws_f6bigc) (n := n) (G := fun x y => laws_f6big n x.1) follows (AllOk.mem (trivial : AllOk P ([]))) (by kernel_rfl : P.funcs[9]? = some Go.Proofs.Try.f9) (by kernel_rfl) (by kernel_rfl) (by kernel_rfl)
    (fun x y => laws_f6big_eq n x.1) (fun _ _ => map_same (fun _ => rfl) _) (fun _ _ _ _ => rfl)

abbrev spec_l00Fromsp : List Sp := [.v false (.list (.int .u8))]
abbrev spec_l00Frombs : List (Bs × Bool) := []
abbrev spec_l00Fromrs : List (Bool × List Rp) := [(false, [.nvar 139 (.pair (.list (.int .u8)) (.pair (.int .i64) (.int .u64)))])]
noncomputable def spec_l00Fromkp : Keep := { loop := fun id => match id with | _ => ([], []), join := fun id => match id with | _ => none }
noncomputable def spec_l00Fromc : Code := bodyOf Go.Proofs.Try.f55
noncomputable def spec_l00FromF (n : Nat) : Fun := { id := 55, sp := spec_l00Fromsp, bs := spec_l00Frombs, rs := spec_l00Fromrs, f := fun x y => spec_l00From n x.1 }

theorem spec_l00From_eq (n : Nat) (a0 : List (Int)) : runBody ([]) ty 6 n spec_l00Fromkp spec_l00Fromc Go.Proofs.Try.f55.results.toList spec_l00Fromrs spec_l00Fromsp spec_l00Frombs (a0, ()) () = spec_l00From n a0 := by
  refine Eq.trans (b := spec_l00From_t n a0) (by kernel_rfl) ?_
  rfl

theorem spec_l00From_ok (n : Nat) : FunOk P (spec_l00FromF n) :=
  funOk_mk (C := []) (N := 6) (kp := spec_l00Fromkp) (c := spec_l00Fromc) (n := n) (G := fun x y => spec_l00From n x.1) follows (AllOk.mem (trivial : AllOk P ([]))) (by kernel_rfl : P.funcs[55]? = some Go.Proofs.Try.f55) (by kernel_rfl) (by kernel_rfl) (by kernel_rfl)
    (fun x y => spec_l00From_eq n x.1) (fun _ _ => map_same (fun _ => rfl) _) (fun _ _ _ _ => rfl)

abbrev spec_l00Src_nextsp : List Sp := [.ref 0]
abbrev spec_l00Src_nextbs : List (Bs × Bool) := [(.var 139 (.pair (.list (.int .u8)) (.pair (.int .i64) (.int .u64))), true)]
abbrev spec_l00Src_nextrs : List (Bool × List Rp) := [(false, [.v false (.int .i64)])]
noncomputable def spec_l00Src_nextkp : Keep := { loop := fun id => match id with | _ => ([], []), join := fun id => match id with | _ => none }
noncomputable def spec_l00Src_nextc : Code := bodyOf Go.Proofs.Try.f127
noncomputable def spec_l00Src_nextF (n : Nat) : Fun := { id := 127, sp := spec_l00Src_nextsp, bs := spec_l00Src_nextbs, rs := spec_l00Src_nextrs, f := fun x y => spec_l00Src_next n y.1 }

theorem spec_l00Src_next_eq (n : Nat) (b0 : (List (Int)) × (Int × Int)) : runBody ([]) ty 62 n spec_l00Src_nextkp spec_l00Src_nextc Go.Proofs.Try.f127.results.toList spec_l00Src_nextrs spec_l00Src_nextsp spec_l00Src_nextbs ((), ()) (b0, ()) = spec_l00Src_next n b0 := by
  refine Eq.trans (b := spec_l00Src_next_t n b0) (by kernel_rfl) ?_
  rfl

theorem spec_l00Src_next_ok (n : Nat) : FunOk P (spec_l00Src_nextF n) :=
  funOk_mk (C := []) (N := 62) (kp := spec_l00Src_nextkp) (c := spec_l00Src_nextc) (n := n) (G := fun x y => spec_l00Src_next n y.1) follows (AllOk.mem (trivial : AllOk P ([]))) (by kernel_rfl : P.funcs[127]? = some Go.Proofs.Try.f127) (by kernel_rfl) (by kernel_rfl) (by kernel_rfl)
    (fun x y => spec_l00Src_next_eq n y.1) (fun _ _ => map_same (fun _ => rfl) _) (fun _ _ _ _ => rfl)

abbrev spec_l00Src_picksp : List Sp := [.ref 0, .v false (.int .i64)]
abbrev spec_l00Src_pickbs : List (Bs × Bool) := [(.var 139 (.pair (.list (.int .u8)) (.pair (.int .i64) (.int .u64))), true)]
abbrev spec_l00Src_pickrs : List (Bool × List Rp) := [(false, [.v false (.int .i64)])]
noncomputable def spec_l00Src_pickkp : Keep := { loop := fun id => match id with | _ => ([], []), join := fun id => match id with | _ => none }
noncomputable def spec_l00Src_pickc : Code := bodyOf Go.Proofs.Try.f84
noncomputable def spec_l00Src_pickF (n : Nat) : Fun := { id := 84, sp := spec_l00Src_picksp, bs := spec_l00Src_pickbs, rs := spec_l00Src_pickrs, f := fun x y => spec_l00Src_pick n x.2.1 y.1 }

theorem spec_l00Src_pick_eq (n : Nat) (a1 : Int) (b0 : (List (Int)) × (Int × Int)) : runBody ([spec_l00Src_nextF n]) ty 20 n spec_l00Src_pickkp spec_l00Src_pickc Go.Proofs.Try.f84.results.toList spec_l00Src_pickrs spec_l00Src_picksp spec_l00Src_pickbs ((), (a1, ())) (b0, ()) = spec_l00Src_pick n a1 b0 := by
  refine Eq.trans (b := spec_l00Src_pick_t n a1 b0) (by kernel_rfl) ?_
  rfl

theorem spec_l00Src_pick_ok (n : Nat) : FunOk P (spec_l00Src_pickF n) :=
  funOk_mk (C := [spec_l00Src_nextF n]) (N := 20) (kp := spec_l00Src_pickkp) (c := spec_l00Src_pickc) (n := n) (G := fun x y => spec_l00Src_pick n x.2.1 y.1) follows (AllOk.mem (⟨spec_l00Src_next_ok n, trivial⟩ : AllOk P ([spec_l00Src_nextF n]))) (by kernel_rfl : P.funcs[84]? = some Go.Proofs.Try.f84) (by kernel_rfl) (by kernel_rfl) (by kernel_rfl)
    (fun x y => spec_l00Src_pick_eq n x.2.1 y.1) (fun _ _ => map_same (fun _ => rfl) _) (fun _ _ _ _ => rfl)

abbrev spec_l01Abssp : List Sp := [.v false (.int .i64)]
abbrev spec_l01Absbs : List (Bs × Bool) := []
abbrev spec_l01Absrs : List (Bool × List Rp) := [(false, [.v false (.int .i64)])]
noncomputable def spec_l01Abskp : Keep := { loop := fun id => match id with | _ => ([], []), join := fun id => match id with | _ => none }
noncomputable def spec_l01Absc : Code := bodyOf Go.Proofs.Try.f129
noncomputable def spec_l01AbsF (n : Nat) : Fun := { id := 129, sp := spec_l01Abssp, bs := spec_l01Absbs, rs := spec_l01Absrs, f := fun x y => spec_l01Abs n x.1 }

theorem spec_l01Abs_eq (n : Nat) (a0 : Int) : runBody ([]) ty 8 n spec_l01Abskp spec_l01Absc Go.Proofs.Try.f129.results.toList spec_l01Absrs spec_l01Abssp spec_l01Absbs (a0, ()) () = spec_l01Abs n a0 := by
  refine Eq.trans (b := spec_l01Abs_t n a0) (by kernel_rfl) ?_
  rfl

theorem spec_l01Abs_ok (n : Nat) : FunOk P (spec_l01AbsF n) :=
  funOk_mk (C := []) (N := 8) (kp := spec_l01Abskp) (c := spec_l01Absc) (n := n) (G := fun x y => spec_l01Abs n x.1) follows (AllOk.mem (trivial : AllOk P ([]))) (by kernel_rfl : P.funcs[129]? = some Go.Proofs.Try.f129) (by kernel_rfl) (by kernel_rfl) (by kernel_rfl)
    (fun x y => spec_l01Abs_eq n x.1) (fun _ _ => map_same (fun _ => rfl) _) (fun _ _ _ _ => rfl)

abbrev spec_l01Gcdsp : List Sp := [.v false (.int .i64), .v false (.int .i64)]
abbrev spec_l01Gcdbs : List (Bs × Bool) := []
abbrev spec_l01Gcdrs : List (Bool × List Rp) := [(false, [.v false (.int .i64)])]
noncomputable def spec_l01Gcdkp : Keep := { loop := fun id => match id with | 1 => ([1, 0], []) | _ => ([], []), join := fun id => match id with | _ => none }
noncomputable def spec_l01Gcdc : Code := bodyOf Go.Proofs.Try.f128
noncomputable def spec_l01GcdF (n : Nat) : Fun := { id := 128, sp := spec_l01Gcdsp, bs := spec_l01Gcdbs, rs := spec_l01Gcdrs, f := fun x y => spec_l01Gcd n x.1 x.2.1 }

abbrev spec_l01Gcds1 (v1 : Int) (v0 : Int) : St := { env := [(1, .one (.sc (.int .i64 v1))), (0, .one (.sc (.int .i64 v0)))], bx := [], nx := 0 }
noncomputable abbrev spec_l01Gcdk0 (n : Nat) := kAt ([]) ty 14 0 n spec_l01Gcdkp spec_l01Gcdc [1, 0, 0] [] (ending ty 0 Go.Proofs.Try.f128.results.toList spec_l01Gcdrs spec_l01Gcdbs)
theorem spec_l01Gcd_l1_eq (n : Nat) : ∀ (k : Nat) (v1 : Int) (v0 : Int), iter (interp ([]) ty 14 0 n spec_l01Gcdkp (codeAt spec_l01Gcdc [1, 0, 0, 0])) (canon 0 (spec_l01Gcdkp.loop 1)) (spec_l01Gcdk0 n) k (spec_l01Gcds1 v1 v0) = spec_l01Gcd_l1 n k v1 v0
  | 0, _, _ => by kernel_rfl
  | k + 1, v1, v0 => by
    refine Eq.trans (b := spec_l01Gcd_t1 n (fun v1 v0 => iter (interp ([]) ty 14 0 n spec_l01Gcdkp (codeAt spec_l01Gcdc [1, 0, 0, 0])) (canon 0 (spec_l01Gcdkp.loop 1)) (spec_l01Gcdk0 n) k (spec_l01Gcds1 v1 v0)) v1 v0) (by kernel_rfl) ?_
    have e := congrArg (fun g => spec_l01Gcd_t1 n g v1 v0) (funext fun v1 => funext fun v0 => spec_l01Gcd_l1_eq n k v1 v0)
    exact e

theorem spec_l01Gcd_eq (n : Nat) (a0 : Int) (a1 : Int) : runBody ([]) ty 14 n spec_l01Gcdkp spec_l01Gcdc Go.Proofs.Try.f128.results.toList spec_l01Gcdrs spec_l01Gcdsp spec_l01Gcdbs (a0, (a1, ())) () = spec_l01Gcd n a0 a1 := by
  refine Eq.trans (b := spec_l01Gcd_t n (fun k v1 v0 => iter (interp ([]) ty 14 0 n spec_l01Gcdkp (codeAt spec_l01Gcdc [1, 0, 0, 0])) (canon 0 (spec_l01Gcdkp.loop 1)) (spec_l01Gcdk0 n) k (spec_l01Gcds1 v1 v0)) a0 a1) (by kernel_rfl) ?_
  have e := congrArg (fun h1 => spec_l01Gcd_t n h1 a0 a1) (funext fun k => funext fun v1 => funext fun v0 => spec_l01Gcd_l1_eq n k v1 v0)
  exact e

theorem spec_l01Gcd_ok (n : Nat) : FunOk P (spec_l01GcdF n) :=
  funOk_mk (C := []) (N := 14) (kp := spec_l01Gcdkp) (c := spec_l01Gcdc) (n := n) (G := fun x y => spec_l01Gcd n x.1 x.2.1) follows (AllOk.mem (trivial : AllOk P ([]))) (by kernel_rfl : P.funcs[128]? = some Go.Proofs.Try.f128) (by kernel_rfl) (by kernel_rfl) (by kernel_rfl)
    (fun x y => spec_l01Gcd_eq n x.1 x.2.1) (fun _ _ => map_same (fun _ => rfl) _) (fun _ _ _ _ => rfl)

abbrev spec_l00Insp : List Sp := [.v false (.int .i64), .v false (.int .i64), .v false (.int .i64)]
abbrev spec_l00Inbs : List (Bs × Bool) := []
abbrev spec_l00Inrs : List (Bool × List Rp) := [(false, [.v false .bool])]
noncomputable def spec_l00Inkp : Keep := { loop := fun id => match id with | _ => ([], []), join := fun id => match id with | _ => none }
noncomputable def spec_l00Inc : Code := bodyOf Go.Proofs.Try.f68
noncomputable def spec_l00InF (n : Nat) : Fun := { id := 68, sp := spec_l00Insp, bs := spec_l00Inbs, rs := spec_l00Inrs, f := fun x y => spec_l00In n x.1 x.2.1 x.2.2.1 }

theorem spec_l00In_eq (n : Nat) (a0 : Int) (a1 : Int) (a2 : Int) : runBody ([]) ty 15 n spec_l00Inkp spec_l00Inc Go.Proofs.Try.f68.results.toList spec_l00Inrs spec_l00Insp spec_l00Inbs (a0, (a1, (a2, ()))) () = spec_l00In n a0 a1 a2 := by
  refine Eq.trans (b := spec_l00In_t n a0 a1 a2) (by kernel_rfl) ?_
  rfl

theorem spec_l00In_ok (n : Nat) : FunOk P (spec_l00InF n) :=
  funOk_mk (C := []) (N := 15) (kp := spec_l00Inkp) (c := spec_l00Inc) (n := n) (G := fun x y => spec_l00In n x.1 x.2.1 x.2.2.1) follows (AllOk.mem (trivial : AllOk P ([]))) (by kernel_rfl : P.funcs[68]? = some Go.Proofs.Try.f68) (by kernel_rfl) (by kernel_rfl) (by kernel_rfl)
    (fun x y => spec_l00In_eq n x.1 x.2.1 x.2.2.1) (fun _ _ => map_same (fun _ => rfl) _) (fun _ _ _ _ => rfl)

abbrev spec_l01Oksp : List Sp := [.v true tF]
abbrev spec_l01Okbs : List (Bs × Bool) := []
abbrev spec_l01Okrs : List (Bool × List Rp) := [(false, [.v false .bool])]
noncomputable def spec_l01Okkp : Keep := { loop := fun id => match id with | _ => ([], []), join := fun id => match id with | _ => none }
noncomputable def spec_l01Okc : Code := bodyOf Go.Proofs.Try.f91
noncomputable def spec_l01OkF (n : Nat) : Fun := { id := 91, sp := spec_l01Oksp, bs := spec_l01Okbs, rs := spec_l01Okrs, f := fun x y => spec_l01Ok n x.1 }

theorem spec_l01Ok_eq (n : Nat) (a0 : (Int) × (Int)) : runBody ([spec_l00InF n, spec_l01AbsF n, spec_l01GcdF n]) ty 20 n spec_l01Okkp spec_l01Okc Go.Proofs.Try.f91.results.toList spec_l01Okrs spec_l01Oksp spec_l01Okbs (a0, ()) () = spec_l01Ok n a0 := by
  refine Eq.trans (b := spec_l01Ok_t n a0) (by kernel_rfl) ?_
  rfl

theorem spec_l01Ok_ok (n : Nat) : FunOk P (spec_l01OkF n) :=
  funOk_mk (C := [spec_l00InF n, spec_l01AbsF n, spec_l01GcdF n]) (N := 20) (kp := spec_l01Okkp) (c := spec_l01Okc) (n := n) (G := fun x y => spec_l01Ok n x.1) follows (AllOk.mem (⟨spec_l00In_ok n, ⟨spec_l01Abs_ok n, ⟨spec_l01Gcd_ok n, trivial⟩⟩⟩ : AllOk P ([spec_l00InF n, spec_l01AbsF n, spec_l01GcdF n]))) (by kernel_rfl : P.funcs[91]? = some Go.Proofs.Try.f91) (by kernel_rfl) (by kernel_rfl) (by kernel_rfl)
    (fun x y => spec_l01Ok_eq n x.1) (fun _ _ => map_same (fun _ => rfl) _) (fun _ _ _ _ => rfl)

abbrev spec_l01Reducedsp : List Sp := [.v false (.int .i64), .v false (.int .i64)]
abbrev spec_l01Reducedbs : List (Bs × Bool) := []
abbrev spec_l01Reducedrs : List (Bool × List Rp) := [(true, [.v false tF]), (false, [.v false (.int .i64)])]
noncomputable def spec_l01Reducedkp : Keep := { loop := fun id => match id with | _ => ([], []), join := fun id => match id with | _ => none }
noncomputable def spec_l01Reducedc : Code := bodyOf Go.Proofs.Try.f85
noncomputable def spec_l01ReducedF (n : Nat) : Fun := { id := 85, sp := spec_l01Reducedsp, bs := spec_l01Reducedbs, rs := spec_l01Reducedrs, f := fun x y => spec_l01Reduced n x.1 x.2.1 }

theorem spec_l01Reduced_eq (n : Nat) (a0 : Int) (a1 : Int) : runBody ([spec_l01AbsF n, spec_l01GcdF n, spec_l01OkF n]) ty 33 n spec_l01Reducedkp spec_l01Reducedc Go.Proofs.Try.f85.results.toList spec_l01Reducedrs spec_l01Reducedsp spec_l01Reducedbs (a0, (a1, ())) () = spec_l01Reduced n a0 a1 := by
  refine Eq.trans (b := spec_l01Reduced_t n a0 a1) (by kernel_rfl) ?_
  rfl

theorem spec_l01Reduced_ok (n : Nat) : FunOk P (spec_l01ReducedF n) :=
  funOk_mk (C := [spec_l01AbsF n, spec_l01GcdF n, spec_l01OkF n]) (N := 33) (kp := spec_l01Reducedkp) (c := spec_l01Reducedc) (n := n) (G := fun x y => spec_l01Reduced n x.1 x.2.1) follows (AllOk.mem (⟨spec_l01Abs_ok n, ⟨spec_l01Gcd_ok n, ⟨spec_l01Ok_ok n, trivial⟩⟩⟩ : AllOk P ([spec_l01AbsF n, spec_l01GcdF n, spec_l01OkF n]))) (by kernel_rfl : P.funcs[85]? = some Go.Proofs.Try.f85) (by kernel_rfl) (by kernel_rfl) (by kernel_rfl)
    (fun x y => spec_l01Reduced_eq n x.1 x.2.1) (fun _ _ => map_same (fun _ => rfl) _) (fun _ _ _ _ => rfl)

abbrev spec_P6Fracsp : List Sp := [.v false (.list (.int .u8))]
abbrev spec_P6Fracbs : List (Bs × Bool) := []
abbrev spec_P6Fracrs : List (Bool × List Rp) := [(true, [.v false tF])]
noncomputable def spec_P6Frackp : Keep := { loop := fun id => match id with | _ => ([], []), join := fun id => match id with | _ => none }
noncomputable def spec_P6Fracc : Code := bodyOf Go.Proofs.Try.f25
noncomputable def spec_P6FracF (n : Nat) : Fun := { id := 25, sp := spec_P6Fracsp, bs := spec_P6Fracbs, rs := spec_P6Fracrs, f := fun x y => spec_P6Frac n x.1 }

theorem spec_P6Frac_eq (n : Nat) (a0 : List (Int)) : runBody ([spec_l00FromF n, spec_l00Src_pickF n, spec_l01ReducedF n]) ty 19 n spec_P6Frackp spec_P6Fracc Go.Proofs.Try.f25.results.toList spec_P6Fracrs spec_P6Fracsp spec_P6Fracbs (a0, ()) () = spec_P6Frac n a0 := by
  refine Eq.trans (b := spec_P6Frac_t n a0) (by kernel_rfl) ?_
  rfl

theorem spec_P6Frac_ok (n : Nat) : FunOk P (spec_P6FracF n) :=
  funOk_mk (C := [spec_l00FromF n, spec_l00Src_pickF n, spec_l01ReducedF n]) (N := 19) (kp := spec_P6Frackp) (c := spec_P6Fracc) (n := n) (G := fun x y => spec_P6Frac n x.1) follows (AllOk.mem (⟨spec_l00From_ok n, ⟨spec_l00Src_pick_ok n, ⟨spec_l01Reduced_ok n, trivial⟩⟩⟩ : AllOk P ([spec_l00FromF n, spec_l00Src_pickF n, spec_l01ReducedF n]))) (by kernel_rfl : P.funcs[25]? = some Go.Proofs.Try.f25) (by kernel_rfl) (by kernel_rfl) (by kernel_rfl)
    (fun x y => spec_P6Frac_eq n x.1) (fun _ _ => map_same (fun _ => rfl) _) (fun _ _ _ _ => rfl)

abbrev spec_l00Src_amongsp : List Sp := [.ref 0, .sl 1]
abbrev spec_l00Src_amongbs : List (Bs × Bool) := [(.var 139 (.pair (.list (.int .u8)) (.pair (.int .i64) (.int .u64))), true), (.row  (.int .i64), true)]
abbrev spec_l00Src_amongrs : List (Bool × List Rp) := [(false, [.v false (.int .i64)])]
noncomputable def spec_l00Src_amongkp : Keep := { loop := fun id => match id with | _ => ([], []), join := fun id => match id with | _ => none }
noncomputable def spec_l00Src_amongc : Code := bodyOf Go.Proofs.Try.f115
noncomputable def spec_l00Src_amongF (n : Nat) : Fun := { id := 115, sp := spec_l00Src_amongsp, bs := spec_l00Src_amongbs, rs := spec_l00Src_amongrs, f := fun x y => spec_l00Src_among n y.1 y.2.1 }

theorem spec_l00Src_among_eq (n : Nat) (b0 : (List (Int)) × (Int × Int)) (b1 : List (Int)) : runBody ([spec_l00Src_pickF n]) ty 12 n spec_l00Src_amongkp spec_l00Src_amongc Go.Proofs.Try.f115.results.toList spec_l00Src_amongrs spec_l00Src_amongsp spec_l00Src_amongbs ((), ((), ())) (b0, (b1, ())) = spec_l00Src_among n b0 b1 := by
  refine Eq.trans (b := spec_l00Src_among_t n b0 b1) (by kernel_rfl) ?_
  rfl

theorem spec_l00Src_among_ok (n : Nat) : FunOk P (spec_l00Src_amongF n) :=
  funOk_mk (C := [spec_l00Src_pickF n]) (N := 12) (kp := spec_l00Src_amongkp) (c := spec_l00Src_amongc) (n := n) (G := fun x y => spec_l00Src_among n y.1 y.2.1) follows (AllOk.mem (⟨spec_l00Src_pick_ok n, trivial⟩ : AllOk P ([spec_l00Src_pickF n]))) (by kernel_rfl : P.funcs[115]? = some Go.Proofs.Try.f115) (by kernel_rfl) (by kernel_rfl) (by kernel_rfl)
    (fun x y => spec_l00Src_among_eq n y.1 y.2.1) (fun _ _ => map_same (fun _ => rfl) _) (fun _ _ _ _ => rfl)

abbrev spec_l04Smallsp : List Sp := [.ref 0]
abbrev spec_l04Smallbs : List (Bs × Bool) := [(.var 139 (.pair (.list (.int .u8)) (.pair (.int .i64) (.int .u64))), true)]
abbrev spec_l04Smallrs : List (Bool × List Rp) := [(true, [.v false tF])]
noncomputable def spec_l04Smallkp : Keep := { loop := fun id => match id with | _ => ([], []), join := fun id => match id with | _ => none }
noncomputable def spec_l04Smallc : Code := bodyOf Go.Proofs.Try.f73
noncomputable def spec_l04SmallF (n : Nat) : Fun := { id := 73, sp := spec_l04Smallsp, bs := spec_l04Smallbs, rs := spec_l04Smallrs, f := fun x y => spec_l04Small n y.1 }

theorem spec_l04Small_eq (n : Nat) (b0 : (List (Int)) × (Int × Int)) : runBody ([spec_l00Src_pickF n, spec_l00Src_amongF n, spec_l01ReducedF n]) ty 16 n spec_l04Smallkp spec_l04Smallc Go.Proofs.Try.f73.results.toList spec_l04Smallrs spec_l04Smallsp spec_l04Smallbs ((), ()) (b0, ()) = spec_l04Small n b0 := by
  refine Eq.trans (b := spec_l04Small_t n b0) (by kernel_rfl) ?_
  rfl

theorem spec_l04Small_ok (n : Nat) : FunOk P (spec_l04SmallF n) :=
  funOk_mk (C := [spec_l00Src_pickF n, spec_l00Src_amongF n, spec_l01ReducedF n]) (N := 16) (kp := spec_l04Smallkp) (c := spec_l04Smallc) (n := n) (G := fun x y => spec_l04Small n y.1) follows (AllOk.mem (⟨spec_l00Src_pick_ok n, ⟨spec_l00Src_among_ok n, ⟨spec_l01Reduced_ok n, trivial⟩⟩⟩ : AllOk P ([spec_l00Src_pickF n, spec_l00Src_amongF n, spec_l01ReducedF n]))) (by kernel_rfl : P.funcs[73]? = some Go.Proofs.Try.f73) (by kernel_rfl) (by kernel_rfl) (by kernel_rfl)
    (fun x y => spec_l04Small_eq n y.1) (fun _ _ => map_same (fun _ => rfl) _) (fun _ _ _ _ => rfl)

abbrev spec_P6Listsp : List Sp := [.v false (.list (.int .u8))]
abbrev spec_P6Listbs : List (Bs × Bool) := []
abbrev spec_P6Listrs : List (Bool × List Rp) := [(false, [.new  tF])]
noncomputable def spec_P6Listkp : Keep := { loop := fun id => match id with | 4 => ([5, 3, 4], []) | _ => ([], []), join := fun id => match id with | _ => none }
noncomputable def spec_P6Listc : Code := bodyOf Go.Proofs.Try.f24
noncomputable def spec_P6ListF (n : Nat) : Fun := { id := 24, sp := spec_P6Listsp, bs := spec_P6Listbs, rs := spec_P6Listrs, f := fun x y => spec_P6List n x.1 }

noncomputable abbrev spec_P6Listcs (n : Nat) : List Fun := [spec_l00FromF n, spec_l00Src_pickF n, spec_l04SmallF n]
abbrev spec_P6Lists4 (v5 : Int) (b0_0 : List (Int)) (b0_1 : Int) (b0_2 : Int) (b1 : List (Int × Int)) : St := { env := [(5, .one (.sc (.int .i64 v5))), (3, .one (.ref 0 0 0 0 0 0)), (4, .one (.slice 1 0 none))], bx := [(0, .var 139 [.list true (.int .u8) b0_0, .sc (.int .i64 b0_1), .sc (.int .u64 b0_2)]), (1, .row 0 tF b1)], nx := 2 }
noncomputable abbrev spec_P6Listk0 (n : Nat) := kAt (spec_P6Listcs n) ty 22 0 n spec_P6Listkp spec_P6Listc [1, 1, 1, 0, 1, 0] [] (ending ty 0 Go.Proofs.Try.f24.results.toList spec_P6Listrs spec_P6Listbs)
theorem spec_P6List_l4_eq (n : Nat) : ∀ (k : Nat) (v5 : Int) (b0_0 : List (Int)) (b0_1 : Int) (b0_2 : Int) (b1 : List (Int × Int)), iter (interp (spec_P6Listcs n) ty 22 0 n spec_P6Listkp (codeAt spec_P6Listc [1, 1, 1, 0, 1, 0, 0])) (canon 0 (spec_P6Listkp.loop 4)) (spec_P6Listk0 n) k (spec_P6Lists4 v5 b0_0 b0_1 b0_2 b1) = spec_P6List_l4 n k v5 b0_0 b0_1 b0_2 b1
  | 0, _, _, _, _, _ => by kernel_rfl
  | k + 1, v5, b0_0, b0_1, b0_2, b1 => by
    refine Eq.trans (b := spec_P6List_t4 n (fun v5 b0_0 b0_1 b0_2 b1 => iter (interp (spec_P6Listcs n) ty 22 0 n spec_P6Listkp (codeAt spec_P6Listc [1, 1, 1, 0, 1, 0, 0])) (canon 0 (spec_P6Listkp.loop 4)) (spec_P6Listk0 n) k (spec_P6Lists4 v5 b0_0 b0_1 b0_2 b1)) v5 b0_0 b0_1 b0_2 b1) (by kernel_rfl) ?_
    have e := congrArg (fun g => spec_P6List_t4 n g v5 b0_0 b0_1 b0_2 b1) (funext fun v5 => funext fun b0_0 => funext fun b0_1 => funext fun b0_2 => funext fun b1 => spec_P6List_l4_eq n k v5 b0_0 b0_1 b0_2 b1)
    exact e

theorem spec_P6List_eq (n : Nat) (a0 : List (Int)) : runBody (spec_P6Listcs n) ty 22 n spec_P6Listkp spec_P6Listc Go.Proofs.Try.f24.results.toList spec_P6Listrs spec_P6Listsp spec_P6Listbs (a0, ()) () = spec_P6List n a0 := by
  refine Eq.trans (b := spec_P6List_t n (fun k v5 b0_0 b0_1 b0_2 b1 => iter (interp (spec_P6Listcs n) ty 22 0 n spec_P6Listkp (codeAt spec_P6Listc [1, 1, 1, 0, 1, 0, 0])) (canon 0 (spec_P6Listkp.loop 4)) (spec_P6Listk0 n) k (spec_P6Lists4 v5 b0_0 b0_1 b0_2 b1)) a0) (by kernel_rfl) ?_
  have e := congrArg (fun h4 => spec_P6List_t n h4 a0) (funext fun k => funext fun v5 => funext fun b0_0 => funext fun b0_1 => funext fun b0_2 => funext fun b1 => spec_P6List_l4_eq n k v5 b0_0 b0_1 b0_2 b1)
  exact e

theorem spec_P6List_ok (n : Nat) : FunOk P (spec_P6ListF n) :=
  funOk_mk (C := [spec_l00FromF n, spec_l00Src_pickF n, spec_l04SmallF n]) (N := 22) (kp := spec_P6Listkp) (c := spec_P6Listc) (n := n) (G := fun x y => spec_P6List n x.1) follows (AllOk.mem (⟨spec_l00From_ok n, ⟨spec_l00Src_pick_ok n, ⟨spec_l04Small_ok n, trivial⟩⟩⟩ : AllOk P ([spec_l00FromF n, spec_l00Src_pickF n, spec_l04SmallF n]))) (by kernel_rfl : P.funcs[24]? = some Go.Proofs.Try.f24) (by kernel_rfl) (by kernel_rfl) (by kernel_rfl)
    (fun x y => spec_P6List_eq n x.1) (fun _ _ => map_same (fun _ => rfl) _) (fun _ _ _ _ => rfl)

abbrev spec_P6Picksp : List Sp := [.v false (.list (.int .u8)), .v false (.int .i64)]
abbrev spec_P6Pickbs : List (Bs × Bool) := []
abbrev spec_P6Pickrs : List (Bool × List Rp) := [(false, [.v false (.int .i64)])]
noncomputable def spec_P6Pickkp : Keep := { loop := fun id => match id with | _ => ([], []), join := fun id => match id with | _ => none }
noncomputable def spec_P6Pickc : Code := bodyOf Go.Proofs.Try.f29
noncomputable def spec_P6PickF (n : Nat) : Fun := { id := 29, sp := spec_P6Picksp, bs := spec_P6Pickbs, rs := spec_P6Pickrs, f := fun x y => spec_P6Pick n x.1 x.2.1 }

theorem spec_P6Pick_eq (n : Nat) (a0 : List (Int)) (a1 : Int) : runBody ([spec_l00FromF n, spec_l00Src_pickF n]) ty 9 n spec_P6Pickkp spec_P6Pickc Go.Proofs.Try.f29.results.toList spec_P6Pickrs spec_P6Picksp spec_P6Pickbs (a0, (a1, ())) () = spec_P6Pick n a0 a1 := by
  refine Eq.trans (b := spec_P6Pick_t n a0 a1) (by kernel_rfl) ?_
  rfl

theorem spec_P6Pick_ok (n : Nat) : FunOk P (spec_P6PickF n) :=
  funOk_mk (C := [spec_l00FromF n, spec_l00Src_pickF n]) (N := 9) (kp := spec_P6Pickkp) (c := spec_P6Pickc) (n := n) (G := fun x y => spec_P6Pick n x.1 x.2.1) follows (AllOk.mem (⟨spec_l00From_ok n, ⟨spec_l00Src_pick_ok n, trivial⟩⟩ : AllOk P ([spec_l00FromF n, spec_l00Src_pickF n]))) (by kernel_rfl : P.funcs[29]? = some Go.Proofs.Try.f29) (by kernel_rfl) (by kernel_rfl) (by kernel_rfl)
    (fun x y => spec_P6Pick_eq n x.1 x.2.1) (fun _ _ => map_same (fun _ => rfl) _) (fun _ _ _ _ => rfl)

abbrev spec_l04Fracssp : List Sp := [.v false (.list tF)]
abbrev spec_l04Fracsbs : List (Bs × Bool) := []
abbrev spec_l04Fracsrs : List (Bool × List Rp) := [(false, [.v false .bool])]
noncomputable def spec_l04Fracskp : Keep := { loop := fun id => match id with | 2 => ([3, 0], []) | _ => ([], []), join := fun id => match id with | _ => none }
noncomputable def spec_l04Fracsc : Code := bodyOf Go.Proofs.Try.f67
noncomputable def spec_l04FracsF (n : Nat) : Fun := { id := 67, sp := spec_l04Fracssp, bs := spec_l04Fracsbs, rs := spec_l04Fracsrs, f := fun x y => spec_l04Fracs n x.1 }

abbrev spec_l04Fracss2 (v3 : Int) (v0 : List (Int × Int)) : St := { env := [(3, .one (.sc (.int .i64 v3))), (0, .one (.list true tF v0))], bx := [], nx := 0 }
noncomputable abbrev spec_l04Fracsk0 (n : Nat) := kAt ([spec_l01OkF n]) ty 16 0 n spec_l04Fracskp spec_l04Fracsc [1, 0, 1, 0] [] (ending ty 0 Go.Proofs.Try.f67.results.toList spec_l04Fracsrs spec_l04Fracsbs)
theorem spec_l04Fracs_l2_eq (n : Nat) : ∀ (k : Nat) (v3 : Int) (v0 : List (Int × Int)), iter (interp ([spec_l01OkF n]) ty 16 0 n spec_l04Fracskp (codeAt spec_l04Fracsc [1, 0, 1, 0, 0])) (canon 0 (spec_l04Fracskp.loop 2)) (spec_l04Fracsk0 n) k (spec_l04Fracss2 v3 v0) = spec_l04Fracs_l2 n k v3 v0
  | 0, _, _ => by kernel_rfl
  | k + 1, v3, v0 => by
    refine Eq.trans (b := spec_l04Fracs_t2 n (fun v3 v0 => iter (interp ([spec_l01OkF n]) ty 16 0 n spec_l04Fracskp (codeAt spec_l04Fracsc [1, 0, 1, 0, 0])) (canon 0 (spec_l04Fracskp.loop 2)) (spec_l04Fracsk0 n) k (spec_l04Fracss2 v3 v0)) v3 v0) (by kernel_rfl) ?_
    have e := congrArg (fun g => spec_l04Fracs_t2 n g v3 v0) (funext fun v3 => funext fun v0 => spec_l04Fracs_l2_eq n k v3 v0)
    exact e

theorem spec_l04Fracs_eq (n : Nat) (a0 : List (Int × Int)) : runBody ([spec_l01OkF n]) ty 16 n spec_l04Fracskp spec_l04Fracsc Go.Proofs.Try.f67.results.toList spec_l04Fracsrs spec_l04Fracssp spec_l04Fracsbs (a0, ()) () = spec_l04Fracs n a0 := by
  refine Eq.trans (b := spec_l04Fracs_t n (fun k v3 v0 => iter (interp ([spec_l01OkF n]) ty 16 0 n spec_l04Fracskp (codeAt spec_l04Fracsc [1, 0, 1, 0, 0])) (canon 0 (spec_l04Fracskp.loop 2)) (spec_l04Fracsk0 n) k (spec_l04Fracss2 v3 v0)) a0) (by kernel_rfl) ?_
  have e := congrArg (fun h2 => spec_l04Fracs_t n h2 a0) (funext fun k => funext fun v3 => funext fun v0 => spec_l04Fracs_l2_eq n k v3 v0)
  exact e

theorem spec_l04Fracs_ok (n : Nat) : FunOk P (spec_l04FracsF n) :=
  funOk_mk (C := [spec_l01OkF n]) (N := 16) (kp := spec_l04Fracskp) (c := spec_l04Fracsc) (n := n) (G := fun x y => spec_l04Fracs n x.1) follows (AllOk.mem (⟨spec_l01Ok_ok n, trivial⟩ : AllOk P ([spec_l01OkF n]))) (by kernel_rfl : P.funcs[67]? = some Go.Proofs.Try.f67) (by kernel_rfl) (by kernel_rfl) (by kernel_rfl)
    (fun x y => spec_l04Fracs_eq n x.1) (fun _ _ => map_same (fun _ => rfl) _) (fun _ _ _ _ => rfl)

abbrev spec_l04Pairsp : List Sp := [.v false (.int .i64), .v false (.int .i64), .v true tF]
abbrev spec_l04Pairbs : List (Bs × Bool) := []
abbrev spec_l04Pairrs : List (Bool × List Rp) := [(true, [.v false tO])]
noncomputable def spec_l04Pairkp : Keep := { loop := fun id => match id with | _ => ([], []), join := fun id => match id with | _ => none }
noncomputable def spec_l04Pairc : Code := bodyOf Go.Proofs.Try.f103
noncomputable def spec_l04PairF (n : Nat) : Fun := { id := 103, sp := spec_l04Pairsp, bs := spec_l04Pairbs, rs := spec_l04Pairrs, f := fun x y => spec_l04Pair n x.1 x.2.1 x.2.2.1 }

theorem spec_l04Pair_eq (n : Nat) (a0 : Int) (a1 : Int) (a2 : (Int) × (Int)) : runBody ([]) ty 17 n spec_l04Pairkp spec_l04Pairc Go.Proofs.Try.f103.results.toList spec_l04Pairrs spec_l04Pairsp spec_l04Pairbs (a0, (a1, (a2, ()))) () = spec_l04Pair n a0 a1 a2 := by
  refine Eq.trans (b := spec_l04Pair_t n a0 a1 a2) (by kernel_rfl) ?_
  rfl

theorem spec_l04Pair_ok (n : Nat) : FunOk P (spec_l04PairF n) :=
  funOk_mk (C := []) (N := 17) (kp := spec_l04Pairkp) (c := spec_l04Pairc) (n := n) (G := fun x y => spec_l04Pair n x.1 x.2.1 x.2.2.1) follows (AllOk.mem (trivial : AllOk P ([]))) (by kernel_rfl : P.funcs[103]? = some Go.Proofs.Try.f103) (by kernel_rfl) (by kernel_rfl) (by kernel_rfl)
    (fun x y => spec_l04Pair_eq n x.1 x.2.1 x.2.2.1) (fun _ _ => map_same (fun _ => rfl) _) (fun _ _ _ _ => rfl)

abbrev spec_RingTablesp : List Sp := [.v false (.list tF), .v true tF]
abbrev spec_RingTablebs : List (Bs × Bool) := []
abbrev spec_RingTablers : List (Bool × List Rp) := [(true, [.v false (.pair (.int .i64) (.pair (.list tO) (.pair .bool tF)))]), (false, [.v false (.int .i64)])]
noncomputable def spec_RingTablekp : Keep := { loop := fun id => match id with | 8 => ([8, 7, 0, 6, 4], [.box 0 1 tO]) | _ => ([], []), join := fun id => match id with | _ => none }
noncomputable def spec_RingTablec : Code := bodyOf Go.Proofs.Try.f34
noncomputable def spec_RingTableF (n : Nat) : Fun := { id := 34, sp := spec_RingTablesp, bs := spec_RingTablebs, rs := spec_RingTablers, f := fun x y => spec_RingTable n x.1 x.2.1 }

noncomputable abbrev spec_RingTablecs (n : Nat) : List Fun := [spec_l04FracsF n, spec_l01OkF n, spec_l00InF n, spec_l04PairF n]
abbrev spec_RingTables8 (v8 : Int) (v0 : List (Int × Int)) (v6 : Int) (b0_0 : Int) (b0_2 : Bool) (b0_3 : Int) (b0_4 : Int) (b1_0 : Int) (b1_2 : Bool) (b1_3 : Int) (b1_4 : Int) (b2 : List OB9) : St := { env := [(8, .one (.sc (.int .i64 v8))), (7, .one (.ref 0 0 0 0 0 0)), (0, .one (.list true tF v0)), (6, .one (.sc (.int .i64 v6))), (4, .one (.ref 1 0 0 0 0 0))], bx := [(0, .var 28 [.sc (.int .i64 b0_0), .slice 2 0 none, .sc (.bool b0_2), .sc (.int .i64 b0_3), .sc (.int .i64 b0_4)]), (1, .var 28 [.sc (.int .i64 b1_0), .sc (.slice none 0 0), .sc (.bool b1_2), .sc (.int .i64 b1_3), .sc (.int .i64 b1_4)]), (2, .row 0 tO b2)], nx := 3 }
noncomputable abbrev spec_RingTablek0 (n : Nat) := kAt (spec_RingTablecs n) ty 48 0 n spec_RingTablekp spec_RingTablec [1, 1, 1, 1, 1, 0, 1, 0] [] (ending ty 0 Go.Proofs.Try.f34.results.toList spec_RingTablers spec_RingTablebs)
theorem spec_RingTable_l8_eq (n : Nat) : ∀ (k : Nat) (v8 : Int) (v0 : List (Int × Int)) (v6 : Int) (b0_0 : Int) (b0_2 : Bool) (b0_3 : Int) (b0_4 : Int) (b1_0 : Int) (b1_2 : Bool) (b1_3 : Int) (b1_4 : Int) (b2 : List OB9), iter (interp (spec_RingTablecs n) ty 48 0 n spec_RingTablekp (codeAt spec_RingTablec [1, 1, 1, 1, 1, 0, 1, 0, 0])) (canon 0 (spec_RingTablekp.loop 8)) (spec_RingTablek0 n) k (spec_RingTables8 v8 v0 v6 b0_0 b0_2 b0_3 b0_4 b1_0 b1_2 b1_3 b1_4 b2) = spec_RingTable_l8 n k v8 v0 v6 b0_0 b0_2 b0_3 b0_4 b1_0 b1_2 b1_3 b1_4 b2
  | 0, _, _, _, _, _, _, _, _, _, _, _, _ => by kernel_rfl
  | k + 1, v8, v0, v6, b0_0, b0_2, b0_3, b0_4, b1_0, b1_2, b1_3, b1_4, b2 => by
    refine Eq.trans (b := spec_RingTable_t8 n (fun v8 v0 v6 b0_0 b0_2 b0_3 b0_4 b1_0 b1_2 b1_3 b1_4 b2 => iter (interp (spec_RingTablecs n) ty 48 0 n spec_RingTablekp (codeAt spec_RingTablec [1, 1, 1, 1, 1, 0, 1, 0, 0])) (canon 0 (spec_RingTablekp.loop 8)) (spec_RingTablek0 n) k (spec_RingTables8 v8 v0 v6 b0_0 b0_2 b0_3 b0_4 b1_0 b1_2 b1_3 b1_4 b2)) v8 v0 v6 b0_0 b0_2 b0_3 b0_4 b1_0 b1_2 b1_3 b1_4 b2) (by kernel_rfl) ?_
    have e := congrArg (fun g => spec_RingTable_t8 n g v8 v0 v6 b0_0 b0_2 b0_3 b0_4 b1_0 b1_2 b1_3 b1_4 b2) (funext fun v8 => funext fun v0 => funext fun v6 => funext fun b0_0 => funext fun b0_2 => funext fun b0_3 => funext fun b0_4 => funext fun b1_0 => funext fun b1_2 => funext fun b1_3 => funext fun b1_4 => funext fun b2 => spec_RingTable_l8_eq n k v8 v0 v6 b0_0 b0_2 b0_3 b0_4 b1_0 b1_2 b1_3 b1_4 b2)
    exact e

theorem spec_RingTable_eq (n : Nat) (a0 : List (Int × Int)) (a1 : (Int) × (Int)) : runBody (spec_RingTablecs n) ty 48 n spec_RingTablekp spec_RingTablec Go.Proofs.Try.f34.results.toList spec_RingTablers spec_RingTablesp spec_RingTablebs (a0, (a1, ())) () = spec_RingTable n a0 a1 := by
  refine Eq.trans (b := spec_RingTable_t n (fun k v8 v0 v6 b0_0 b0_2 b0_3 b0_4 b1_0 b1_2 b1_3 b1_4 b2 => iter (interp (spec_RingTablecs n) ty 48 0 n spec_RingTablekp (codeAt spec_RingTablec [1, 1, 1, 1, 1, 0, 1, 0, 0])) (canon 0 (spec_RingTablekp.loop 8)) (spec_RingTablek0 n) k (spec_RingTables8 v8 v0 v6 b0_0 b0_2 b0_3 b0_4 b1_0 b1_2 b1_3 b1_4 b2)) a0 a1) (by kernel_rfl) ?_
  have e := congrArg (fun h8 => spec_RingTable_t n h8 a0 a1) (funext fun k => funext fun v8 => funext fun v0 => funext fun v6 => funext fun b0_0 => funext fun b0_2 => funext fun b0_3 => funext fun b0_4 => funext fun b1_0 => funext fun b1_2 => funext fun b1_3 => funext fun b1_4 => funext fun b2 => spec_RingTable_l8_eq n k v8 v0 v6 b0_0 b0_2 b0_3 b0_4 b1_0 b1_2 b1_3 b1_4 b2)
  exact e

theorem spec_RingTable_ok (n : Nat) : FunOk P (spec_RingTableF n) :=
  funOk_mk (C := [spec_l04FracsF n, spec_l01OkF n, spec_l00InF n, spec_l04PairF n]) (N := 48) (kp := spec_RingTablekp) (c := spec_RingTablec) (n := n) (G := fun x y => spec_RingTable n x.1 x.2.1) follows (AllOk.mem (⟨spec_l04Fracs_ok n, ⟨spec_l01Ok_ok n, ⟨spec_l00In_ok n, ⟨spec_l04Pair_ok n, trivial⟩⟩⟩⟩ : AllOk P ([spec_l04FracsF n, spec_l01OkF n, spec_l00InF n, spec_l04PairF n]))) (by kernel_rfl : P.funcs[34]? = some Go.Proofs.Try.f34) (by kernel_rfl) (by kernel_rfl) (by kernel_rfl)
    (fun x y => spec_RingTable_eq n x.1 x.2.1) (fun _ _ => map_same (fun _ => rfl) _) (fun _ _ _ _ => rfl)

abbrev spec_SameFracssp : List Sp := [.v false (.list tF), .v false (.list tF)]
abbrev spec_SameFracsbs : List (Bs × Bool) := []
abbrev spec_SameFracsrs : List (Bool × List Rp) := [(false, [.v false .bool])]
noncomputable def spec_SameFracskp : Keep := { loop := fun id => match id with | 4 => ([5, 1, 0], []) | _ => ([], []), join := fun id => match id with | _ => none }
noncomputable def spec_SameFracsc : Code := bodyOf Go.Proofs.Try.f13
noncomputable def spec_SameFracsF (n : Nat) : Fun := { id := 13, sp := spec_SameFracssp, bs := spec_SameFracsbs, rs := spec_SameFracsrs, f := fun x y => spec_SameFracs n x.1 x.2.1 }

abbrev spec_SameFracss4 (v5 : Int) (v1 : List (Int × Int)) (v0 : List (Int × Int)) : St := { env := [(5, .one (.sc (.int .i64 v5))), (1, .one (.list true tF v1)), (0, .one (.list true tF v0))], bx := [], nx := 0 }
noncomputable abbrev spec_SameFracsk0 (n : Nat) := kAt ([]) ty 26 0 n spec_SameFracskp spec_SameFracsc [1, 1, 0, 1, 0] [] (ending ty 0 Go.Proofs.Try.f13.results.toList spec_SameFracsrs spec_SameFracsbs)
theorem spec_SameFracs_l4_eq (n : Nat) : ∀ (k : Nat) (v5 : Int) (v1 : List (Int × Int)) (v0 : List (Int × Int)), iter (interp ([]) ty 26 0 n spec_SameFracskp (codeAt spec_SameFracsc [1, 1, 0, 1, 0, 0])) (canon 0 (spec_SameFracskp.loop 4)) (spec_SameFracsk0 n) k (spec_SameFracss4 v5 v1 v0) = spec_SameFracs_l4 n k v5 v1 v0
  | 0, _, _, _ => by kernel_rfl
  | k + 1, v5, v1, v0 => by
    refine Eq.trans (b := spec_SameFracs_t4 n (fun v5 v1 v0 => iter (interp ([]) ty 26 0 n spec_SameFracskp (codeAt spec_SameFracsc [1, 1, 0, 1, 0, 0])) (canon 0 (spec_SameFracskp.loop 4)) (spec_SameFracsk0 n) k (spec_SameFracss4 v5 v1 v0)) v5 v1 v0) (by kernel_rfl) ?_
    have e := congrArg (fun g => spec_SameFracs_t4 n g v5 v1 v0) (funext fun v5 => funext fun v1 => funext fun v0 => spec_SameFracs_l4_eq n k v5 v1 v0)
    exact e

theorem spec_SameFracs_eq (n : Nat) (a0 : List (Int × Int)) (a1 : List (Int × Int)) : runBody ([]) ty 26 n spec_SameFracskp spec_SameFracsc Go.Proofs.Try.f13.results.toList spec_SameFracsrs spec_SameFracssp spec_SameFracsbs (a0, (a1, ())) () = spec_SameFracs n a0 a1 := by
  refine Eq.trans (b := spec_SameFracs_t n (fun k v5 v1 v0 => iter (interp ([]) ty 26 0 n spec_SameFracskp (codeAt spec_SameFracsc [1, 1, 0, 1, 0, 0])) (canon 0 (spec_SameFracskp.loop 4)) (spec_SameFracsk0 n) k (spec_SameFracss4 v5 v1 v0)) a0 a1) (by kernel_rfl) ?_
  have e := congrArg (fun h4 => spec_SameFracs_t n h4 a0 a1) (funext fun k => funext fun v5 => funext fun v1 => funext fun v0 => spec_SameFracs_l4_eq n k v5 v1 v0)
  exact e

theorem spec_SameFracs_ok (n : Nat) : FunOk P (spec_SameFracsF n) :=
  funOk_mk (C := []) (N := 26) (kp := spec_SameFracskp) (c := spec_SameFracsc) (n := n) (G := fun x y => spec_SameFracs n x.1 x.2.1) follows (AllOk.mem (trivial : AllOk P ([]))) (by kernel_rfl : P.funcs[13]? = some Go.Proofs.Try.f13) (by kernel_rfl) (by kernel_rfl) (by kernel_rfl)
    (fun x y => spec_SameFracs_eq n x.1 x.2.1) (fun _ _ => map_same (fun _ => rfl) _) (fun _ _ _ _ => rfl)

abbrev spec_SameTablesp : List Sp := [.v true (.pair (.int .i64) (.pair (.list tO) (.pair .bool tF))), .v true (.pair (.int .i64) (.pair (.list tO) (.pair .bool tF)))]
abbrev spec_SameTablebs : List (Bs × Bool) := []
abbrev spec_SameTablers : List (Bool × List Rp) := [(false, [.v false .bool])]
noncomputable def spec_SameTablekp : Keep := { loop := fun id => match id with | 4 => ([5, 3, 2], []) | _ => ([], []), join := fun id => match id with | _ => none }
noncomputable def spec_SameTablec : Code := bodyOf Go.Proofs.Try.f36
noncomputable def spec_SameTableF (n : Nat) : Fun := { id := 36, sp := spec_SameTablesp, bs := spec_SameTablebs, rs := spec_SameTablers, f := fun x y => spec_SameTable n x.1 x.2.1 }

abbrev spec_SameTables4 (v5 : Int) (b0_0 : Int) (b0_1 : List OB9) (b0_2 : Bool) (b0_3 : Int) (b0_4 : Int) (b1_0 : Int) (b1_1 : List OB9) (b1_2 : Bool) (b1_3 : Int) (b1_4 : Int) : St := { env := [(5, .one (.sc (.int .i64 v5))), (3, .one (.ref 0 0 0 0 0 0)), (2, .one (.ref 1 0 0 0 0 0))], bx := [(0, .var 28 [.sc (.int .i64 b0_0), .list true tO b0_1, .sc (.bool b0_2), .sc (.int .i64 b0_3), .sc (.int .i64 b0_4)]), (1, .var 28 [.sc (.int .i64 b1_0), .list true tO b1_1, .sc (.bool b1_2), .sc (.int .i64 b1_3), .sc (.int .i64 b1_4)])], nx := 2 }
noncomputable abbrev spec_SameTablek0 (n : Nat) := kAt ([]) ty 52 0 n spec_SameTablekp spec_SameTablec [1, 1, 0, 1, 0] [] (ending ty 0 Go.Proofs.Try.f36.results.toList spec_SameTablers spec_SameTablebs)
theorem spec_SameTable_l4_eq (n : Nat) : ∀ (k : Nat) (v5 : Int) (b0_0 : Int) (b0_1 : List OB9) (b0_2 : Bool) (b0_3 : Int) (b0_4 : Int) (b1_0 : Int) (b1_1 : List OB9) (b1_2 : Bool) (b1_3 : Int) (b1_4 : Int), iter (interp ([]) ty 52 0 n spec_SameTablekp (codeAt spec_SameTablec [1, 1, 0, 1, 0, 0])) (canon 0 (spec_SameTablekp.loop 4)) (spec_SameTablek0 n) k (spec_SameTables4 v5 b0_0 b0_1 b0_2 b0_3 b0_4 b1_0 b1_1 b1_2 b1_3 b1_4) = spec_SameTable_l4 n k v5 b0_0 b0_1 b0_2 b0_3 b0_4 b1_0 b1_1 b1_2 b1_3 b1_4
  | 0, _, _, _, _, _, _, _, _, _, _, _ => by kernel_rfl
  | k + 1, v5, b0_0, b0_1, b0_2, b0_3, b0_4, b1_0, b1_1, b1_2, b1_3, b1_4 => by
    refine Eq.trans (b := spec_SameTable_t4 n (fun v5 b0_0 b0_1 b0_2 b0_3 b0_4 b1_0 b1_1 b1_2 b1_3 b1_4 => iter (interp ([]) ty 52 0 n spec_SameTablekp (codeAt spec_SameTablec [1, 1, 0, 1, 0, 0])) (canon 0 (spec_SameTablekp.loop 4)) (spec_SameTablek0 n) k (spec_SameTables4 v5 b0_0 b0_1 b0_2 b0_3 b0_4 b1_0 b1_1 b1_2 b1_3 b1_4)) v5 b0_0 b0_1 b0_2 b0_3 b0_4 b1_0 b1_1 b1_2 b1_3 b1_4) (by kernel_rfl) ?_
    have e := congrArg (fun g => spec_SameTable_t4 n g v5 b0_0 b0_1 b0_2 b0_3 b0_4 b1_0 b1_1 b1_2 b1_3 b1_4) (funext fun v5 => funext fun b0_0 => funext fun b0_1 => funext fun b0_2 => funext fun b0_3 => funext fun b0_4 => funext fun b1_0 => funext fun b1_1 => funext fun b1_2 => funext fun b1_3 => funext fun b1_4 => spec_SameTable_l4_eq n k v5 b0_0 b0_1 b0_2 b0_3 b0_4 b1_0 b1_1 b1_2 b1_3 b1_4)
    exact e

theorem spec_SameTable_eq (n : Nat) (a0 : (Int) × ((List OB9) × ((Bool) × (Int × Int)))) (a1 : (Int) × ((List OB9) × ((Bool) × (Int × Int)))) : runBody ([]) ty 52 n spec_SameTablekp spec_SameTablec Go.Proofs.Try.f36.results.toList spec_SameTablers spec_SameTablesp spec_SameTablebs (a0, (a1, ())) () = spec_SameTable n a0 a1 := by
  refine Eq.trans (b := spec_SameTable_t n (fun k v5 b0_0 b0_1 b0_2 b0_3 b0_4 b1_0 b1_1 b1_2 b1_3 b1_4 => iter (interp ([]) ty 52 0 n spec_SameTablekp (codeAt spec_SameTablec [1, 1, 0, 1, 0, 0])) (canon 0 (spec_SameTablekp.loop 4)) (spec_SameTablek0 n) k (spec_SameTables4 v5 b0_0 b0_1 b0_2 b0_3 b0_4 b1_0 b1_1 b1_2 b1_3 b1_4)) a0 a1) (by kernel_rfl) ?_
  have e := congrArg (fun h4 => spec_SameTable_t n h4 a0 a1) (funext fun k => funext fun v5 => funext fun b0_0 => funext fun b0_1 => funext fun b0_2 => funext fun b0_3 => funext fun b0_4 => funext fun b1_0 => funext fun b1_1 => funext fun b1_2 => funext fun b1_3 => funext fun b1_4 => spec_SameTable_l4_eq n k v5 b0_0 b0_1 b0_2 b0_3 b0_4 b1_0 b1_1 b1_2 b1_3 b1_4)
  exact e

theorem spec_SameTable_ok (n : Nat) : FunOk P (spec_SameTableF n) :=
  funOk_mk (C := []) (N := 52) (kp := spec_SameTablekp) (c := spec_SameTablec) (n := n) (G := fun x y => spec_SameTable n x.1 x.2.1) follows (AllOk.mem (trivial : AllOk P ([]))) (by kernel_rfl : P.funcs[36]? = some Go.Proofs.Try.f36) (by kernel_rfl) (by kernel_rfl) (by kernel_rfl)
    (fun x y => spec_SameTable_eq n x.1 x.2.1) (fun _ _ => map_same (fun _ => rfl) _) (fun _ _ _ _ => rfl)

abbrev spec_l00Samesp : List Sp := [.v false (.list (.int .i64)), .v false (.list (.int .i64))]
abbrev spec_l00Samebs : List (Bs × Bool) := []
abbrev spec_l00Samers : List (Bool × List Rp) := [(false, [.v false .bool])]
noncomputable def spec_l00Samekp : Keep := { loop := fun id => match id with | 4 => ([5, 1, 0], []) | _ => ([], []), join := fun id => match id with | _ => none }
noncomputable def spec_l00Samec : Code := bodyOf Go.Proofs.Try.f101
noncomputable def spec_l00SameF (n : Nat) : Fun := { id := 101, sp := spec_l00Samesp, bs := spec_l00Samebs, rs := spec_l00Samers, f := fun x y => spec_l00Same n x.1 x.2.1 }

abbrev spec_l00Sames4 (v5 : Int) (v1 : List (Int)) (v0 : List (Int)) : St := { env := [(5, .one (.sc (.int .i64 v5))), (1, .one (.list true (.int .i64) v1)), (0, .one (.list true (.int .i64) v0))], bx := [], nx := 0 }
noncomputable abbrev spec_l00Samek0 (n : Nat) := kAt ([]) ty 26 0 n spec_l00Samekp spec_l00Samec [1, 1, 0, 1, 0] [] (ending ty 0 Go.Proofs.Try.f101.results.toList spec_l00Samers spec_l00Samebs)
theorem spec_l00Same_l4_eq (n : Nat) : ∀ (k : Nat) (v5 : Int) (v1 : List (Int)) (v0 : List (Int)), iter (interp ([]) ty 26 0 n spec_l00Samekp (codeAt spec_l00Samec [1, 1, 0, 1, 0, 0])) (canon 0 (spec_l00Samekp.loop 4)) (spec_l00Samek0 n) k (spec_l00Sames4 v5 v1 v0) = spec_l00Same_l4 n k v5 v1 v0
  | 0, _, _, _ => by kernel_rfl
  | k + 1, v5, v1, v0 => by
    refine Eq.trans (b := spec_l00Same_t4 n (fun v5 v1 v0 => iter (interp ([]) ty 26 0 n spec_l00Samekp (codeAt spec_l00Samec [1, 1, 0, 1, 0, 0])) (canon 0 (spec_l00Samekp.loop 4)) (spec_l00Samek0 n) k (spec_l00Sames4 v5 v1 v0)) v5 v1 v0) (by kernel_rfl) ?_
    have e := congrArg (fun g => spec_l00Same_t4 n g v5 v1 v0) (funext fun v5 => funext fun v1 => funext fun v0 => spec_l00Same_l4_eq n k v5 v1 v0)
    exact e

theorem spec_l00Same_eq (n : Nat) (a0 : List (Int)) (a1 : List (Int)) : runBody ([]) ty 26 n spec_l00Samekp spec_l00Samec Go.Proofs.Try.f101.results.toList spec_l00Samers spec_l00Samesp spec_l00Samebs (a0, (a1, ())) () = spec_l00Same n a0 a1 := by
  refine Eq.trans (b := spec_l00Same_t n (fun k v5 v1 v0 => iter (interp ([]) ty 26 0 n spec_l00Samekp (codeAt spec_l00Samec [1, 1, 0, 1, 0, 0])) (canon 0 (spec_l00Samekp.loop 4)) (spec_l00Samek0 n) k (spec_l00Sames4 v5 v1 v0)) a0 a1) (by kernel_rfl) ?_
  have e := congrArg (fun h4 => spec_l00Same_t n h4 a0 a1) (funext fun k => funext fun v5 => funext fun v1 => funext fun v0 => spec_l00Same_l4_eq n k v5 v1 v0)
  exact e

theorem spec_l00Same_ok (n : Nat) : FunOk P (spec_l00SameF n) :=
  funOk_mk (C := []) (N := 26) (kp := spec_l00Samekp) (c := spec_l00Samec) (n := n) (G := fun x y => spec_l00Same n x.1 x.2.1) follows (AllOk.mem (trivial : AllOk P ([]))) (by kernel_rfl : P.funcs[101]? = some Go.Proofs.Try.f101) (by kernel_rfl) (by kernel_rfl) (by kernel_rfl)
    (fun x y => spec_l00Same_eq n x.1 x.2.1) (fun _ _ => map_same (fun _ => rfl) _) (fun _ _ _ _ => rfl)

abbrev spec_SameWholesp : List Sp := [.v false (.list (.int .i64)), .v false (.list (.int .i64))]
abbrev spec_SameWholebs : List (Bs × Bool) := []
abbrev spec_SameWholers : List (Bool × List Rp) := [(false, [.v false .bool])]
noncomputable def spec_SameWholekp : Keep := { loop := fun id => match id with | _ => ([], []), join := fun id => match id with | _ => none }
noncomputable def spec_SameWholec : Code := bodyOf Go.Proofs.Try.f32
noncomputable def spec_SameWholeF (n : Nat) : Fun := { id := 32, sp := spec_SameWholesp, bs := spec_SameWholebs, rs := spec_SameWholers, f := fun x y => spec_SameWhole n x.1 x.2.1 }

theorem spec_SameWhole_eq (n : Nat) (a0 : List (Int)) (a1 : List (Int)) : runBody ([spec_l00SameF n]) ty 8 n spec_SameWholekp spec_SameWholec Go.Proofs.Try.f32.results.toList spec_SameWholers spec_SameWholesp spec_SameWholebs (a0, (a1, ())) () = spec_SameWhole n a0 a1 := by
  refine Eq.trans (b := spec_SameWhole_t n a0 a1) (by kernel_rfl) ?_
  rfl

theorem spec_SameWhole_ok (n : Nat) : FunOk P (spec_SameWholeF n) :=
  funOk_mk (C := [spec_l00SameF n]) (N := 8) (kp := spec_SameWholekp) (c := spec_SameWholec) (n := n) (G := fun x y => spec_SameWhole n x.1 x.2.1) follows (AllOk.mem (⟨spec_l00Same_ok n, trivial⟩ : AllOk P ([spec_l00SameF n]))) (by kernel_rfl : P.funcs[32]? = some Go.Proofs.Try.f32) (by kernel_rfl) (by kernel_rfl) (by kernel_rfl)
    (fun x y => spec_SameWhole_eq n x.1 x.2.1) (fun _ _ => map_same (fun _ => rfl) _) (fun _ _ _ _ => rfl)

abbrev spec_l01Divsp : List Sp := [.v true tF, .v true tF]
abbrev spec_l01Divbs : List (Bs × Bool) := []
abbrev spec_l01Divrs : List (Bool × List Rp) := [(true, [.v false tF]), (false, [.v false (.int .i64)])]
noncomputable def spec_l01Divkp : Keep := { loop := fun id => match id with | _ => ([], []), join := fun id => match id with | _ => none }
noncomputable def spec_l01Divc : Code := bodyOf Go.Proofs.Try.f94
noncomputable def spec_l01DivF (n : Nat) : Fun := { id := 94, sp := spec_l01Divsp, bs := spec_l01Divbs, rs := spec_l01Divrs, f := fun x y => spec_l01Div n x.1 x.2.1 }

theorem spec_l01Div_eq (n : Nat) (a0 : (Int) × (Int)) (a1 : (Int) × (Int)) : runBody ([spec_l01ReducedF n]) ty 19 n spec_l01Divkp spec_l01Divc Go.Proofs.Try.f94.results.toList spec_l01Divrs spec_l01Divsp spec_l01Divbs (a0, (a1, ())) () = spec_l01Div n a0 a1 := by
  refine Eq.trans (b := spec_l01Div_t n a0 a1) (by kernel_rfl) ?_
  rfl

theorem spec_l01Div_ok (n : Nat) : FunOk P (spec_l01DivF n) :=
  funOk_mk (C := [spec_l01ReducedF n]) (N := 19) (kp := spec_l01Divkp) (c := spec_l01Divc) (n := n) (G := fun x y => spec_l01Div n x.1 x.2.1) follows (AllOk.mem (⟨spec_l01Reduced_ok n, trivial⟩ : AllOk P ([spec_l01ReducedF n]))) (by kernel_rfl : P.funcs[94]? = some Go.Proofs.Try.f94) (by kernel_rfl) (by kernel_rfl) (by kernel_rfl)
    (fun x y => spec_l01Div_eq n x.1 x.2.1) (fun _ _ => map_same (fun _ => rfl) _) (fun _ _ _ _ => rfl)

abbrev spec_l01Addsp : List Sp := [.v true tF, .v true tF]
abbrev spec_l01Addbs : List (Bs × Bool) := []
abbrev spec_l01Addrs : List (Bool × List Rp) := [(true, [.v false tF]), (false, [.v false (.int .i64)])]
noncomputable def spec_l01Addkp : Keep := { loop := fun id => match id with | _ => ([], []), join := fun id => match id with | _ => none }
noncomputable def spec_l01Addc : Code := bodyOf Go.Proofs.Try.f72
noncomputable def spec_l01AddF (n : Nat) : Fun := { id := 72, sp := spec_l01Addsp, bs := spec_l01Addbs, rs := spec_l01Addrs, f := fun x y => spec_l01Add n x.1 x.2.1 }

theorem spec_l01Add_eq (n : Nat) (a0 : (Int) × (Int)) (a1 : (Int) × (Int)) : runBody ([spec_l01ReducedF n]) ty 25 n spec_l01Addkp spec_l01Addc Go.Proofs.Try.f72.results.toList spec_l01Addrs spec_l01Addsp spec_l01Addbs (a0, (a1, ())) () = spec_l01Add n a0 a1 := by
  refine Eq.trans (b := spec_l01Add_t n a0 a1) (by kernel_rfl) ?_
  rfl

theorem spec_l01Add_ok (n : Nat) : FunOk P (spec_l01AddF n) :=
  funOk_mk (C := [spec_l01ReducedF n]) (N := 25) (kp := spec_l01Addkp) (c := spec_l01Addc) (n := n) (G := fun x y => spec_l01Add n x.1 x.2.1) follows (AllOk.mem (⟨spec_l01Reduced_ok n, trivial⟩ : AllOk P ([spec_l01ReducedF n]))) (by kernel_rfl : P.funcs[72]? = some Go.Proofs.Try.f72) (by kernel_rfl) (by kernel_rfl) (by kernel_rfl)
    (fun x y => spec_l01Add_eq n x.1 x.2.1) (fun _ _ => map_same (fun _ => rfl) _) (fun _ _ _ _ => rfl)

abbrev spec_l01Negsp : List Sp := [.v true tF]
abbrev spec_l01Negbs : List (Bs × Bool) := []
abbrev spec_l01Negrs : List (Bool × List Rp) := [(true, [.v false tF])]
noncomputable def spec_l01Negkp : Keep := { loop := fun id => match id with | _ => ([], []), join := fun id => match id with | _ => none }
noncomputable def spec_l01Negc : Code := bodyOf Go.Proofs.Try.f131
noncomputable def spec_l01NegF (n : Nat) : Fun := { id := 131, sp := spec_l01Negsp, bs := spec_l01Negbs, rs := spec_l01Negrs, f := fun x y => spec_l01Neg n x.1 }

theorem spec_l01Neg_eq (n : Nat) (a0 : (Int) × (Int)) : runBody ([]) ty 9 n spec_l01Negkp spec_l01Negc Go.Proofs.Try.f131.results.toList spec_l01Negrs spec_l01Negsp spec_l01Negbs (a0, ()) () = spec_l01Neg n a0 := by
  refine Eq.trans (b := spec_l01Neg_t n a0) (by kernel_rfl) ?_
  rfl

theorem spec_l01Neg_ok (n : Nat) : FunOk P (spec_l01NegF n) :=
  funOk_mk (C := []) (N := 9) (kp := spec_l01Negkp) (c := spec_l01Negc) (n := n) (G := fun x y => spec_l01Neg n x.1) follows (AllOk.mem (trivial : AllOk P ([]))) (by kernel_rfl : P.funcs[131]? = some Go.Proofs.Try.f131) (by kernel_rfl) (by kernel_rfl) (by kernel_rfl)
    (fun x y => spec_l01Neg_eq n x.1) (fun _ _ => map_same (fun _ => rfl) _) (fun _ _ _ _ => rfl)

abbrev spec_l01Subsp : List Sp := [.v true tF, .v true tF]
abbrev spec_l01Subbs : List (Bs × Bool) := []
abbrev spec_l01Subrs : List (Bool × List Rp) := [(true, [.v false tF]), (false, [.v false (.int .i64)])]
noncomputable def spec_l01Subkp : Keep := { loop := fun id => match id with | _ => ([], []), join := fun id => match id with | _ => none }
noncomputable def spec_l01Subc : Code := bodyOf Go.Proofs.Try.f93
noncomputable def spec_l01SubF (n : Nat) : Fun := { id := 93, sp := spec_l01Subsp, bs := spec_l01Subbs, rs := spec_l01Subrs, f := fun x y => spec_l01Sub n x.1 x.2.1 }

theorem spec_l01Sub_eq (n : Nat) (a0 : (Int) × (Int)) (a1 : (Int) × (Int)) : runBody ([spec_l01NegF n, spec_l01AddF n]) ty 12 n spec_l01Subkp spec_l01Subc Go.Proofs.Try.f93.results.toList spec_l01Subrs spec_l01Subsp spec_l01Subbs (a0, (a1, ())) () = spec_l01Sub n a0 a1 := by
  refine Eq.trans (b := spec_l01Sub_t n a0 a1) (by kernel_rfl) ?_
  rfl

theorem spec_l01Sub_ok (n : Nat) : FunOk P (spec_l01SubF n) :=
  funOk_mk (C := [spec_l01NegF n, spec_l01AddF n]) (N := 12) (kp := spec_l01Subkp) (c := spec_l01Subc) (n := n) (G := fun x y => spec_l01Sub n x.1 x.2.1) follows (AllOk.mem (⟨spec_l01Neg_ok n, ⟨spec_l01Add_ok n, trivial⟩⟩ : AllOk P ([spec_l01NegF n, spec_l01AddF n]))) (by kernel_rfl : P.funcs[93]? = some Go.Proofs.Try.f93) (by kernel_rfl) (by kernel_rfl) (by kernel_rfl)
    (fun x y => spec_l01Sub_eq n x.1 x.2.1) (fun _ _ => map_same (fun _ => rfl) _) (fun _ _ _ _ => rfl)

abbrev spec_l01Wholesp : List Sp := [.v false (.int .i64)]
abbrev spec_l01Wholebs : List (Bs × Bool) := []
abbrev spec_l01Wholers : List (Bool × List Rp) := [(true, [.v false tF])]
noncomputable def spec_l01Wholekp : Keep := { loop := fun id => match id with | _ => ([], []), join := fun id => match id with | _ => none }
noncomputable def spec_l01Wholec : Code := bodyOf Go.Proofs.Try.f95
noncomputable def spec_l01WholeF (n : Nat) : Fun := { id := 95, sp := spec_l01Wholesp, bs := spec_l01Wholebs, rs := spec_l01Wholers, f := fun x y => spec_l01Whole n x.1 }

theorem spec_l01Whole_eq (n : Nat) (a0 : Int) : runBody ([]) ty 5 n spec_l01Wholekp spec_l01Wholec Go.Proofs.Try.f95.results.toList spec_l01Wholers spec_l01Wholesp spec_l01Wholebs (a0, ()) () = spec_l01Whole n a0 := by
  refine Eq.trans (b := spec_l01Whole_t n a0) (by kernel_rfl) ?_
  rfl

theorem spec_l01Whole_ok (n : Nat) : FunOk P (spec_l01WholeF n) :=
  funOk_mk (C := []) (N := 5) (kp := spec_l01Wholekp) (c := spec_l01Wholec) (n := n) (G := fun x y => spec_l01Whole n x.1) follows (AllOk.mem (trivial : AllOk P ([]))) (by kernel_rfl : P.funcs[95]? = some Go.Proofs.Try.f95) (by kernel_rfl) (by kernel_rfl) (by kernel_rfl)
    (fun x y => spec_l01Whole_eq n x.1) (fun _ _ => map_same (fun _ => rfl) _) (fun _ _ _ _ => rfl)

abbrev spec_l01Sumsp : List Sp := [.v false (.list tF)]
abbrev spec_l01Sumbs : List (Bs × Bool) := []
abbrev spec_l01Sumrs : List (Bool × List Rp) := [(true, [.v false tF]), (false, [.v false (.int .i64)])]
noncomputable def spec_l01Sumkp : Keep := { loop := fun id => match id with | 3 => ([2, 5, 4, 0], []) | _ => ([], []), join := fun id => match id with | _ => none }
noncomputable def spec_l01Sumc : Code := bodyOf Go.Proofs.Try.f92
noncomputable def spec_l01SumF (n : Nat) : Fun := { id := 92, sp := spec_l01Sumsp, bs := spec_l01Sumbs, rs := spec_l01Sumrs, f := fun x y => spec_l01Sum n x.1 }

noncomputable abbrev spec_l01Sumcs (n : Nat) : List Fun := [spec_l01WholeF n, spec_l01AddF n]
abbrev spec_l01Sums3 (v5 : Int) (v0 : List (Int × Int)) (b0_0 : Int) (b0_1 : Int) (b1_0 : Int) (b1_1 : Int) : St := { env := [(2, .one (.ref 0 0 0 0 0 0)), (5, .one (.sc (.int .i64 v5))), (4, .one (.ref 1 0 0 0 0 0)), (0, .one (.list true tF v0))], bx := [(0, .var 26 [.sc (.int .i64 b0_0), .sc (.int .i64 b0_1)]), (1, .var 26 [.sc (.int .i64 b1_0), .sc (.int .i64 b1_1)])], nx := 2 }
noncomputable abbrev spec_l01Sumk0 (n : Nat) := kAt (spec_l01Sumcs n) ty 30 0 n spec_l01Sumkp spec_l01Sumc [1, 1, 0, 1, 0] [] (ending ty 0 Go.Proofs.Try.f92.results.toList spec_l01Sumrs spec_l01Sumbs)
theorem spec_l01Sum_l3_eq (n : Nat) : ∀ (k : Nat) (v5 : Int) (v0 : List (Int × Int)) (b0_0 : Int) (b0_1 : Int) (b1_0 : Int) (b1_1 : Int), iter (interp (spec_l01Sumcs n) ty 30 0 n spec_l01Sumkp (codeAt spec_l01Sumc [1, 1, 0, 1, 0, 0])) (canon 0 (spec_l01Sumkp.loop 3)) (spec_l01Sumk0 n) k (spec_l01Sums3 v5 v0 b0_0 b0_1 b1_0 b1_1) = spec_l01Sum_l3 n k v5 v0 b0_0 b0_1 b1_0 b1_1
  | 0, _, _, _, _, _, _ => by kernel_rfl
  | k + 1, v5, v0, b0_0, b0_1, b1_0, b1_1 => by
    refine Eq.trans (b := spec_l01Sum_t3 n (fun v5 v0 b0_0 b0_1 b1_0 b1_1 => iter (interp (spec_l01Sumcs n) ty 30 0 n spec_l01Sumkp (codeAt spec_l01Sumc [1, 1, 0, 1, 0, 0])) (canon 0 (spec_l01Sumkp.loop 3)) (spec_l01Sumk0 n) k (spec_l01Sums3 v5 v0 b0_0 b0_1 b1_0 b1_1)) v5 v0 b0_0 b0_1 b1_0 b1_1) (by kernel_rfl) ?_
    have e := congrArg (fun g => spec_l01Sum_t3 n g v5 v0 b0_0 b0_1 b1_0 b1_1) (funext fun v5 => funext fun v0 => funext fun b0_0 => funext fun b0_1 => funext fun b1_0 => funext fun b1_1 => spec_l01Sum_l3_eq n k v5 v0 b0_0 b0_1 b1_0 b1_1)
    exact e

theorem spec_l01Sum_eq (n : Nat) (a0 : List (Int × Int)) : runBody (spec_l01Sumcs n) ty 30 n spec_l01Sumkp spec_l01Sumc Go.Proofs.Try.f92.results.toList spec_l01Sumrs spec_l01Sumsp spec_l01Sumbs (a0, ()) () = spec_l01Sum n a0 := by
  refine Eq.trans (b := spec_l01Sum_t n (fun k v5 v0 b0_0 b0_1 b1_0 b1_1 => iter (interp (spec_l01Sumcs n) ty 30 0 n spec_l01Sumkp (codeAt spec_l01Sumc [1, 1, 0, 1, 0, 0])) (canon 0 (spec_l01Sumkp.loop 3)) (spec_l01Sumk0 n) k (spec_l01Sums3 v5 v0 b0_0 b0_1 b1_0 b1_1)) a0) (by kernel_rfl) ?_
  have e := congrArg (fun h3 => spec_l01Sum_t n h3 a0) (funext fun k => funext fun v5 => funext fun v0 => funext fun b0_0 => funext fun b0_1 => funext fun b1_0 => funext fun b1_1 => spec_l01Sum_l3_eq n k v5 v0 b0_0 b0_1 b1_0 b1_1)
  exact e

theorem spec_l01Sum_ok (n : Nat) : FunOk P (spec_l01SumF n) :=
  funOk_mk (C := [spec_l01WholeF n, spec_l01AddF n]) (N := 30) (kp := spec_l01Sumkp) (c := spec_l01Sumc) (n := n) (G := fun x y => spec_l01Sum n x.1) follows (AllOk.mem (⟨spec_l01Whole_ok n, ⟨spec_l01Add_ok n, trivial⟩⟩ : AllOk P ([spec_l01WholeF n, spec_l01AddF n]))) (by kernel_rfl : P.funcs[92]? = some Go.Proofs.Try.f92) (by kernel_rfl) (by kernel_rfl) (by kernel_rfl)
    (fun x y => spec_l01Sum_eq n x.1) (fun _ _ => map_same (fun _ => rfl) _) (fun _ _ _ _ => rfl)

abbrev spec_ShareEvenlysp : List Sp := [.v false (.list tF), .v true tF]
abbrev spec_ShareEvenlybs : List (Bs × Bool) := []
abbrev spec_ShareEvenlyrs : List (Bool × List Rp) := [(false, [.new  tF]), (false, [.v false (.int .i64)])]
noncomputable def spec_ShareEvenlykp : Keep := { loop := fun id => match id with | 16 => ([13, 12, 10, 0], []) | _ => ([], []), join := fun id => match id with | _ => none }
noncomputable def spec_ShareEvenlyc : Code := bodyOf Go.Proofs.Try.f27
noncomputable def spec_ShareEvenlyF (n : Nat) : Fun := { id := 27, sp := spec_ShareEvenlysp, bs := spec_ShareEvenlybs, rs := spec_ShareEvenlyrs, f := fun x y => spec_ShareEvenly n x.1 x.2.1 }

noncomputable abbrev spec_ShareEvenlycs (n : Nat) : List Fun := [spec_l04FracsF n, spec_l01OkF n, spec_l00InF n, spec_l01SumF n, spec_l01SubF n, spec_l01WholeF n, spec_l01DivF n]
abbrev spec_ShareEvenlys16 (v13 : Int) (v0 : List (Int × Int)) (b0 : List (Int × Int)) (b1_0 : Int) (b1_1 : Int) : St := { env := [(13, .one (.sc (.int .i64 v13))), (12, .one (.slice 0 0 none)), (10, .one (.ref 1 0 0 0 0 0)), (0, .one (.list true tF v0))], bx := [(0, .row 0 tF b0), (1, .var 26 [.sc (.int .i64 b1_0), .sc (.int .i64 b1_1)])], nx := 2 }
noncomputable abbrev spec_ShareEvenlyk0 (n : Nat) := kAt (spec_ShareEvenlycs n) ty 86 0 n spec_ShareEvenlykp spec_ShareEvenlyc [1, 1, 1, 1, 1, 1, 1, 1, 1, 1, 0, 1, 0] [] (ending ty 0 Go.Proofs.Try.f27.results.toList spec_ShareEvenlyrs spec_ShareEvenlybs)
theorem spec_ShareEvenly_l16_eq (n : Nat) : ∀ (k : Nat) (v13 : Int) (v0 : List (Int × Int)) (b0 : List (Int × Int)) (b1_0 : Int) (b1_1 : Int), iter (interp (spec_ShareEvenlycs n) ty 86 0 n spec_ShareEvenlykp (codeAt spec_ShareEvenlyc [1, 1, 1, 1, 1, 1, 1, 1, 1, 1, 0, 1, 0, 0])) (canon 0 (spec_ShareEvenlykp.loop 16)) (spec_ShareEvenlyk0 n) k (spec_ShareEvenlys16 v13 v0 b0 b1_0 b1_1) = spec_ShareEvenly_l16 n k v13 v0 b0 b1_0 b1_1
  | 0, _, _, _, _, _ => by kernel_rfl
  | k + 1, v13, v0, b0, b1_0, b1_1 => by
    refine Eq.trans (b := spec_ShareEvenly_t16 n (fun v13 v0 b0 b1_0 b1_1 => iter (interp (spec_ShareEvenlycs n) ty 86 0 n spec_ShareEvenlykp (codeAt spec_ShareEvenlyc [1, 1, 1, 1, 1, 1, 1, 1, 1, 1, 0, 1, 0, 0])) (canon 0 (spec_ShareEvenlykp.loop 16)) (spec_ShareEvenlyk0 n) k (spec_ShareEvenlys16 v13 v0 b0 b1_0 b1_1)) v13 v0 b0 b1_0 b1_1) (by kernel_rfl) ?_
    have e := congrArg (fun g => spec_ShareEvenly_t16 n g v13 v0 b0 b1_0 b1_1) (funext fun v13 => funext fun v0 => funext fun b0 => funext fun b1_0 => funext fun b1_1 => spec_ShareEvenly_l16_eq n k v13 v0 b0 b1_0 b1_1)
    exact e

theorem spec_ShareEvenly_eq (n : Nat) (a0 : List (Int × Int)) (a1 : (Int) × (Int)) : runBody (spec_ShareEvenlycs n) ty 86 n spec_ShareEvenlykp spec_ShareEvenlyc Go.Proofs.Try.f27.results.toList spec_ShareEvenlyrs spec_ShareEvenlysp spec_ShareEvenlybs (a0, (a1, ())) () = spec_ShareEvenly n a0 a1 := by
  refine Eq.trans (b := spec_ShareEvenly_t n (fun k v13 v0 b0 b1_0 b1_1 => iter (interp (spec_ShareEvenlycs n) ty 86 0 n spec_ShareEvenlykp (codeAt spec_ShareEvenlyc [1, 1, 1, 1, 1, 1, 1, 1, 1, 1, 0, 1, 0, 0])) (canon 0 (spec_ShareEvenlykp.loop 16)) (spec_ShareEvenlyk0 n) k (spec_ShareEvenlys16 v13 v0 b0 b1_0 b1_1)) a0 a1) (by kernel_rfl) ?_
  have e := congrArg (fun h16 => spec_ShareEvenly_t n h16 a0 a1) (funext fun k => funext fun v13 => funext fun v0 => funext fun b0 => funext fun b1_0 => funext fun b1_1 => spec_ShareEvenly_l16_eq n k v13 v0 b0 b1_0 b1_1)
  exact e

theorem spec_ShareEvenly_ok (n : Nat) : FunOk P (spec_ShareEvenlyF n) :=
  funOk_mk (C := [spec_l04FracsF n, spec_l01OkF n, spec_l00InF n, spec_l01SumF n, spec_l01SubF n, spec_l01WholeF n, spec_l01DivF n]) (N := 86) (kp := spec_ShareEvenlykp) (c := spec_ShareEvenlyc) (n := n) (G := fun x y => spec_ShareEvenly n x.1 x.2.1) follows (AllOk.mem (⟨spec_l04Fracs_ok n, ⟨spec_l01Ok_ok n, ⟨spec_l00In_ok n, ⟨spec_l01Sum_ok n, ⟨spec_l01Sub_ok n, ⟨spec_l01Whole_ok n, ⟨spec_l01Div_ok n, trivial⟩⟩⟩⟩⟩⟩⟩ : AllOk P ([spec_l04FracsF n, spec_l01OkF n, spec_l00InF n, spec_l01SumF n, spec_l01SubF n, spec_l01WholeF n, spec_l01DivF n]))) (by kernel_rfl : P.funcs[27]? = some Go.Proofs.Try.f27) (by kernel_rfl) (by kernel_rfl) (by kernel_rfl)
    (fun x y => spec_ShareEvenly_eq n x.1 x.2.1) (fun _ _ => map_same (fun _ => rfl) _) (fun _ _ _ _ => rfl)

abbrev spec_l01Downsp : List Sp := [.v false (.int .i64), .v false (.int .i64)]
abbrev spec_l01Downbs : List (Bs × Bool) := []
abbrev spec_l01Downrs : List (Bool × List Rp) := [(false, [.v false (.int .i64)])]
noncomputable def spec_l01Downkp : Keep := { loop := fun id => match id with | _ => ([], []), join := fun id => match id with | _ => none }
noncomputable def spec_l01Downc : Code := bodyOf Go.Proofs.Try.f100
noncomputable def spec_l01DownF (n : Nat) : Fun := { id := 100, sp := spec_l01Downsp, bs := spec_l01Downbs, rs := spec_l01Downrs, f := fun x y => spec_l01Down n x.1 x.2.1 }

theorem spec_l01Down_eq (n : Nat) (a0 : Int) (a1 : Int) : runBody ([]) ty 16 n spec_l01Downkp spec_l01Downc Go.Proofs.Try.f100.results.toList spec_l01Downrs spec_l01Downsp spec_l01Downbs (a0, (a1, ())) () = spec_l01Down n a0 a1 := by
  refine Eq.trans (b := spec_l01Down_t n a0 a1) (by kernel_rfl) ?_
  rfl

theorem spec_l01Down_ok (n : Nat) : FunOk P (spec_l01DownF n) :=
  funOk_mk (C := []) (N := 16) (kp := spec_l01Downkp) (c := spec_l01Downc) (n := n) (G := fun x y => spec_l01Down n x.1 x.2.1) follows (AllOk.mem (trivial : AllOk P ([]))) (by kernel_rfl : P.funcs[100]? = some Go.Proofs.Try.f100) (by kernel_rfl) (by kernel_rfl) (by kernel_rfl)
    (fun x y => spec_l01Down_eq n x.1 x.2.1) (fun _ _ => map_same (fun _ => rfl) _) (fun _ _ _ _ => rfl)

abbrev spec_ShareWholesp : List Sp := [.v false (.list (.int .i64)), .v false (.int .i64)]
abbrev spec_ShareWholebs : List (Bs × Bool) := []
abbrev spec_ShareWholers : List (Bool × List Rp) := [(false, [.new  (.int .i64)]), (false, [.v false (.int .i64)])]
noncomputable def spec_ShareWholekp : Keep := { loop := fun id => match id with | 4 => ([8, 0, 6, 1, 7], []) | 11 => ([10, 0, 9, 6], []) | 17 => ([13, 12, 6, 11, 9, 0], []) | _ => ([], []), join := fun id => match id with | _ => none }
noncomputable def spec_ShareWholec : Code := bodyOf Go.Proofs.Try.f31
noncomputable def spec_ShareWholeF (n : Nat) : Fun := { id := 31, sp := spec_ShareWholesp, bs := spec_ShareWholebs, rs := spec_ShareWholers, f := fun x y => spec_ShareWhole n x.1 x.2.1 }

noncomputable abbrev spec_ShareWholecs (n : Nat) : List Fun := [spec_l00InF n, spec_l01DownF n]
abbrev spec_ShareWholes17 (v13 : Int) (v6 : Int) (v11 : Int) (v9 : Int) (v0 : List (Int)) (b0 : List (Int)) : St := { env := [(13, .one (.sc (.int .i64 v13))), (12, .one (.slice 0 0 none)), (6, .one (.sc (.int .i64 v6))), (11, .one (.sc (.int .i64 v11))), (9, .one (.sc (.int .i64 v9))), (0, .one (.list true (.int .i64) v0))], bx := [(0, .row 0 (.int .i64) b0)], nx := 1 }
abbrev spec_ShareWholes11 (v10 : Int) (v0 : List (Int)) (v9 : Int) (v6 : Int) : St := { env := [(10, .one (.sc (.int .i64 v10))), (0, .one (.list true (.int .i64) v0)), (9, .one (.sc (.int .i64 v9))), (6, .one (.sc (.int .i64 v6)))], bx := [], nx := 0 }
abbrev spec_ShareWholes4 (v8 : Int) (v0 : List (Int)) (v6 : Int) (v1 : Int) (v7 : Bool) : St := { env := [(8, .one (.sc (.int .i64 v8))), (0, .one (.list true (.int .i64) v0)), (6, .one (.sc (.int .i64 v6))), (1, .one (.sc (.int .i64 v1))), (7, .one (.sc (.bool v7)))], bx := [], nx := 0 }
noncomputable abbrev spec_ShareWholek0 (n : Nat) := kAt (spec_ShareWholecs n) ty 83 0 n spec_ShareWholekp spec_ShareWholec [1, 1, 1, 1, 1, 1, 1, 1, 1, 0, 1, 0] [] (ending ty 0 Go.Proofs.Try.f31.results.toList spec_ShareWholers spec_ShareWholebs)
noncomputable abbrev spec_ShareWholek1 (n : Nat) := kAt (spec_ShareWholecs n) ty 83 0 n spec_ShareWholekp spec_ShareWholec [1, 1, 1, 1, 1, 1, 0, 1, 0] [] (ending ty 0 Go.Proofs.Try.f31.results.toList spec_ShareWholers spec_ShareWholebs)
noncomputable abbrev spec_ShareWholek2 (n : Nat) := kAt (spec_ShareWholecs n) ty 83 0 n spec_ShareWholekp spec_ShareWholec [1, 1, 1, 0, 1, 0] [] (ending ty 0 Go.Proofs.Try.f31.results.toList spec_ShareWholers spec_ShareWholebs)
theorem spec_ShareWhole_l17_eq (n : Nat) : ∀ (k : Nat) (v13 : Int) (v6 : Int) (v11 : Int) (v9 : Int) (v0 : List (Int)) (b0 : List (Int)), iter (interp (spec_ShareWholecs n) ty 83 0 n spec_ShareWholekp (codeAt spec_ShareWholec [1, 1, 1, 1, 1, 1, 1, 1, 1, 0, 1, 0, 0])) (canon 0 (spec_ShareWholekp.loop 17)) (spec_ShareWholek0 n) k (spec_ShareWholes17 v13 v6 v11 v9 v0 b0) = spec_ShareWhole_l17 n k v13 v6 v11 v9 v0 b0
  | 0, _, _, _, _, _, _ => by kernel_rfl
  | k + 1, v13, v6, v11, v9, v0, b0 => by
    refine Eq.trans (b := spec_ShareWhole_t17 n (fun v13 v6 v11 v9 v0 b0 => iter (interp (spec_ShareWholecs n) ty 83 0 n spec_ShareWholekp (codeAt spec_ShareWholec [1, 1, 1, 1, 1, 1, 1, 1, 1, 0, 1, 0, 0])) (canon 0 (spec_ShareWholekp.loop 17)) (spec_ShareWholek0 n) k (spec_ShareWholes17 v13 v6 v11 v9 v0 b0)) v13 v6 v11 v9 v0 b0) (by kernel_rfl) ?_
    have e := congrArg (fun g => spec_ShareWhole_t17 n g v13 v6 v11 v9 v0 b0) (funext fun v13 => funext fun v6 => funext fun v11 => funext fun v9 => funext fun v0 => funext fun b0 => spec_ShareWhole_l17_eq n k v13 v6 v11 v9 v0 b0)
    exact e

theorem spec_ShareWhole_l11_eq (n : Nat) : ∀ (k : Nat) (v10 : Int) (v0 : List (Int)) (v9 : Int) (v6 : Int), iter (interp (spec_ShareWholecs n) ty 83 0 n spec_ShareWholekp (codeAt spec_ShareWholec [1, 1, 1, 1, 1, 1, 0, 1, 0, 0])) (canon 0 (spec_ShareWholekp.loop 11)) (spec_ShareWholek1 n) k (spec_ShareWholes11 v10 v0 v9 v6) = spec_ShareWhole_l11 n k v10 v0 v9 v6
  | 0, _, _, _, _ => by kernel_rfl
  | k + 1, v10, v0, v9, v6 => by
    refine Eq.trans (b := spec_ShareWhole_t11 n (fun k' v13 v6 v11 v9 v0 b0 => iter (interp (spec_ShareWholecs n) ty 83 0 n spec_ShareWholekp (codeAt spec_ShareWholec [1, 1, 1, 1, 1, 1, 1, 1, 1, 0, 1, 0, 0])) (canon 0 (spec_ShareWholekp.loop 17)) (spec_ShareWholek0 n) k' (spec_ShareWholes17 v13 v6 v11 v9 v0 b0)) (fun v10 v0 v9 v6 => iter (interp (spec_ShareWholecs n) ty 83 0 n spec_ShareWholekp (codeAt spec_ShareWholec [1, 1, 1, 1, 1, 1, 0, 1, 0, 0])) (canon 0 (spec_ShareWholekp.loop 11)) (spec_ShareWholek1 n) k (spec_ShareWholes11 v10 v0 v9 v6)) v10 v0 v9 v6) (by kernel_rfl) ?_
    have e := congr (congrArg (fun h17 g => spec_ShareWhole_t11 n h17 g v10 v0 v9 v6) (funext fun k' => funext fun v13 => funext fun v6 => funext fun v11 => funext fun v9 => funext fun v0 => funext fun b0 => spec_ShareWhole_l17_eq n k' v13 v6 v11 v9 v0 b0)) (funext fun v10 => funext fun v0 => funext fun v9 => funext fun v6 => spec_ShareWhole_l11_eq n k v10 v0 v9 v6)
    exact e

theorem spec_ShareWhole_l4_eq (n : Nat) : ∀ (k : Nat) (v8 : Int) (v0 : List (Int)) (v6 : Int) (v1 : Int) (v7 : Bool), iter (interp (spec_ShareWholecs n) ty 83 0 n spec_ShareWholekp (codeAt spec_ShareWholec [1, 1, 1, 0, 1, 0, 0])) (canon 0 (spec_ShareWholekp.loop 4)) (spec_ShareWholek2 n) k (spec_ShareWholes4 v8 v0 v6 v1 v7) = spec_ShareWhole_l4 n k v8 v0 v6 v1 v7
  | 0, _, _, _, _, _ => by kernel_rfl
  | k + 1, v8, v0, v6, v1, v7 => by
    refine Eq.trans (b := spec_ShareWhole_t4 n (fun k' v10 v0 v9 v6 => iter (interp (spec_ShareWholecs n) ty 83 0 n spec_ShareWholekp (codeAt spec_ShareWholec [1, 1, 1, 1, 1, 1, 0, 1, 0, 0])) (canon 0 (spec_ShareWholekp.loop 11)) (spec_ShareWholek1 n) k' (spec_ShareWholes11 v10 v0 v9 v6)) (fun v8 v0 v6 v1 v7 => iter (interp (spec_ShareWholecs n) ty 83 0 n spec_ShareWholekp (codeAt spec_ShareWholec [1, 1, 1, 0, 1, 0, 0])) (canon 0 (spec_ShareWholekp.loop 4)) (spec_ShareWholek2 n) k (spec_ShareWholes4 v8 v0 v6 v1 v7)) v8 v0 v6 v1 v7) (by kernel_rfl) ?_
    have e := congr (congrArg (fun h11 g => spec_ShareWhole_t4 n h11 g v8 v0 v6 v1 v7) (funext fun k' => funext fun v10 => funext fun v0 => funext fun v9 => funext fun v6 => spec_ShareWhole_l11_eq n k' v10 v0 v9 v6)) (funext fun v8 => funext fun v0 => funext fun v6 => funext fun v1 => funext fun v7 => spec_ShareWhole_l4_eq n k v8 v0 v6 v1 v7)
    exact e

theorem spec_ShareWhole_eq (n : Nat) (a0 : List (Int)) (a1 : Int) : runBody (spec_ShareWholecs n) ty 83 n spec_ShareWholekp spec_ShareWholec Go.Proofs.Try.f31.results.toList spec_ShareWholers spec_ShareWholesp spec_ShareWholebs (a0, (a1, ())) () = spec_ShareWhole n a0 a1 := by
  refine Eq.trans (b := spec_ShareWhole_t n (fun k v8 v0 v6 v1 v7 => iter (interp (spec_ShareWholecs n) ty 83 0 n spec_ShareWholekp (codeAt spec_ShareWholec [1, 1, 1, 0, 1, 0, 0])) (canon 0 (spec_ShareWholekp.loop 4)) (spec_ShareWholek2 n) k (spec_ShareWholes4 v8 v0 v6 v1 v7)) a0 a1) (by kernel_rfl) ?_
  have e := congrArg (fun h4 => spec_ShareWhole_t n h4 a0 a1) (funext fun k => funext fun v8 => funext fun v0 => funext fun v6 => funext fun v1 => funext fun v7 => spec_ShareWhole_l4_eq n k v8 v0 v6 v1 v7)
  exact e

theorem spec_ShareWhole_ok (n : Nat) : FunOk P (spec_ShareWholeF n) :=
  funOk_mk (C := [spec_l00InF n, spec_l01DownF n]) (N := 83) (kp := spec_ShareWholekp) (c := spec_ShareWholec) (n := n) (G := fun x y => spec_ShareWhole n x.1 x.2.1) follows (AllOk.mem (⟨spec_l00In_ok n, ⟨spec_l01Down_ok n, trivial⟩⟩ : AllOk P ([spec_l00InF n, spec_l01DownF n]))) (by kernel_rfl : P.funcs[31]? = some Go.Proofs.Try.f31) (by kernel_rfl) (by kernel_rfl) (by kernel_rfl)
    (fun x y => spec_ShareWhole_eq n x.1 x.2.1) (fun _ _ => map_same (fun _ => rfl) _) (fun _ _ _ _ => rfl)

abbrev spec_l01Listsp : List Sp := [.v false (.list tF), .v false (.int .i64)]
abbrev spec_l01Listbs : List (Bs × Bool) := []
abbrev spec_l01Listrs : List (Bool × List Rp) := [(false, [.v false (.int .i64)])]
noncomputable def spec_l01Listkp : Keep := { loop := fun id => match id with | 2 => ([5, 0, 1], []) | _ => ([], []), join := fun id => match id with | _ => none }
noncomputable def spec_l01Listc : Code := bodyOf Go.Proofs.Try.f96
noncomputable def spec_l01ListF (n : Nat) : Fun := { id := 96, sp := spec_l01Listsp, bs := spec_l01Listbs, rs := spec_l01Listrs, f := fun x y => spec_l01List n x.1 x.2.1 }

abbrev spec_l01Lists2 (v5 : Int) (v0 : List (Int × Int)) (v1 : Int) : St := { env := [(5, .one (.sc (.int .i64 v5))), (0, .one (.list true tF v0)), (1, .one (.sc (.int .i64 v1)))], bx := [], nx := 0 }
noncomputable abbrev spec_l01Listk0 (n : Nat) := kAt ([spec_l01OkF n]) ty 27 0 n spec_l01Listkp spec_l01Listc [1, 0, 1, 0] [] (ending ty 0 Go.Proofs.Try.f96.results.toList spec_l01Listrs spec_l01Listbs)
theorem spec_l01List_l2_eq (n : Nat) : ∀ (k : Nat) (v5 : Int) (v0 : List (Int × Int)) (v1 : Int), iter (interp ([spec_l01OkF n]) ty 27 0 n spec_l01Listkp (codeAt spec_l01Listc [1, 0, 1, 0, 0])) (canon 0 (spec_l01Listkp.loop 2)) (spec_l01Listk0 n) k (spec_l01Lists2 v5 v0 v1) = spec_l01List_l2 n k v5 v0 v1
  | 0, _, _, _ => by kernel_rfl
  | k + 1, v5, v0, v1 => by
    refine Eq.trans (b := spec_l01List_t2 n (fun v5 v0 v1 => iter (interp ([spec_l01OkF n]) ty 27 0 n spec_l01Listkp (codeAt spec_l01Listc [1, 0, 1, 0, 0])) (canon 0 (spec_l01Listkp.loop 2)) (spec_l01Listk0 n) k (spec_l01Lists2 v5 v0 v1)) v5 v0 v1) (by kernel_rfl) ?_
    have e := congrArg (fun g => spec_l01List_t2 n g v5 v0 v1) (funext fun v5 => funext fun v0 => funext fun v1 => spec_l01List_l2_eq n k v5 v0 v1)
    exact e

theorem spec_l01List_eq (n : Nat) (a0 : List (Int × Int)) (a1 : Int) : runBody ([spec_l01OkF n]) ty 27 n spec_l01Listkp spec_l01Listc Go.Proofs.Try.f96.results.toList spec_l01Listrs spec_l01Listsp spec_l01Listbs (a0, (a1, ())) () = spec_l01List n a0 a1 := by
  refine Eq.trans (b := spec_l01List_t n (fun k v5 v0 v1 => iter (interp ([spec_l01OkF n]) ty 27 0 n spec_l01Listkp (codeAt spec_l01Listc [1, 0, 1, 0, 0])) (canon 0 (spec_l01Listkp.loop 2)) (spec_l01Listk0 n) k (spec_l01Lists2 v5 v0 v1)) a0 a1) (by kernel_rfl) ?_
  have e := congrArg (fun h2 => spec_l01List_t n h2 a0 a1) (funext fun k => funext fun v5 => funext fun v0 => funext fun v1 => spec_l01List_l2_eq n k v5 v0 v1)
  exact e

theorem spec_l01List_ok (n : Nat) : FunOk P (spec_l01ListF n) :=
  funOk_mk (C := [spec_l01OkF n]) (N := 27) (kp := spec_l01Listkp) (c := spec_l01Listc) (n := n) (G := fun x y => spec_l01List n x.1 x.2.1) follows (AllOk.mem (⟨spec_l01Ok_ok n, trivial⟩ : AllOk P ([spec_l01OkF n]))) (by kernel_rfl : P.funcs[96]? = some Go.Proofs.Try.f96) (by kernel_rfl) (by kernel_rfl) (by kernel_rfl)
    (fun x y => spec_l01List_eq n x.1 x.2.1) (fun _ _ => map_same (fun _ => rfl) _) (fun _ _ _ _ => rfl)

abbrev spec_SumOfsp : List Sp := [.v false (.list tF)]
abbrev spec_SumOfbs : List (Bs × Bool) := []
abbrev spec_SumOfrs : List (Bool × List Rp) := [(true, [.v false tF]), (false, [.v false (.int .i64)])]
noncomputable def spec_SumOfkp : Keep := { loop := fun id => match id with | _ => ([], []), join := fun id => match id with | _ => none }
noncomputable def spec_SumOfc : Code := bodyOf Go.Proofs.Try.f28
noncomputable def spec_SumOfF (n : Nat) : Fun := { id := 28, sp := spec_SumOfsp, bs := spec_SumOfbs, rs := spec_SumOfrs, f := fun x y => spec_SumOf n x.1 }

theorem spec_SumOf_eq (n : Nat) (a0 : List (Int × Int)) : runBody ([spec_l01ListF n, spec_l01SumF n]) ty 15 n spec_SumOfkp spec_SumOfc Go.Proofs.Try.f28.results.toList spec_SumOfrs spec_SumOfsp spec_SumOfbs (a0, ()) () = spec_SumOf n a0 := by
  refine Eq.trans (b := spec_SumOf_t n a0) (by kernel_rfl) ?_
  rfl

theorem spec_SumOf_ok (n : Nat) : FunOk P (spec_SumOfF n) :=
  funOk_mk (C := [spec_l01ListF n, spec_l01SumF n]) (N := 15) (kp := spec_SumOfkp) (c := spec_SumOfc) (n := n) (G := fun x y => spec_SumOf n x.1) follows (AllOk.mem (⟨spec_l01List_ok n, ⟨spec_l01Sum_ok n, trivial⟩⟩ : AllOk P ([spec_l01ListF n, spec_l01SumF n]))) (by kernel_rfl : P.funcs[28]? = some Go.Proofs.Try.f28) (by kernel_rfl) (by kernel_rfl) (by kernel_rfl)
    (fun x y => spec_SumOf_eq n x.1) (fun _ _ => map_same (fun _ => rfl) _) (fun _ _ _ _ => rfl)

abbrev laws_FnSharedsp : List Sp := [.v false (.list (.int .u8)), .v false (.list (.int .u8))]
abbrev laws_FnSharedbs : List (Bs × Bool) := []
abbrev laws_FnSharedrs : List (Bool × List Rp) := [(false, [.v false .bool])]
noncomputable def laws_FnSharedkp : Keep := { loop := fun id => match id with | 15 => ([14, 5, 13, 6, 1], []) | 27 => ([23, 18, 13, 22, 21, 20, 6, 5, 15], []) | _ => ([], []), join := fun id => match id with | _ => none }
noncomputable def laws_FnSharedc : Code := bodyOf Go.Proofs.Try.f4
noncomputable def laws_FnSharedF (n : Nat) : Fun := { id := 4, sp := laws_FnSharedsp, bs := laws_FnSharedbs, rs := laws_FnSharedrs, f := fun x y => laws_FnShared n x.1 x.2.1 }

noncomputable abbrev laws_FnSharedcs (n : Nat) : List Fun := [laws_f6bigF n, spec_P6ListF n, spec_P6FracF n, impl_ShareEvenlyF n, spec_ShareEvenlyF n, spec_SameFracsF n, spec_SumOfF n, spec_P6PickF n, impl_ShareWholeF n, spec_ShareWholeF n, spec_SameWholeF n, impl_RingTableF n, spec_RingTableF n, impl_CorrectionsOfF n, spec_SameTableF n]
abbrev laws_FnShareds27 (v23 : Int) (v22 : Int) (v21 : Int) (v20 : Int) (v15 : Int) (b0 : List (Int)) (b1 : List (Int)) (b2_0 : Int) (b2_1 : Int) (b3 : List (Int × Int)) : St := { env := [(23, .one (.sc (.int .i64 v23))), (18, .one (.slice 0 0 none)), (13, .one (.slice 1 0 none)), (22, .one (.sc (.int .i64 v22))), (21, .one (.sc (.int .i64 v21))), (20, .one (.sc (.int .i64 v20))), (6, .one (.ref 2 0 0 0 0 0)), (5, .one (.slice 3 0 none)), (15, .one (.sc (.int .i64 v15)))], bx := [(0, .row 0 (.int .i64) b0), (1, .row 0 (.int .i64) b1), (2, .var 26 [.sc (.int .i64 b2_0), .sc (.int .i64 b2_1)]), (3, .row 0 tF b3)], nx := 4 }
abbrev laws_FnShareds15 (v14 : Int) (v1 : List (Int)) (b0 : List (Int × Int)) (b1 : List (Int)) (b2_0 : Int) (b2_1 : Int) : St := { env := [(14, .one (.sc (.int .i64 v14))), (5, .one (.slice 0 0 none)), (13, .one (.slice 1 0 none)), (6, .one (.ref 2 0 0 0 0 0)), (1, .one (.list true (.int .u8) v1))], bx := [(0, .row 0 tF b0), (1, .row 0 (.int .i64) b1), (2, .var 26 [.sc (.int .i64 b2_0), .sc (.int .i64 b2_1)])], nx := 3 }
noncomputable abbrev laws_FnSharedk0 (n : Nat) := kAt (laws_FnSharedcs n) ty 254 0 n laws_FnSharedkp laws_FnSharedc [1, 1, 1, 1, 1, 1, 1, 1, 1, 1, 1, 1, 1, 1, 1, 1, 1, 0, 1, 0] [] (ending ty 0 Go.Proofs.Try.f4.results.toList laws_FnSharedrs laws_FnSharedbs)
noncomputable abbrev laws_FnSharedk1 (n : Nat) := kAt (laws_FnSharedcs n) ty 254 0 n laws_FnSharedkp laws_FnSharedc [1, 1, 1, 1, 1, 1, 1, 1, 1, 0, 1, 0] [] (ending ty 0 Go.Proofs.Try.f4.results.toList laws_FnSharedrs laws_FnSharedbs)
theorem laws_FnShared_l27_eq (n : Nat) : ∀ (k : Nat) (v23 : Int) (v22 : Int) (v21 : Int) (v20 : Int) (v15 : Int) (b0 : List (Int)) (b1 : List (Int)) (b2_0 : Int) (b2_1 : Int) (b3 : List (Int × Int)), iter (interp (laws_FnSharedcs n) ty 254 0 n laws_FnSharedkp (codeAt laws_FnSharedc [1, 1, 1, 1, 1, 1, 1, 1, 1, 1, 1, 1, 1, 1, 1, 1, 1, 0, 1, 0, 0])) (canon 0 (laws_FnSharedkp.loop 27)) (laws_FnSharedk0 n) k (laws_FnShareds27 v23 v22 v21 v20 v15 b0 b1 b2_0 b2_1 b3) = laws_FnShared_l27 n k v23 v22 v21 v20 v15 b0 b1 b2_0 b2_1 b3
  | 0, _, _, _, _, _, _, _, _, _, _ => by kernel_rfl
  | k + 1, v23, v22, v21, v20, v15, b0, b1, b2_0, b2_1, b3 => by
    refine Eq.trans (b := laws_FnShared_t27 n (fun v23 v22 v21 v20 v15 b0 b1 b2_0 b2_1 b3 => iter (interp (laws_FnSharedcs n) ty 254 0 n laws_FnSharedkp (codeAt laws_FnSharedc [1, 1, 1, 1, 1, 1, 1, 1, 1, 1, 1, 1, 1, 1, 1, 1, 1, 0, 1, 0, 0])) (canon 0 (laws_FnSharedkp.loop 27)) (laws_FnSharedk0 n) k (laws_FnShareds27 v23 v22 v21 v20 v15 b0 b1 b2_0 b2_1 b3)) v23 v22 v21 v20 v15 b0 b1 b2_0 b2_1 b3) (by kernel_rfl) ?_
    have e := congrArg (fun g => laws_FnShared_t27 n g v23 v22 v21 v20 v15 b0 b1 b2_0 b2_1 b3) (funext fun v23 => funext fun v22 => funext fun v21 => funext fun v20 => funext fun v15 => funext fun b0 => funext fun b1 => funext fun b2_0 => funext fun b2_1 => funext fun b3 => laws_FnShared_l27_eq n k v23 v22 v21 v20 v15 b0 b1 b2_0 b2_1 b3)
    exact e

theorem laws_FnShared_l15_eq (n : Nat) : ∀ (k : Nat) (v14 : Int) (v1 : List (Int)) (b0 : List (Int × Int)) (b1 : List (Int)) (b2_0 : Int) (b2_1 : Int), iter (interp (laws_FnSharedcs n) ty 254 0 n laws_FnSharedkp (codeAt laws_FnSharedc [1, 1, 1, 1, 1, 1, 1, 1, 1, 0, 1, 0, 0])) (canon 0 (laws_FnSharedkp.loop 15)) (laws_FnSharedk1 n) k (laws_FnShareds15 v14 v1 b0 b1 b2_0 b2_1) = laws_FnShared_l15 n k v14 v1 b0 b1 b2_0 b2_1
  | 0, _, _, _, _, _, _ => by kernel_rfl
  | k + 1, v14, v1, b0, b1, b2_0, b2_1 => by
    refine Eq.trans (b := laws_FnShared_t15 n (fun k' v23 v22 v21 v20 v15 b0 b1 b2_0 b2_1 b3 => iter (interp (laws_FnSharedcs n) ty 254 0 n laws_FnSharedkp (codeAt laws_FnSharedc [1, 1, 1, 1, 1, 1, 1, 1, 1, 1, 1, 1, 1, 1, 1, 1, 1, 0, 1, 0, 0])) (canon 0 (laws_FnSharedkp.loop 27)) (laws_FnSharedk0 n) k' (laws_FnShareds27 v23 v22 v21 v20 v15 b0 b1 b2_0 b2_1 b3)) (fun v14 v1 b0 b1 b2_0 b2_1 => iter (interp (laws_FnSharedcs n) ty 254 0 n laws_FnSharedkp (codeAt laws_FnSharedc [1, 1, 1, 1, 1, 1, 1, 1, 1, 0, 1, 0, 0])) (canon 0 (laws_FnSharedkp.loop 15)) (laws_FnSharedk1 n) k (laws_FnShareds15 v14 v1 b0 b1 b2_0 b2_1)) v14 v1 b0 b1 b2_0 b2_1) (by kernel_rfl) ?_
    have e := congr (congrArg (fun h27 g => laws_FnShared_t15 n h27 g v14 v1 b0 b1 b2_0 b2_1) (funext fun k' => funext fun v23 => funext fun v22 => funext fun v21 => funext fun v20 => funext fun v15 => funext fun b0 => funext fun b1 => funext fun b2_0 => funext fun b2_1 => funext fun b3 => laws_FnShared_l27_eq n k' v23 v22 v21 v20 v15 b0 b1 b2_0 b2_1 b3)) (funext fun v14 => funext fun v1 => funext fun b0 => funext fun b1 => funext fun b2_0 => funext fun b2_1 => laws_FnShared_l15_eq n k v14 v1 b0 b1 b2_0 b2_1)
    exact e

theorem laws_FnShared_eq (n : Nat) (a0 : List (Int)) (a1 : List (Int)) : runBody (laws_FnSharedcs n) ty 254 n laws_FnSharedkp laws_FnSharedc Go.Proofs.Try.f4.results.toList laws_FnSharedrs laws_FnSharedsp laws_FnSharedbs (a0, (a1, ())) () = laws_FnShared n a0 a1 := by
  refine Eq.trans (b := laws_FnShared_t n (fun k v14 v1 b0 b1 b2_0 b2_1 => iter (interp (laws_FnSharedcs n) ty 254 0 n laws_FnSharedkp (codeAt laws_FnSharedc [1, 1, 1, 1, 1, 1, 1, 1, 1, 0, 1, 0, 0])) (canon 0 (laws_FnSharedkp.loop 15)) (laws_FnSharedk1 n) k (laws_FnShareds15 v14 v1 b0 b1 b2_0 b2_1)) a0 a1) (by kernel_rfl) ?_
  have e := congrArg (fun h15 => laws_FnShared_t n h15 a0 a1) (funext fun k => funext fun v14 => funext fun v1 => funext fun b0 => funext fun b1 => funext fun b2_0 => funext fun b2_1 => laws_FnShared_l15_eq n k v14 v1 b0 b1 b2_0 b2_1)
  exact e

theorem laws_FnShared_ok (n : Nat) : FunOk P (laws_FnSharedF n) :=
  funOk_mk (C := [laws_f6bigF n, spec_P6ListF n, spec_P6FracF n, impl_ShareEvenlyF n, spec_ShareEvenlyF n, spec_SameFracsF n, spec_SumOfF n, spec_P6PickF n, impl_ShareWholeF n, spec_ShareWholeF n, spec_SameWholeF n, impl_RingTableF n, spec_RingTableF n, impl_CorrectionsOfF n, spec_SameTableF n]) (N := 254) (kp := laws_FnSharedkp) (c := laws_FnSharedc) (n := n) (G := fun x y => laws_FnShared n x.1 x.2.1) follows (AllOk.mem (⟨laws_f6big_ok n, ⟨spec_P6List_ok n, ⟨spec_P6Frac_ok n, ⟨impl_ShareEvenly_ok n, ⟨spec_ShareEvenly_ok n, ⟨spec_SameFracs_ok n, ⟨spec_SumOf_ok n, ⟨spec_P6Pick_ok n, ⟨impl_ShareWhole_ok n, ⟨spec_ShareWhole_ok n, ⟨spec_SameWhole_ok n, ⟨impl_RingTable_ok n, ⟨spec_RingTable_ok n, ⟨impl_CorrectionsOf_ok n, ⟨spec_SameTable_ok n, trivial⟩⟩⟩⟩⟩⟩⟩⟩⟩⟩⟩⟩⟩⟩⟩ : AllOk P ([laws_f6bigF n, spec_P6ListF n, spec_P6FracF n, impl_ShareEvenlyF n, spec_ShareEvenlyF n, spec_SameFracsF n, spec_SumOfF n, spec_P6PickF n, impl_ShareWholeF n, spec_ShareWholeF n, spec_SameWholeF n, impl_RingTableF n, spec_RingTableF n, impl_CorrectionsOfF n, spec_SameTableF n]))) (by kernel_rfl : P.funcs[4]? = some Go.Proofs.Try.f4) (by kernel_rfl) (by kernel_rfl) (by kernel_rfl)
    (fun x y => laws_FnShared_eq n x.1 x.2.1) (fun _ _ => map_same (fun _ => rfl) _) (fun _ _ _ _ => rfl)

end Go.Abs
