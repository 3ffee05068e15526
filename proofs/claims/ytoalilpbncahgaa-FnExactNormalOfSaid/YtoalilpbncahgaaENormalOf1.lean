import Derived.Test.YtoalilpbncahgaaENormalOf0
import Derived.KernelRfl
namespace Go.Abs
open Go.Proofs
set_option maxRecDepth 100000
set_option linter.unusedVariables false

abbrev spec_l04Oksp : List Sp := [.ref 0]
abbrev spec_l04Okbs : List (Bs × Bool) := [(.var 28 (.pair (.int .i64) (.pair (.list (.pair (.pair (.int .i8) (.pair (.int .i8) (.pair (.int .i8) (.pair (.int .i8) (.pair (.int .i8) (.int .i8)))))) (.pair (.pair (.int .i64) (.int .i64)) (.int .i64)))) (.pair .bool (.pair (.int .i64) (.int .i64))))), true)]
abbrev spec_l04Okrs : List (Bool × List Rp) := [(false, [.v false .bool])]
noncomputable def spec_l04Okkp : Keep := { loop := fun id => match id with | 4 => ([3, 0], []) | _ => ([], []), join := fun id => match id with | _ => none }
noncomputable def spec_l04Okc : Code := bodyOf Go.Proofs.Try.f58
noncomputable def spec_l04OkF (n : Nat) : Fun := { id := 58, sp := spec_l04Oksp, bs := spec_l04Okbs, rs := spec_l04Okrs, f := fun x y => spec_l04Ok n y.1 }

theorem spec_l04Ok_l4_eq (n : Nat) : ∀ (k : Nat) (v3 : Int) (b0_0 : Int) (b0_1 : List (((Int) × ((Int) × ((Int) × ((Int) × ((Int) × (Int)))))) × (((Int) × (Int)) × (Int)))) (b0_2 : Bool) (b0_3 : Int) (b0_4 : Int), iter (interp ([spec_l00InF n, spec_l01OkF n, spec_l04Obs_eF n]) ty 62 1 n spec_l04Okkp (codeAt spec_l04Okc [1, 1, 0, 1, 0, 0])) (canon 1 (spec_l04Okkp.loop 4)) (kAt ([spec_l00InF n, spec_l01OkF n, spec_l04Obs_eF n]) ty 62 1 n spec_l04Okkp spec_l04Okc [1, 1, 0, 1, 0] [] (ending ty 1 Go.Proofs.Try.f58.results.toList spec_l04Okrs spec_l04Okbs)) k { env := [(3, .one (.sc (.int .i64 v3))), (0, .one (.ref 0 0 0 0 0 0))], bx := [(0, .var 28 [.sc (.int .i64 b0_0), .list true (.pair (.pair (.int .i8) (.pair (.int .i8) (.pair (.int .i8) (.pair (.int .i8) (.pair (.int .i8) (.int .i8)))))) (.pair (.pair (.int .i64) (.int .i64)) (.int .i64))) b0_1, .sc (.bool b0_2), .sc (.int .i64 b0_3), .sc (.int .i64 b0_4)])], nx := 1 } = spec_l04Ok_l4 n k v3 b0_0 b0_1 b0_2 b0_3 b0_4
  | 0, _, _, _, _, _, _ => by kernel_rfl
  | k + 1, v3, b0_0, b0_1, b0_2, b0_3, b0_4 => by
    have h : iter (interp ([spec_l00InF n, spec_l01OkF n, spec_l04Obs_eF n]) ty 62 1 n spec_l04Okkp (codeAt spec_l04Okc [1, 1, 0, 1, 0, 0])) (canon 1 (spec_l04Okkp.loop 4)) (kAt ([spec_l00InF n, spec_l01OkF n, spec_l04Obs_eF n]) ty 62 1 n spec_l04Okkp spec_l04Okc [1, 1, 0, 1, 0] [] (ending ty 1 Go.Proofs.Try.f58.results.toList spec_l04Okrs spec_l04Okbs)) (k + 1) { env := [(3, .one (.sc (.int .i64 v3))), (0, .one (.ref 0 0 0 0 0 0))], bx := [(0, .var 28 [.sc (.int .i64 b0_0), .list true (.pair (.pair (.int .i8) (.pair (.int .i8) (.pair (.int .i8) (.pair (.int .i8) (.pair (.int .i8) (.int .i8)))))) (.pair (.pair (.int .i64) (.int .i64)) (.int .i64))) b0_1, .sc (.bool b0_2), .sc (.int .i64 b0_3), .sc (.int .i64 b0_4)])], nx := 1 } = spec_l04Ok_t4 n (fun v3 b0_0 b0_1 b0_2 b0_3 b0_4 => iter (interp ([spec_l00InF n, spec_l01OkF n, spec_l04Obs_eF n]) ty 62 1 n spec_l04Okkp (codeAt spec_l04Okc [1, 1, 0, 1, 0, 0])) (canon 1 (spec_l04Okkp.loop 4)) (kAt ([spec_l00InF n, spec_l01OkF n, spec_l04Obs_eF n]) ty 62 1 n spec_l04Okkp spec_l04Okc [1, 1, 0, 1, 0] [] (ending ty 1 Go.Proofs.Try.f58.results.toList spec_l04Okrs spec_l04Okbs)) k { env := [(3, .one (.sc (.int .i64 v3))), (0, .one (.ref 0 0 0 0 0 0))], bx := [(0, .var 28 [.sc (.int .i64 b0_0), .list true (.pair (.pair (.int .i8) (.pair (.int .i8) (.pair (.int .i8) (.pair (.int .i8) (.pair (.int .i8) (.int .i8)))))) (.pair (.pair (.int .i64) (.int .i64)) (.int .i64))) b0_1, .sc (.bool b0_2), .sc (.int .i64 b0_3), .sc (.int .i64 b0_4)])], nx := 1 }) v3 b0_0 b0_1 b0_2 b0_3 b0_4 := by kernel_rfl
    rw [h]
    have e := congrArg (fun g => spec_l04Ok_t4 n g v3 b0_0 b0_1 b0_2 b0_3 b0_4) (funext fun v3 => funext fun b0_0 => funext fun b0_1 => funext fun b0_2 => funext fun b0_3 => funext fun b0_4 => spec_l04Ok_l4_eq n k v3 b0_0 b0_1 b0_2 b0_3 b0_4)
    exact e

theorem spec_l04Ok_eq (n : Nat) (b0 : (Int) × ((List (((Int) × ((Int) × ((Int) × ((Int) × ((Int) × (Int)))))) × (((Int) × (Int)) × (Int)))) × ((Bool) × ((Int) × (Int))))) : runBody ([spec_l00InF n, spec_l01OkF n, spec_l04Obs_eF n]) ty 62 n spec_l04Okkp spec_l04Okc Go.Proofs.Try.f58.results.toList spec_l04Okrs spec_l04Oksp spec_l04Okbs ((), ()) (b0, ()) = spec_l04Ok n b0 := by
  have h : runBody ([spec_l00InF n, spec_l01OkF n, spec_l04Obs_eF n]) ty 62 n spec_l04Okkp spec_l04Okc Go.Proofs.Try.f58.results.toList spec_l04Okrs spec_l04Oksp spec_l04Okbs ((), ()) (b0, ()) = spec_l04Ok_t n (fun k v3 b0_0 b0_1 b0_2 b0_3 b0_4 => iter (interp ([spec_l00InF n, spec_l01OkF n, spec_l04Obs_eF n]) ty 62 1 n spec_l04Okkp (codeAt spec_l04Okc [1, 1, 0, 1, 0, 0])) (canon 1 (spec_l04Okkp.loop 4)) (kAt ([spec_l00InF n, spec_l01OkF n, spec_l04Obs_eF n]) ty 62 1 n spec_l04Okkp spec_l04Okc [1, 1, 0, 1, 0] [] (ending ty 1 Go.Proofs.Try.f58.results.toList spec_l04Okrs spec_l04Okbs)) k { env := [(3, .one (.sc (.int .i64 v3))), (0, .one (.ref 0 0 0 0 0 0))], bx := [(0, .var 28 [.sc (.int .i64 b0_0), .list true (.pair (.pair (.int .i8) (.pair (.int .i8) (.pair (.int .i8) (.pair (.int .i8) (.pair (.int .i8) (.int .i8)))))) (.pair (.pair (.int .i64) (.int .i64)) (.int .i64))) b0_1, .sc (.bool b0_2), .sc (.int .i64 b0_3), .sc (.int .i64 b0_4)])], nx := 1 }) b0 := by kernel_rfl
  rw [h]
  have e := congrArg (fun h4 => spec_l04Ok_t n h4 b0) (funext fun k => funext fun v3 => funext fun b0_0 => funext fun b0_1 => funext fun b0_2 => funext fun b0_3 => funext fun b0_4 => spec_l04Ok_l4_eq n k v3 b0_0 b0_1 b0_2 b0_3 b0_4)
  exact e

theorem spec_l04Ok_ok (n : Nat) : FunOk P (spec_l04OkF n) :=
  funOk_mk (C := [spec_l00InF n, spec_l01OkF n, spec_l04Obs_eF n]) (N := 62) (kp := spec_l04Okkp) (c := spec_l04Okc) (n := n) (G := fun x y => spec_l04Ok n y.1) follows (AllOk.mem (⟨spec_l00In_ok n, ⟨spec_l01Ok_ok n, ⟨spec_l04Obs_e_ok n, trivial⟩⟩⟩ : AllOk P ([spec_l00InF n, spec_l01OkF n, spec_l04Obs_eF n]))) (by kernel_rfl : P.funcs[58]? = some Go.Proofs.Try.f58) (by kernel_rfl) (by kernel_rfl) (by kernel_rfl)
    (fun x y => spec_l04Ok_eq n y.1) (fun _ _ => map_same (fun _ => rfl) _) (fun _ _ _ _ => rfl)

abbrev spec_NormalOfsp : List Sp := [.v true (.pair (.int .i64) (.pair (.list (.pair (.pair (.int .i8) (.pair (.int .i8) (.pair (.int .i8) (.pair (.int .i8) (.pair (.int .i8) (.int .i8)))))) (.pair (.pair (.int .i64) (.int .i64)) (.int .i64)))) (.pair .bool (.pair (.int .i64) (.int .i64)))))]
abbrev spec_NormalOfbs : List (Bs × Bool) := []
abbrev spec_NormalOfrs : List (Bool × List Rp) := [(false, [.new  (.list (.pair (.int .i64) (.int .i64)))]), (false, [.new  (.pair (.int .i64) (.int .i64))]), (false, [.v false (.int .i64)])]
noncomputable def spec_NormalOfkp : Keep := { loop := fun id => match id with | _ => ([], []), join := fun id => match id with | _ => none }
noncomputable def spec_NormalOfc : Code := bodyOf Go.Proofs.Try.f12
noncomputable def spec_NormalOfF (n : Nat) : Fun := { id := 12, sp := spec_NormalOfsp, bs := spec_NormalOfbs, rs := spec_NormalOfrs, f := fun x y => spec_NormalOf n x.1 }

theorem spec_NormalOf_eq (n : Nat) (a0 : (Int) × ((List (((Int) × ((Int) × ((Int) × ((Int) × ((Int) × (Int)))))) × (((Int) × (Int)) × (Int)))) × ((Bool) × ((Int) × (Int))))) : runBody ([spec_l04OkF n, spec_l04NormalF n]) ty 13 n spec_NormalOfkp spec_NormalOfc Go.Proofs.Try.f12.results.toList spec_NormalOfrs spec_NormalOfsp spec_NormalOfbs (a0, ()) () = spec_NormalOf n a0 := by
  have h : runBody ([spec_l04OkF n, spec_l04NormalF n]) ty 13 n spec_NormalOfkp spec_NormalOfc Go.Proofs.Try.f12.results.toList spec_NormalOfrs spec_NormalOfsp spec_NormalOfbs (a0, ()) () = spec_NormalOf_t n a0 := by kernel_rfl
  rw [h]
  rfl

theorem spec_NormalOf_ok (n : Nat) : FunOk P (spec_NormalOfF n) :=
  funOk_mk (C := [spec_l04OkF n, spec_l04NormalF n]) (N := 13) (kp := spec_NormalOfkp) (c := spec_NormalOfc) (n := n) (G := fun x y => spec_NormalOf n x.1) follows (AllOk.mem (⟨spec_l04Ok_ok n, ⟨spec_l04Normal_ok n, trivial⟩⟩ : AllOk P ([spec_l04OkF n, spec_l04NormalF n]))) (by kernel_rfl : P.funcs[12]? = some Go.Proofs.Try.f12) (by kernel_rfl) (by kernel_rfl) (by kernel_rfl)
    (fun x y => spec_NormalOf_eq n x.1) (fun _ _ => map_same (fun _ => rfl) _) (fun _ _ _ _ => rfl)

abbrev laws_FnExactNormalOfsp : List Sp := [.v true (.pair (.int .i64) (.pair (.list (.pair (.pair (.int .i8) (.pair (.int .i8) (.pair (.int .i8) (.pair (.int .i8) (.pair (.int .i8) (.int .i8)))))) (.pair (.pair (.int .i64) (.int .i64)) (.int .i64)))) (.pair .bool (.pair (.int .i64) (.int .i64)))))]
abbrev laws_FnExactNormalOfbs : List (Bs × Bool) := []
abbrev laws_FnExactNormalOfrs : List (Bool × List Rp) := [(false, [.v false .bool])]
noncomputable def laws_FnExactNormalOfkp : Keep := { loop := fun id => match id with | _ => ([], []), join := fun id => match id with | _ => none }
noncomputable def laws_FnExactNormalOfc : Code := bodyOf Go.Proofs.Try.f7
noncomputable def laws_FnExactNormalOfF (n : Nat) : Fun := { id := 7, sp := laws_FnExactNormalOfsp, bs := laws_FnExactNormalOfbs, rs := laws_FnExactNormalOfrs, f := fun x y => laws_FnExactNormalOf n x.1 }

theorem laws_FnExactNormalOf_eq (n : Nat) (a0 : (Int) × ((List (((Int) × ((Int) × ((Int) × ((Int) × ((Int) × (Int)))))) × (((Int) × (Int)) × (Int)))) × ((Bool) × ((Int) × (Int))))) : runBody ([laws_szTableF n, laws_toTableF n, spec_NormalOfF n, impl_NormalOfF n, laws_eqFracSSF n, laws_eqFracSF n, laws_eqTableF n, laws_markTableF n, laws_markFracSSF n, laws_markFracSF n, laws_heldFracSSF n, laws_heldFracSF n]) typ 133 n laws_FnExactNormalOfkp laws_FnExactNormalOfc Go.Proofs.Try.f7.results.toList laws_FnExactNormalOfrs laws_FnExactNormalOfsp laws_FnExactNormalOfbs (a0, ()) () = laws_FnExactNormalOf n a0 := by
  have h : runBody ([laws_szTableF n, laws_toTableF n, spec_NormalOfF n, impl_NormalOfF n, laws_eqFracSSF n, laws_eqFracSF n, laws_eqTableF n, laws_markTableF n, laws_markFracSSF n, laws_markFracSF n, laws_heldFracSSF n, laws_heldFracSF n]) typ 133 n laws_FnExactNormalOfkp laws_FnExactNormalOfc Go.Proofs.Try.f7.results.toList laws_FnExactNormalOfrs laws_FnExactNormalOfsp laws_FnExactNormalOfbs (a0, ()) () = laws_FnExactNormalOf_t n a0 := by kernel_rfl
  rw [h]
  rfl

theorem laws_FnExactNormalOf_ok (n : Nat) : FunOk P (laws_FnExactNormalOfF n) :=
  funOk_mkP (C := [laws_szTableF n, laws_toTableF n, spec_NormalOfF n, impl_NormalOfF n, laws_eqFracSSF n, laws_eqFracSF n, laws_eqTableF n, laws_markTableF n, laws_markFracSSF n, laws_markFracSF n, laws_heldFracSSF n, laws_heldFracSF n]) (N := 133) (kp := laws_FnExactNormalOfkp) (c := laws_FnExactNormalOfc) (n := n) (G := fun x y => laws_FnExactNormalOf n x.1) follows (AllOk.mem (⟨laws_szTable_ok n, ⟨laws_toTable_ok n, ⟨spec_NormalOf_ok n, ⟨impl_NormalOf_ok n, ⟨laws_eqFracSS_ok n, ⟨laws_eqFracS_ok n, ⟨laws_eqTable_ok n, ⟨laws_markTable_ok n, ⟨laws_markFracSS_ok n, ⟨laws_markFracS_ok n, ⟨laws_heldFracSS_ok n, ⟨laws_heldFracS_ok n, trivial⟩⟩⟩⟩⟩⟩⟩⟩⟩⟩⟩⟩ : AllOk P ([laws_szTableF n, laws_toTableF n, spec_NormalOfF n, impl_NormalOfF n, laws_eqFracSSF n, laws_eqFracSF n, laws_eqTableF n, laws_markTableF n, laws_markFracSSF n, laws_markFracSF n, laws_heldFracSSF n, laws_heldFracSF n]))) (by kernel_rfl : P.funcs[7]? = some Go.Proofs.Try.f7) (by kernel_rfl) (by kernel_rfl) (by kernel_rfl)
    (fun x y => laws_FnExactNormalOf_eq n x.1) (fun _ _ => map_same (fun _ => rfl) _) (fun _ _ _ _ => rfl)

end Go.Abs
