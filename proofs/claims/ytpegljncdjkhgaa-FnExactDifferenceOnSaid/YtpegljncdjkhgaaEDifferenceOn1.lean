import Derived.Test.YtpegljncdjkhgaaEDifferenceOn0
import Derived.KernelRfl
namespace Go.Abs
open Go.Proofs
set_option maxRecDepth 100000
set_option linter.unusedVariables false

abbrev laws_FnExactDifferenceOnsp : List Sp := [.v false (.list (.pair .str (.pair (.int .i64) (.pair (.pair (.pair (.int .i64) (.int .i64)) (.pair (.int .i64) (.int .i64))) (.pair (.pair (.int .i64) (.int .i64)) (.pair (.int .i64) (.int .i64))))))), .v false (.int .i64), .v false (.int .i64), .v false (.int .i64)]
abbrev laws_FnExactDifferenceOnbs : List (Bs × Bool) := []
abbrev laws_FnExactDifferenceOnrs : List (Bool × List Rp) := [(false, [.v false .bool])]
noncomputable def laws_FnExactDifferenceOnkp : Keep := { loop := fun id => match id with | _ => ([], []), join := fun id => match id with | _ => none }
noncomputable def laws_FnExactDifferenceOnc : Code := bodyOf Go.Proofs.Try.f4
noncomputable def laws_FnExactDifferenceOnF (n : Nat) : Fun := { id := 4, sp := laws_FnExactDifferenceOnsp, bs := laws_FnExactDifferenceOnbs, rs := laws_FnExactDifferenceOnrs, f := fun x y => laws_FnExactDifferenceOn n x.1 x.2.1 x.2.2.1 x.2.2.2.1 }

theorem laws_FnExactDifferenceOn_eq (n : Nat) (a0 : List ((ByteArray) × ((Int) × ((((Int) × (Int)) × ((Int) × (Int))) × (((Int) × (Int)) × ((Int) × (Int))))))) (a1 : Int) (a2 : Int) (a3 : Int) : runBody ([laws_szStandardSF n, laws_toStandardSF n, spec_DifferenceOnF n, impl_DifferenceOnF n, laws_eqSpanF n, laws_eqStandardSF n]) ty 53 n laws_FnExactDifferenceOnkp laws_FnExactDifferenceOnc Go.Proofs.Try.f4.results.toList laws_FnExactDifferenceOnrs laws_FnExactDifferenceOnsp laws_FnExactDifferenceOnbs (a0, (a1, (a2, (a3, ())))) () = laws_FnExactDifferenceOn n a0 a1 a2 a3 := by
  have h : runBody ([laws_szStandardSF n, laws_toStandardSF n, spec_DifferenceOnF n, impl_DifferenceOnF n, laws_eqSpanF n, laws_eqStandardSF n]) ty 53 n laws_FnExactDifferenceOnkp laws_FnExactDifferenceOnc Go.Proofs.Try.f4.results.toList laws_FnExactDifferenceOnrs laws_FnExactDifferenceOnsp laws_FnExactDifferenceOnbs (a0, (a1, (a2, (a3, ())))) () = laws_FnExactDifferenceOn_t n a0 a1 a2 a3 := by kernel_rfl
  rw [h]
  rfl

theorem laws_FnExactDifferenceOn_ok (n : Nat) : FunOk P (laws_FnExactDifferenceOnF n) :=
  funOk_mk (C := [laws_szStandardSF n, laws_toStandardSF n, spec_DifferenceOnF n, impl_DifferenceOnF n, laws_eqSpanF n, laws_eqStandardSF n]) (N := 53) (kp := laws_FnExactDifferenceOnkp) (c := laws_FnExactDifferenceOnc) (n := n) (G := fun x y => laws_FnExactDifferenceOn n x.1 x.2.1 x.2.2.1 x.2.2.2.1) follows (AllOk.mem (⟨laws_szStandardS_ok n, ⟨laws_toStandardS_ok n, ⟨spec_DifferenceOn_ok n, ⟨impl_DifferenceOn_ok n, ⟨laws_eqSpan_ok n, ⟨laws_eqStandardS_ok n, trivial⟩⟩⟩⟩⟩⟩ : AllOk P ([laws_szStandardSF n, laws_toStandardSF n, spec_DifferenceOnF n, impl_DifferenceOnF n, laws_eqSpanF n, laws_eqStandardSF n]))) (by kernel_rfl : P.funcs[4]? = some Go.Proofs.Try.f4) (by kernel_rfl) (by kernel_rfl) (by kernel_rfl)
    (fun x y => laws_FnExactDifferenceOn_eq n x.1 x.2.1 x.2.2.1 x.2.2.2.1) (fun _ _ => map_same (fun _ => rfl) _) (fun _ _ _ _ => rfl)

end Go.Abs
