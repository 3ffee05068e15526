import Derived.Test.YtpamckmeeamjjaaDoorDAngleText0
import Derived.Test.YtpamckmeeamjjaaDoorProg
import Derived.Test.YtpamckmeeamjjaaDoorRowD
import Derived.Test.YtpamckmeeamjjaaDoorShelf
import Derived.KernelRfl
namespace Go.Abs
open Go.Proofs
set_option maxRecDepth 100000
set_option linter.unusedVariables false

noncomputable abbrev P : Program := Tryd.prog
noncomputable abbrev ty : Nat → Option TyI := tyOf P
def bodyOf (f : Func) : Code := match f.body with | some c => c | none => .skip
theorem follows : P.follows .mixedOrders = true := by kernel_rfl

theorem globPow : P.globalNamed "internal/strconv.uint64pow10" = some 3 := by kernel_rfl
noncomputable instance : Laid P where
  g := fun b => b = 3
  L := fun w => (Go.Lib.TabIs P w "internal/strconv.uint64pow10" .u64 Go.Lib.pow10Tab)
  keep := fun w w' h hl => tab_keep globPow (h 3 (rfl)) (hl)
theorem laidPow {w : World} (h : Laid.L P w) : Go.Lib.TabIs P w "internal/strconv.uint64pow10" .u64 Go.Lib.pow10Tab := h
theorem laid_lt {w : World} (h : Laid.L P w) : ∀ blk, Laid.g P blk → blk < w.heap.size := by
  intro blk hb
  rcases (show blk = 3 from hb) with rfl
  · exact var_lt globPow (laidPow h)

abbrev strconv_FormatIntsp : List Sp := [.v false (.int .i64), .v false (.int .i64)]
abbrev strconv_FormatIntbs : List (Bs × Bool) := []
abbrev strconv_FormatIntrs : List (Bool × List Rp) := [(false, [.v false .str])]
noncomputable def strconv_FormatIntF (n : Nat) : Fun := { id := 70, sp := strconv_FormatIntsp, bs := strconv_FormatIntbs, rs := strconv_FormatIntrs, f := fun x y => strconv_FormatInt n x.1 x.2.1 }

theorem strconv_FormatInt_ok (n : Nat) : FunOk P (strconv_FormatIntF n) := by
  refine ⟨⟨Go.Proofs.Tryd.f70, bodyOf Go.Proofs.Tryd.f70, Go.Proofs.Tryd.func70, by kernel_rfl, by kernel_rfl⟩, ?_⟩
  intro x y r hr w I J β vs hG hg hL hv
  have hr' : cond ((decide (-9223372036854775808 ≤ x.1) && decide (x.1 ≤ 9223372036854775807)) && (x.2.1 == 10)) (some ((((ByteArray.mk (Go.Lib.itoa x.1).toArray, ()), ()), ()))) none = some r := hr
  cases hc : ((decide (-9223372036854775808 ≤ x.1) && decide (x.1 ≤ 9223372036854775807)) && (x.2.1 == 10)) with
  | false => rw [hc, cond_false] at hr'; cases hr'
  | true =>
    rw [hc, cond_true] at hr'
    injection hr' with hr'
    subst hr'
    simp only [Bool.and_eq_true, decide_eq_true_eq, beq_iff_eq] at hc
    obtain ⟨⟨h0, h1⟩, h2⟩ := hc
    have hv' : RVs I J β (listF []) w [.one (.sc (.int .i64 x.1)), .one (.sc (.int .i64 x.2.1))] vs := hv
    have e := args_ii hv'
    rw [h2] at e
    subst e
    exact leaf_call (v := .one (.sc (.string (ByteArray.mk (Go.Lib.itoa x.1).toArray)))) hG ((Go.Proofs.Tryd.strconv_FormatInt_10 x.1 h0 h1 w (laidPow hL)).mono fun e w' ⟨he, k, os, hw⟩ => ⟨_, he, rfl, hw ▸ wstep_grow k os⟩)

abbrev impl_decsp : List Sp := [.v false (.int .i64)]
abbrev impl_decbs : List (Bs × Bool) := []
abbrev impl_decrs : List (Bool × List Rp) := [(false, [.v false .str])]
noncomputable def impl_deckp : Keep := { loop := fun id => match id with | _ => ([], []), join := fun id => match id with | _ => none }
noncomputable def impl_decc : Code := bodyOf Go.Proofs.Tryd.f49
noncomputable def impl_decF (n : Nat) : Fun := { id := 49, sp := impl_decsp, bs := impl_decbs, rs := impl_decrs, f := fun x y => impl_dec n x.1 }

theorem impl_dec_eq (n : Nat) (a0 : Int) : runBody ([strconv_FormatIntF n]) ty 5 n impl_deckp impl_decc Go.Proofs.Tryd.f49.results.toList impl_decrs impl_decsp impl_decbs (a0, ()) () = impl_dec n a0 := by
  have h : runBody ([strconv_FormatIntF n]) ty 5 n impl_deckp impl_decc Go.Proofs.Tryd.f49.results.toList impl_decrs impl_decsp impl_decbs (a0, ()) () = impl_dec_t n a0 := by kernel_rfl
  rw [h]
  rfl

theorem impl_dec_ok (n : Nat) : FunOk P (impl_decF n) :=
  funOk_mk (C := [strconv_FormatIntF n]) (N := 5) (kp := impl_deckp) (c := impl_decc) (n := n) (G := fun x y => impl_dec n x.1) follows (AllOk.mem (⟨strconv_FormatInt_ok n, trivial⟩ : AllOk P ([strconv_FormatIntF n]))) (by kernel_rfl : P.funcs[49]? = some Go.Proofs.Tryd.f49) (by kernel_rfl) (by kernel_rfl) (by kernel_rfl)
    (fun x y => impl_dec_eq n x.1) (fun _ _ => map_same (fun _ => rfl) _) (fun _ _ _ _ => rfl)

abbrev impl_withinsp : List Sp := [.v false (.int .i64), .v false (.int .i64), .v false (.int .i64)]
abbrev impl_withinbs : List (Bs × Bool) := []
abbrev impl_withinrs : List (Bool × List Rp) := [(false, [.v false .bool])]
noncomputable def impl_withinkp : Keep := { loop := fun id => match id with | _ => ([], []), join := fun id => match id with | _ => none }
noncomputable def impl_withinc : Code := bodyOf Go.Proofs.Tryd.f39
noncomputable def impl_withinF (n : Nat) : Fun := { id := 39, sp := impl_withinsp, bs := impl_withinbs, rs := impl_withinrs, f := fun x y => impl_within n x.1 x.2.1 x.2.2.1 }

theorem impl_within_eq (n : Nat) (a0 : Int) (a1 : Int) (a2 : Int) : runBody ([]) ty 15 n impl_withinkp impl_withinc Go.Proofs.Tryd.f39.results.toList impl_withinrs impl_withinsp impl_withinbs (a0, (a1, (a2, ()))) () = impl_within n a0 a1 a2 := by
  have h : runBody ([]) ty 15 n impl_withinkp impl_withinc Go.Proofs.Tryd.f39.results.toList impl_withinrs impl_withinsp impl_withinbs (a0, (a1, (a2, ()))) () = impl_within_t n a0 a1 a2 := by kernel_rfl
  rw [h]
  rfl

theorem impl_within_ok (n : Nat) : FunOk P (impl_withinF n) :=
  funOk_mk (C := []) (N := 15) (kp := impl_withinkp) (c := impl_withinc) (n := n) (G := fun x y => impl_within n x.1 x.2.1 x.2.2.1) follows (AllOk.mem (trivial : AllOk P ([]))) (by kernel_rfl : P.funcs[39]? = some Go.Proofs.Tryd.f39) (by kernel_rfl) (by kernel_rfl) (by kernel_rfl)
    (fun x y => impl_within_eq n x.1 x.2.1 x.2.2.1) (fun _ _ => map_same (fun _ => rfl) _) (fun _ _ _ _ => rfl)

abbrev impl_isAnglesp : List Sp := [.v false (.int .i64)]
abbrev impl_isAnglebs : List (Bs × Bool) := []
abbrev impl_isAnglers : List (Bool × List Rp) := [(false, [.v false .bool])]
noncomputable def impl_isAnglekp : Keep := { loop := fun id => match id with | _ => ([], []), join := fun id => match id with | _ => none }
noncomputable def impl_isAnglec : Code := bodyOf Go.Proofs.Tryd.f48
noncomputable def impl_isAngleF (n : Nat) : Fun := { id := 48, sp := impl_isAnglesp, bs := impl_isAnglebs, rs := impl_isAnglers, f := fun x y => impl_isAngle n x.1 }

theorem impl_isAngle_eq (n : Nat) (a0 : Int) : runBody ([impl_withinF n]) ty 5 n impl_isAnglekp impl_isAnglec Go.Proofs.Tryd.f48.results.toList impl_isAnglers impl_isAnglesp impl_isAnglebs (a0, ()) () = impl_isAngle n a0 := by
  have h : runBody ([impl_withinF n]) ty 5 n impl_isAnglekp impl_isAnglec Go.Proofs.Tryd.f48.results.toList impl_isAnglers impl_isAnglesp impl_isAnglebs (a0, ()) () = impl_isAngle_t n a0 := by kernel_rfl
  rw [h]
  rfl

theorem impl_isAngle_ok (n : Nat) : FunOk P (impl_isAngleF n) :=
  funOk_mk (C := [impl_withinF n]) (N := 5) (kp := impl_isAnglekp) (c := impl_isAnglec) (n := n) (G := fun x y => impl_isAngle n x.1) follows (AllOk.mem (⟨impl_within_ok n, trivial⟩ : AllOk P ([impl_withinF n]))) (by kernel_rfl : P.funcs[48]? = some Go.Proofs.Tryd.f48) (by kernel_rfl) (by kernel_rfl) (by kernel_rfl)
    (fun x y => impl_isAngle_eq n x.1) (fun _ _ => map_same (fun _ => rfl) _) (fun _ _ _ _ => rfl)

abbrev impl_twosp : List Sp := [.v false (.int .i64)]
abbrev impl_twobs : List (Bs × Bool) := []
abbrev impl_twors : List (Bool × List Rp) := [(false, [.v false .str])]
noncomputable def impl_twokp : Keep := { loop := fun id => match id with | _ => ([], []), join := fun id => match id with | _ => none }
noncomputable def impl_twoc : Code := bodyOf Go.Proofs.Tryd.f50
noncomputable def impl_twoF (n : Nat) : Fun := { id := 50, sp := impl_twosp, bs := impl_twobs, rs := impl_twors, f := fun x y => impl_two n x.1 }

theorem impl_two_eq (n : Nat) (a0 : Int) : runBody ([impl_decF n]) ty 10 n impl_twokp impl_twoc Go.Proofs.Tryd.f50.results.toList impl_twors impl_twosp impl_twobs (a0, ()) () = impl_two n a0 := by
  have h : runBody ([impl_decF n]) ty 10 n impl_twokp impl_twoc Go.Proofs.Tryd.f50.results.toList impl_twors impl_twosp impl_twobs (a0, ()) () = impl_two_t n a0 := by kernel_rfl
  rw [h]
  rfl

theorem impl_two_ok (n : Nat) : FunOk P (impl_twoF n) :=
  funOk_mk (C := [impl_decF n]) (N := 10) (kp := impl_twokp) (c := impl_twoc) (n := n) (G := fun x y => impl_two n x.1) follows (AllOk.mem (⟨impl_dec_ok n, trivial⟩ : AllOk P ([impl_decF n]))) (by kernel_rfl : P.funcs[50]? = some Go.Proofs.Tryd.f50) (by kernel_rfl) (by kernel_rfl) (by kernel_rfl)
    (fun x y => impl_two_eq n x.1) (fun _ _ => map_same (fun _ => rfl) _) (fun _ _ _ _ => rfl)

abbrev impl_AngleTextsp : List Sp := [.v false (.int .i64)]
abbrev impl_AngleTextbs : List (Bs × Bool) := []
abbrev impl_AngleTextrs : List (Bool × List Rp) := [(false, [.v false .str])]
noncomputable def impl_AngleTextkp : Keep := { loop := fun id => match id with | _ => ([], []), join := fun id => match id with | _ => none }
noncomputable def impl_AngleTextc : Code := bodyOf Go.Proofs.Tryd.f16
noncomputable def impl_AngleTextF (n : Nat) : Fun := { id := 16, sp := impl_AngleTextsp, bs := impl_AngleTextbs, rs := impl_AngleTextrs, f := fun x y => impl_AngleText n x.1 }

theorem impl_AngleText_eq (n : Nat) (a0 : Int) : runBody ([impl_isAngleF n, impl_decF n, impl_twoF n]) ty 20 n impl_AngleTextkp impl_AngleTextc Go.Proofs.Tryd.f16.results.toList impl_AngleTextrs impl_AngleTextsp impl_AngleTextbs (a0, ()) () = impl_AngleText n a0 := by
  have h : runBody ([impl_isAngleF n, impl_decF n, impl_twoF n]) ty 20 n impl_AngleTextkp impl_AngleTextc Go.Proofs.Tryd.f16.results.toList impl_AngleTextrs impl_AngleTextsp impl_AngleTextbs (a0, ()) () = impl_AngleText_t n a0 := by kernel_rfl
  rw [h]
  rfl

theorem impl_AngleText_ok (n : Nat) : FunOk P (impl_AngleTextF n) :=
  funOk_mk (C := [impl_isAngleF n, impl_decF n, impl_twoF n]) (N := 20) (kp := impl_AngleTextkp) (c := impl_AngleTextc) (n := n) (G := fun x y => impl_AngleText n x.1) follows (AllOk.mem (⟨impl_isAngle_ok n, ⟨impl_dec_ok n, ⟨impl_two_ok n, trivial⟩⟩⟩ : AllOk P ([impl_isAngleF n, impl_decF n, impl_twoF n]))) (by kernel_rfl : P.funcs[16]? = some Go.Proofs.Tryd.f16) (by kernel_rfl) (by kernel_rfl) (by kernel_rfl)
    (fun x y => impl_AngleText_eq n x.1) (fun _ _ => map_same (fun _ => rfl) _) (fun _ _ _ _ => rfl)

abbrev spec_Decimalsp : List Sp := [.v false (.int .i64)]
abbrev spec_Decimalbs : List (Bs × Bool) := []
abbrev spec_Decimalrs : List (Bool × List Rp) := [(false, [.v false .str])]
noncomputable def spec_Decimalkp : Keep := { loop := fun id => match id with | _ => ([], []), join := fun id => match id with | _ => none }
noncomputable def spec_Decimalc : Code := bodyOf Go.Proofs.Tryd.f46
noncomputable def spec_DecimalFr (n d : Nat) : Fun := { id := 46, sp := spec_Decimalsp, bs := spec_Decimalbs, rs := spec_Decimalrs, f := fun x y => spec_Decimal_r n d x.1 }
noncomputable def spec_DecimalF (n : Nat) : Fun := spec_DecimalFr n n

theorem spec_Decimal_eq (n d : Nat) (a0 : Int) : runBody ([spec_DecimalFr n d]) ty 21 n spec_Decimalkp spec_Decimalc Go.Proofs.Tryd.f46.results.toList spec_Decimalrs spec_Decimalsp spec_Decimalbs (a0, ()) () = spec_Decimal_r n (d + 1) a0 := by
  have h : runBody ([spec_DecimalFr n d]) ty 21 n spec_Decimalkp spec_Decimalc Go.Proofs.Tryd.f46.results.toList spec_Decimalrs spec_Decimalsp spec_Decimalbs (a0, ()) () = spec_Decimal_t n (spec_Decimal_r n d) a0 := by kernel_rfl
  rw [h]
  rfl

theorem spec_Decimal_okr (n : Nat) : ∀ d, FunOk P (spec_DecimalFr n d)
  | 0 => funOk_none (F := spec_DecimalFr n 0) (by kernel_rfl : P.funcs[46]? = some Go.Proofs.Tryd.f46) (by kernel_rfl) (by kernel_rfl : Go.Proofs.Tryd.f46.body = some spec_Decimalc) (fun _ _ => rfl)
  | d + 1 => funOk_mk (C := [spec_DecimalFr n d]) (N := 21) (kp := spec_Decimalkp) (c := spec_Decimalc) (n := n) (G := fun x y => spec_Decimal_r n (d + 1) x.1) follows (AllOk.mem (⟨spec_Decimal_okr n d, trivial⟩ : AllOk P ([spec_DecimalFr n d]))) (by kernel_rfl : P.funcs[46]? = some Go.Proofs.Tryd.f46) (by kernel_rfl) (by kernel_rfl) (by kernel_rfl)
    (fun x y => spec_Decimal_eq n d x.1) (fun _ _ => map_same (fun _ => rfl) _) (fun _ _ _ _ => rfl)

theorem spec_Decimal_ok (n : Nat) : FunOk P (spec_DecimalF n) := spec_Decimal_okr n n

abbrev spec_l00Insp : List Sp := [.v false (.int .i64), .v false (.int .i64), .v false (.int .i64)]
abbrev spec_l00Inbs : List (Bs × Bool) := []
abbrev spec_l00Inrs : List (Bool × List Rp) := [(false, [.v false .bool])]
noncomputable def spec_l00Inkp : Keep := { loop := fun id => match id with | _ => ([], []), join := fun id => match id with | _ => none }
noncomputable def spec_l00Inc : Code := bodyOf Go.Proofs.Tryd.f31
noncomputable def spec_l00InF (n : Nat) : Fun := { id := 31, sp := spec_l00Insp, bs := spec_l00Inbs, rs := spec_l00Inrs, f := fun x y => spec_l00In n x.1 x.2.1 x.2.2.1 }

theorem spec_l00In_eq (n : Nat) (a0 : Int) (a1 : Int) (a2 : Int) : runBody ([]) ty 15 n spec_l00Inkp spec_l00Inc Go.Proofs.Tryd.f31.results.toList spec_l00Inrs spec_l00Insp spec_l00Inbs (a0, (a1, (a2, ()))) () = spec_l00In n a0 a1 a2 := by
  have h : runBody ([]) ty 15 n spec_l00Inkp spec_l00Inc Go.Proofs.Tryd.f31.results.toList spec_l00Inrs spec_l00Insp spec_l00Inbs (a0, (a1, (a2, ()))) () = spec_l00In_t n a0 a1 a2 := by kernel_rfl
  rw [h]
  rfl

theorem spec_l00In_ok (n : Nat) : FunOk P (spec_l00InF n) :=
  funOk_mk (C := []) (N := 15) (kp := spec_l00Inkp) (c := spec_l00Inc) (n := n) (G := fun x y => spec_l00In n x.1 x.2.1 x.2.2.1) follows (AllOk.mem (trivial : AllOk P ([]))) (by kernel_rfl : P.funcs[31]? = some Go.Proofs.Tryd.f31) (by kernel_rfl) (by kernel_rfl) (by kernel_rfl)
    (fun x y => spec_l00In_eq n x.1 x.2.1 x.2.2.1) (fun _ _ => map_same (fun _ => rfl) _) (fun _ _ _ _ => rfl)

abbrev spec_l03Anglesp : List Sp := [.v false (.int .i64)]
abbrev spec_l03Anglebs : List (Bs × Bool) := []
abbrev spec_l03Anglers : List (Bool × List Rp) := [(false, [.v false .bool])]
noncomputable def spec_l03Anglekp : Keep := { loop := fun id => match id with | _ => ([], []), join := fun id => match id with | _ => none }
noncomputable def spec_l03Anglec : Code := bodyOf Go.Proofs.Tryd.f45
noncomputable def spec_l03AngleF (n : Nat) : Fun := { id := 45, sp := spec_l03Anglesp, bs := spec_l03Anglebs, rs := spec_l03Anglers, f := fun x y => spec_l03Angle n x.1 }

theorem spec_l03Angle_eq (n : Nat) (a0 : Int) : runBody ([spec_l00InF n]) ty 5 n spec_l03Anglekp spec_l03Anglec Go.Proofs.Tryd.f45.results.toList spec_l03Anglers spec_l03Anglesp spec_l03Anglebs (a0, ()) () = spec_l03Angle n a0 := by
  have h : runBody ([spec_l00InF n]) ty 5 n spec_l03Anglekp spec_l03Anglec Go.Proofs.Tryd.f45.results.toList spec_l03Anglers spec_l03Anglesp spec_l03Anglebs (a0, ()) () = spec_l03Angle_t n a0 := by kernel_rfl
  rw [h]
  rfl

theorem spec_l03Angle_ok (n : Nat) : FunOk P (spec_l03AngleF n) :=
  funOk_mk (C := [spec_l00InF n]) (N := 5) (kp := spec_l03Anglekp) (c := spec_l03Anglec) (n := n) (G := fun x y => spec_l03Angle n x.1) follows (AllOk.mem (⟨spec_l00In_ok n, trivial⟩ : AllOk P ([spec_l00InF n]))) (by kernel_rfl : P.funcs[45]? = some Go.Proofs.Tryd.f45) (by kernel_rfl) (by kernel_rfl) (by kernel_rfl)
    (fun x y => spec_l03Angle_eq n x.1) (fun _ _ => map_same (fun _ => rfl) _) (fun _ _ _ _ => rfl)

abbrev spec_l03Twosp : List Sp := [.v false (.int .i64)]
abbrev spec_l03Twobs : List (Bs × Bool) := []
abbrev spec_l03Twors : List (Bool × List Rp) := [(false, [.v false .str])]
noncomputable def spec_l03Twokp : Keep := { loop := fun id => match id with | _ => ([], []), join := fun id => match id with | _ => none }
noncomputable def spec_l03Twoc : Code := bodyOf Go.Proofs.Tryd.f47
noncomputable def spec_l03TwoF (n : Nat) : Fun := { id := 47, sp := spec_l03Twosp, bs := spec_l03Twobs, rs := spec_l03Twors, f := fun x y => spec_l03Two n x.1 }

theorem spec_l03Two_eq (n : Nat) (a0 : Int) : runBody ([spec_DecimalF n]) ty 10 n spec_l03Twokp spec_l03Twoc Go.Proofs.Tryd.f47.results.toList spec_l03Twors spec_l03Twosp spec_l03Twobs (a0, ()) () = spec_l03Two n a0 := by
  have h : runBody ([spec_DecimalF n]) ty 10 n spec_l03Twokp spec_l03Twoc Go.Proofs.Tryd.f47.results.toList spec_l03Twors spec_l03Twosp spec_l03Twobs (a0, ()) () = spec_l03Two_t n a0 := by kernel_rfl
  rw [h]
  rfl

theorem spec_l03Two_ok (n : Nat) : FunOk P (spec_l03TwoF n) :=
  funOk_mk (C := [spec_DecimalF n]) (N := 10) (kp := spec_l03Twokp) (c := spec_l03Twoc) (n := n) (G := fun x y => spec_l03Two n x.1) follows (AllOk.mem (⟨spec_Decimal_ok n, trivial⟩ : AllOk P ([spec_DecimalF n]))) (by kernel_rfl : P.funcs[47]? = some Go.Proofs.Tryd.f47) (by kernel_rfl) (by kernel_rfl) (by kernel_rfl)
    (fun x y => spec_l03Two_eq n x.1) (fun _ _ => map_same (fun _ => rfl) _) (fun _ _ _ _ => rfl)

abbrev spec_AngleTextsp : List Sp := [.v false (.int .i64)]
abbrev spec_AngleTextbs : List (Bs × Bool) := []
abbrev spec_AngleTextrs : List (Bool × List Rp) := [(false, [.v false .str])]
noncomputable def spec_AngleTextkp : Keep := { loop := fun id => match id with | _ => ([], []), join := fun id => match id with | _ => none }
noncomputable def spec_AngleTextc : Code := bodyOf Go.Proofs.Tryd.f15
noncomputable def spec_AngleTextF (n : Nat) : Fun := { id := 15, sp := spec_AngleTextsp, bs := spec_AngleTextbs, rs := spec_AngleTextrs, f := fun x y => spec_AngleText n x.1 }

theorem spec_AngleText_eq (n : Nat) (a0 : Int) : runBody ([spec_l03AngleF n, spec_DecimalF n, spec_l03TwoF n]) ty 20 n spec_AngleTextkp spec_AngleTextc Go.Proofs.Tryd.f15.results.toList spec_AngleTextrs spec_AngleTextsp spec_AngleTextbs (a0, ()) () = spec_AngleText n a0 := by
  have h : runBody ([spec_l03AngleF n, spec_DecimalF n, spec_l03TwoF n]) ty 20 n spec_AngleTextkp spec_AngleTextc Go.Proofs.Tryd.f15.results.toList spec_AngleTextrs spec_AngleTextsp spec_AngleTextbs (a0, ()) () = spec_AngleText_t n a0 := by kernel_rfl
  rw [h]
  rfl

theorem spec_AngleText_ok (n : Nat) : FunOk P (spec_AngleTextF n) :=
  funOk_mk (C := [spec_l03AngleF n, spec_DecimalF n, spec_l03TwoF n]) (N := 20) (kp := spec_AngleTextkp) (c := spec_AngleTextc) (n := n) (G := fun x y => spec_AngleText n x.1) follows (AllOk.mem (⟨spec_l03Angle_ok n, ⟨spec_Decimal_ok n, ⟨spec_l03Two_ok n, trivial⟩⟩⟩ : AllOk P ([spec_l03AngleF n, spec_DecimalF n, spec_l03TwoF n]))) (by kernel_rfl : P.funcs[15]? = some Go.Proofs.Tryd.f15) (by kernel_rfl) (by kernel_rfl) (by kernel_rfl)
    (fun x y => spec_AngleText_eq n x.1) (fun _ _ => map_same (fun _ => rfl) _) (fun _ _ _ _ => rfl)

abbrev laws_FnExactAngleTextsp : List Sp := [.v false (.int .i64)]
abbrev laws_FnExactAngleTextbs : List (Bs × Bool) := []
abbrev laws_FnExactAngleTextrs : List (Bool × List Rp) := [(false, [.v false .bool])]
noncomputable def laws_FnExactAngleTextkp : Keep := { loop := fun id => match id with | _ => ([], []), join := fun id => match id with | _ => none }
noncomputable def laws_FnExactAngleTextc : Code := bodyOf Go.Proofs.Tryd.f5
noncomputable def laws_FnExactAngleTextF (n : Nat) : Fun := { id := 5, sp := laws_FnExactAngleTextsp, bs := laws_FnExactAngleTextbs, rs := laws_FnExactAngleTextrs, f := fun x y => laws_FnExactAngleText n x.1 }

theorem laws_FnExactAngleText_eq (n : Nat) (a0 : Int) : runBody ([spec_AngleTextF n, impl_AngleTextF n]) ty 12 n laws_FnExactAngleTextkp laws_FnExactAngleTextc Go.Proofs.Tryd.f5.results.toList laws_FnExactAngleTextrs laws_FnExactAngleTextsp laws_FnExactAngleTextbs (a0, ()) () = laws_FnExactAngleText n a0 := by
  have h : runBody ([spec_AngleTextF n, impl_AngleTextF n]) ty 12 n laws_FnExactAngleTextkp laws_FnExactAngleTextc Go.Proofs.Tryd.f5.results.toList laws_FnExactAngleTextrs laws_FnExactAngleTextsp laws_FnExactAngleTextbs (a0, ()) () = laws_FnExactAngleText_t n a0 := by kernel_rfl
  rw [h]
  rfl

theorem laws_FnExactAngleText_ok (n : Nat) : FunOk P (laws_FnExactAngleTextF n) :=
  funOk_mk (C := [spec_AngleTextF n, impl_AngleTextF n]) (N := 12) (kp := laws_FnExactAngleTextkp) (c := laws_FnExactAngleTextc) (n := n) (G := fun x y => laws_FnExactAngleText n x.1) follows (AllOk.mem (⟨spec_AngleText_ok n, ⟨impl_AngleText_ok n, trivial⟩⟩ : AllOk P ([spec_AngleTextF n, impl_AngleTextF n]))) (by kernel_rfl : P.funcs[5]? = some Go.Proofs.Tryd.f5) (by kernel_rfl) (by kernel_rfl) (by kernel_rfl)
    (fun x y => laws_FnExactAngleText_eq n x.1) (fun _ _ => map_same (fun _ => rfl) _) (fun _ _ _ _ => rfl)

end Go.Abs
