import Derived.Test.YtpamckmeeamjjaaDoorDPAngles0
import Derived.Test.YtpamckmeeamjjaaDoorProg
import Derived.Test.YtpamckmeeamjjaaDoorRowD
import Derived.WalkKit
import Derived.ProofKit
import Derived.Shelf.RegionOpenPlain
import Derived.Lib.ConvBytes
import Derived.Test.YtpamckmeeamjjaaDoorShelf
import Derived.KernelRfl
namespace Go.Abs
open Go.Proofs
set_option maxRecDepth 100000
set_option linter.unusedVariables false

noncomputable abbrev P : Program := Tryd.prog
noncomputable abbrev ty : Nat → Option TyI := tyOf P
def bodyOf (f : Func) : Code := match f.body with | some c => c | none => .skip
theorem follows : P.follows .mixedOrders = true := by kernel_rfl

theorem globPow : P.globalNamed "internal/strconv.uint64pow10" = some 3 := by kernel_rfl
noncomputable instance : Laid P where
  g := fun b => b = 3 ∨ b = 0 ∨ b = 1 ∨ b = 2
  L := fun w => (Go.Lib.TabIs P w "internal/strconv.uint64pow10" .u64 Go.Lib.pow10Tab) ∧ (∃ m, w.cell? ⟨0, 0, none⟩ = some (.int .i64 m)) ∧ (∃ te pe, w.cell? ⟨1, 0, none⟩ = some (.iface te pe)) ∧ (∃ te pe, w.cell? ⟨2, 0, none⟩ = some (.iface te pe))
  keep := fun w w' h hl => ⟨tab_keep globPow (h 3 (.inl rfl)) (hl.1), (fun ⟨m, hm⟩ => ⟨m, (cell_eq (h 0 (.inr (.inl rfl))) 0).trans hm⟩) (hl.2.1), (fun ⟨t, p, hm⟩ => ⟨t, p, (cell_eq (h 1 (.inr (.inr (.inl rfl)))) 0).trans hm⟩) (hl.2.2.1), (fun ⟨t, p, hm⟩ => ⟨t, p, (cell_eq (h 2 (.inr (.inr (.inr (rfl))))) 0).trans hm⟩) (hl.2.2.2)⟩
theorem laidPow {w : World} (h : Laid.L P w) : Go.Lib.TabIs P w "internal/strconv.uint64pow10" .u64 Go.Lib.pow10Tab := (show (Go.Lib.TabIs P w "internal/strconv.uint64pow10" .u64 Go.Lib.pow10Tab) ∧ (∃ m, w.cell? ⟨0, 0, none⟩ = some (.int .i64 m)) ∧ (∃ te pe, w.cell? ⟨1, 0, none⟩ = some (.iface te pe)) ∧ (∃ te pe, w.cell? ⟨2, 0, none⟩ = some (.iface te pe)) from h).1
theorem laidMax {w : World} (h : Laid.L P w) : ∃ m, w.cell? ⟨0, 0, none⟩ = some (.int .i64 m) := (show (Go.Lib.TabIs P w "internal/strconv.uint64pow10" .u64 Go.Lib.pow10Tab) ∧ (∃ m, w.cell? ⟨0, 0, none⟩ = some (.int .i64 m)) ∧ (∃ te pe, w.cell? ⟨1, 0, none⟩ = some (.iface te pe)) ∧ (∃ te pe, w.cell? ⟨2, 0, none⟩ = some (.iface te pe)) from h).2.1
theorem laidSyn {w : World} (h : Laid.L P w) : ∃ te pe, w.cell? ⟨1, 0, none⟩ = some (.iface te pe) := (show (Go.Lib.TabIs P w "internal/strconv.uint64pow10" .u64 Go.Lib.pow10Tab) ∧ (∃ m, w.cell? ⟨0, 0, none⟩ = some (.int .i64 m)) ∧ (∃ te pe, w.cell? ⟨1, 0, none⟩ = some (.iface te pe)) ∧ (∃ te pe, w.cell? ⟨2, 0, none⟩ = some (.iface te pe)) from h).2.2.1
theorem laidRan {w : World} (h : Laid.L P w) : ∃ te pe, w.cell? ⟨2, 0, none⟩ = some (.iface te pe) := (show (Go.Lib.TabIs P w "internal/strconv.uint64pow10" .u64 Go.Lib.pow10Tab) ∧ (∃ m, w.cell? ⟨0, 0, none⟩ = some (.int .i64 m)) ∧ (∃ te pe, w.cell? ⟨1, 0, none⟩ = some (.iface te pe)) ∧ (∃ te pe, w.cell? ⟨2, 0, none⟩ = some (.iface te pe)) from h).2.2.2
theorem laid_lt {w : World} (h : Laid.L P w) : ∀ blk, Laid.g P blk → blk < w.heap.size := by
  intro blk hb
  rcases (show blk = 3 ∨ blk = 0 ∨ blk = 1 ∨ blk = 2 from hb) with rfl | rfl | rfl | rfl
  · exact var_lt globPow (laidPow h)
  · exact (fun ⟨m, hm⟩ => cell_lt hm) (laidMax h)
  · exact (fun ⟨t, p, hm⟩ => cell_lt hm) (laidSyn h)
  · exact (fun ⟨t, p, hm⟩ => cell_lt hm) (laidRan h)

abbrev strconv_FormatIntsp : List Sp := [.v false (.int .i64), .v false (.int .i64)]
abbrev strconv_FormatIntbs : List (Bs × Bool) := []
abbrev strconv_FormatIntrs : List (Bool × List Rp) := [(false, [.v false .str])]
noncomputable def strconv_FormatIntF (n : Nat) : Fun := { id := 70, sp := strconv_FormatIntsp, bs := strconv_FormatIntbs, rs := strconv_FormatIntrs, f := fun x y => strconv_FormatInt n x.1 x.2.1 }

theorem strconv_FormatInt_ok (n : Nat) : FunOk P (strconv_FormatIntF n) := by
  refine ⟨⟨Go.Proofs.Tryd.f70, bodyOf Go.Proofs.Tryd.f70, Go.Proofs.Tryd.func70, by kernel_rfl, by kernel_rfl⟩, ?_⟩
  intro x y r hr w I J β vs hG hg hL hv
  have hr' : cond ((decide (-9223372036854775808 ≤ x.1) && decide (x.1 ≤ 9223372036854775807)) && (x.2.1 == 10)) (some ((((ByteArray.mk (Go.Lib.itoa x.1).toArray, ()), ()), ()))) none = some r := hr
  cases hc : ((decide (-9223372036854775808 ≤ x.1) && decide (x.1 ≤ 9223372036854775807)) && (x.2.1 == 10)) with
  | false => rw [hc, cond_false] at hr'; cases hr'
  | true =>
    rw [hc, cond_true] at hr'
    injection hr' with hr'
    subst hr'
    simp only [Bool.and_eq_true, decide_eq_true_eq, beq_iff_eq] at hc
    obtain ⟨⟨h0, h1⟩, h2⟩ := hc
    have hv' : RVs I J β (listF []) w [.one (.sc (.int .i64 x.1)), .one (.sc (.int .i64 x.2.1))] vs := hv
    have e := args_ii hv'
    rw [h2] at e
    subst e
    exact leaf_call (v := .one (.sc (.string (ByteArray.mk (Go.Lib.itoa x.1).toArray)))) hG ((Go.Proofs.Tryd.strconv_FormatInt_10 x.1 h0 h1 w (laidPow hL)).mono fun e w' ⟨he, k, os, hw⟩ => ⟨_, he, rfl, hw ▸ wstep_grow k os⟩)

abbrev impl_decsp : List Sp := [.v false (.int .i64)]
abbrev impl_decbs : List (Bs × Bool) := []
abbrev impl_decrs : List (Bool × List Rp) := [(false, [.v false .str])]
noncomputable def impl_deckp : Keep := { loop := fun id => match id with | _ => ([], []), join := fun id => match id with | _ => none }
noncomputable def impl_decc : Code := bodyOf Go.Proofs.Tryd.f49
noncomputable def impl_decF (n : Nat) : Fun := { id := 49, sp := impl_decsp, bs := impl_decbs, rs := impl_decrs, f := fun x y => impl_dec n x.1 }

theorem impl_dec_eq (n : Nat) (a0 : Int) : runBody ([strconv_FormatIntF n]) ty 5 n impl_deckp impl_decc Go.Proofs.Tryd.f49.results.toList impl_decrs impl_decsp impl_decbs (a0, ()) () = impl_dec n a0 := by
  have h : runBody ([strconv_FormatIntF n]) ty 5 n impl_deckp impl_decc Go.Proofs.Tryd.f49.results.toList impl_decrs impl_decsp impl_decbs (a0, ()) () = impl_dec_t n a0 := by kernel_rfl
  rw [h]
  rfl

theorem impl_dec_ok (n : Nat) : FunOk P (impl_decF n) :=
  funOk_mk (C := [strconv_FormatIntF n]) (N := 5) (kp := impl_deckp) (c := impl_decc) (n := n) (G := fun x y => impl_dec n x.1) follows (AllOk.mem (⟨strconv_FormatInt_ok n, trivial⟩ : AllOk P ([strconv_FormatIntF n]))) (by kernel_rfl : P.funcs[49]? = some Go.Proofs.Tryd.f49) (by kernel_rfl) (by kernel_rfl) (by kernel_rfl)
    (fun x y => impl_dec_eq n x.1) (fun _ _ => map_same (fun _ => rfl) _) (fun _ _ _ _ => rfl)

abbrev impl_withinsp : List Sp := [.v false (.int .i64), .v false (.int .i64), .v false (.int .i64)]
abbrev impl_withinbs : List (Bs × Bool) := []
abbrev impl_withinrs : List (Bool × List Rp) := [(false, [.v false .bool])]
noncomputable def impl_withinkp : Keep := { loop := fun id => match id with | _ => ([], []), join := fun id => match id with | _ => none }
noncomputable def impl_withinc : Code := bodyOf Go.Proofs.Tryd.f39
noncomputable def impl_withinF (n : Nat) : Fun := { id := 39, sp := impl_withinsp, bs := impl_withinbs, rs := impl_withinrs, f := fun x y => impl_within n x.1 x.2.1 x.2.2.1 }

theorem impl_within_eq (n : Nat) (a0 : Int) (a1 : Int) (a2 : Int) : runBody ([]) ty 15 n impl_withinkp impl_withinc Go.Proofs.Tryd.f39.results.toList impl_withinrs impl_withinsp impl_withinbs (a0, (a1, (a2, ()))) () = impl_within n a0 a1 a2 := by
  have h : runBody ([]) ty 15 n impl_withinkp impl_withinc Go.Proofs.Tryd.f39.results.toList impl_withinrs impl_withinsp impl_withinbs (a0, (a1, (a2, ()))) () = impl_within_t n a0 a1 a2 := by kernel_rfl
  rw [h]
  rfl

theorem impl_within_ok (n : Nat) : FunOk P (impl_withinF n) :=
  funOk_mk (C := []) (N := 15) (kp := impl_withinkp) (c := impl_withinc) (n := n) (G := fun x y => impl_within n x.1 x.2.1 x.2.2.1) follows (AllOk.mem (trivial : AllOk P ([]))) (by kernel_rfl : P.funcs[39]? = some Go.Proofs.Tryd.f39) (by kernel_rfl) (by kernel_rfl) (by kernel_rfl)
    (fun x y => impl_within_eq n x.1 x.2.1 x.2.2.1) (fun _ _ => map_same (fun _ => rfl) _) (fun _ _ _ _ => rfl)

abbrev impl_isAnglesp : List Sp := [.v false (.int .i64)]
abbrev impl_isAnglebs : List (Bs × Bool) := []
abbrev impl_isAnglers : List (Bool × List Rp) := [(false, [.v false .bool])]
noncomputable def impl_isAnglekp : Keep := { loop := fun id => match id with | _ => ([], []), join := fun id => match id with | _ => none }
noncomputable def impl_isAnglec : Code := bodyOf Go.Proofs.Tryd.f48
noncomputable def impl_isAngleF (n : Nat) : Fun := { id := 48, sp := impl_isAnglesp, bs := impl_isAnglebs, rs := impl_isAnglers, f := fun x y => impl_isAngle n x.1 }

theorem impl_isAngle_eq (n : Nat) (a0 : Int) : runBody ([impl_withinF n]) ty 5 n impl_isAnglekp impl_isAnglec Go.Proofs.Tryd.f48.results.toList impl_isAnglers impl_isAnglesp impl_isAnglebs (a0, ()) () = impl_isAngle n a0 := by
  have h : runBody ([impl_withinF n]) ty 5 n impl_isAnglekp impl_isAnglec Go.Proofs.Tryd.f48.results.toList impl_isAnglers impl_isAnglesp impl_isAnglebs (a0, ()) () = impl_isAngle_t n a0 := by kernel_rfl
  rw [h]
  rfl

theorem impl_isAngle_ok (n : Nat) : FunOk P (impl_isAngleF n) :=
  funOk_mk (C := [impl_withinF n]) (N := 5) (kp := impl_isAnglekp) (c := impl_isAnglec) (n := n) (G := fun x y => impl_isAngle n x.1) follows (AllOk.mem (⟨impl_within_ok n, trivial⟩ : AllOk P ([impl_withinF n]))) (by kernel_rfl : P.funcs[48]? = some Go.Proofs.Tryd.f48) (by kernel_rfl) (by kernel_rfl) (by kernel_rfl)
    (fun x y => impl_isAngle_eq n x.1) (fun _ _ => map_same (fun _ => rfl) _) (fun _ _ _ _ => rfl)

abbrev impl_twosp : List Sp := [.v false (.int .i64)]
abbrev impl_twobs : List (Bs × Bool) := []
abbrev impl_twors : List (Bool × List Rp) := [(false, [.v false .str])]
noncomputable def impl_twokp : Keep := { loop := fun id => match id with | _ => ([], []), join := fun id => match id with | _ => none }
noncomputable def impl_twoc : Code := bodyOf Go.Proofs.Tryd.f50
noncomputable def impl_twoF (n : Nat) : Fun := { id := 50, sp := impl_twosp, bs := impl_twobs, rs := impl_twors, f := fun x y => impl_two n x.1 }

theorem impl_two_eq (n : Nat) (a0 : Int) : runBody ([impl_decF n]) ty 10 n impl_twokp impl_twoc Go.Proofs.Tryd.f50.results.toList impl_twors impl_twosp impl_twobs (a0, ()) () = impl_two n a0 := by
  have h : runBody ([impl_decF n]) ty 10 n impl_twokp impl_twoc Go.Proofs.Tryd.f50.results.toList impl_twors impl_twosp impl_twobs (a0, ()) () = impl_two_t n a0 := by kernel_rfl
  rw [h]
  rfl

theorem impl_two_ok (n : Nat) : FunOk P (impl_twoF n) :=
  funOk_mk (C := [impl_decF n]) (N := 10) (kp := impl_twokp) (c := impl_twoc) (n := n) (G := fun x y => impl_two n x.1) follows (AllOk.mem (⟨impl_dec_ok n, trivial⟩ : AllOk P ([impl_decF n]))) (by kernel_rfl : P.funcs[50]? = some Go.Proofs.Tryd.f50) (by kernel_rfl) (by kernel_rfl) (by kernel_rfl)
    (fun x y => impl_two_eq n x.1) (fun _ _ => map_same (fun _ => rfl) _) (fun _ _ _ _ => rfl)

abbrev impl_AngleTextsp : List Sp := [.v false (.int .i64)]
abbrev impl_AngleTextbs : List (Bs × Bool) := []
abbrev impl_AngleTextrs : List (Bool × List Rp) := [(false, [.v false .str])]
noncomputable def impl_AngleTextkp : Keep := { loop := fun id => match id with | _ => ([], []), join := fun id => match id with | _ => none }
noncomputable def impl_AngleTextc : Code := bodyOf Go.Proofs.Tryd.f16
noncomputable def impl_AngleTextF (n : Nat) : Fun := { id := 16, sp := impl_AngleTextsp, bs := impl_AngleTextbs, rs := impl_AngleTextrs, f := fun x y => impl_AngleText n x.1 }

theorem impl_AngleText_eq (n : Nat) (a0 : Int) : runBody ([impl_isAngleF n, impl_decF n, impl_twoF n]) ty 20 n impl_AngleTextkp impl_AngleTextc Go.Proofs.Tryd.f16.results.toList impl_AngleTextrs impl_AngleTextsp impl_AngleTextbs (a0, ()) () = impl_AngleText n a0 := by
  have h : runBody ([impl_isAngleF n, impl_decF n, impl_twoF n]) ty 20 n impl_AngleTextkp impl_AngleTextc Go.Proofs.Tryd.f16.results.toList impl_AngleTextrs impl_AngleTextsp impl_AngleTextbs (a0, ()) () = impl_AngleText_t n a0 := by kernel_rfl
  rw [h]
  rfl

theorem impl_AngleText_ok (n : Nat) : FunOk P (impl_AngleTextF n) :=
  funOk_mk (C := [impl_isAngleF n, impl_decF n, impl_twoF n]) (N := 20) (kp := impl_AngleTextkp) (c := impl_AngleTextc) (n := n) (G := fun x y => impl_AngleText n x.1) follows (AllOk.mem (⟨impl_isAngle_ok n, ⟨impl_dec_ok n, ⟨impl_two_ok n, trivial⟩⟩⟩ : AllOk P ([impl_isAngleF n, impl_decF n, impl_twoF n]))) (by kernel_rfl : P.funcs[16]? = some Go.Proofs.Tryd.f16) (by kernel_rfl) (by kernel_rfl) (by kernel_rfl)
    (fun x y => impl_AngleText_eq n x.1) (fun _ _ => map_same (fun _ => rfl) _) (fun _ _ _ _ => rfl)

abbrev impl_numbersp : List Sp := [.v false .str]
abbrev impl_numberbs : List (Bs × Bool) := []
abbrev impl_numberrs : List (Bool × List Rp) := [(false, [.v false (.int .i64)])]
noncomputable def impl_numberF (n : Nat) : Fun := { id := 36, sp := impl_numbersp, bs := impl_numberbs, rs := impl_numberrs, f := fun x y => impl_number n x.1 }

theorem parseInt_any (s : ByteArray) (hs : s.size ≤ 281474976710656) (w : World) (hL : Laid.L P w) :
    (∃ v, Go.Lib.parseIntB 64 s.data.toList = .ok v ∧ Calls Go.Proofs.Tryd.prog 66 #[.string s, .int .i64 10, .int .i64 64] w fun e w' => e = .returned (.tuple #[.int .i64 v, .nilIface]) ∧ Go.RowKit.Below w.heap.size w w') ∨
    ((∀ v, Go.Lib.parseIntB 64 s.data.toList ≠ .ok v) ∧ Calls Go.Proofs.Tryd.prog 66 #[.string s, .int .i64 10, .int .i64 64] w fun e w' => ∃ v t p, e = .returned (.tuple #[.int .i64 v, .iface t p]) ∧ Go.RowKit.Below w.heap.size w w') := by
  obtain ⟨t1, p1, h1⟩ := laidSyn hL
  obtain ⟨t2, p2, h2⟩ := laidRan hL
  cases hp : Go.Lib.parseIntB 64 s.data.toList with
  | ok v =>
    refine .inl ⟨v, rfl, (Go.Proofs.Any.strconv_ParseInt_10_at64_ok Go.Proofs.Tryd.laysC174 s (by omega) v hp w).mono ?_⟩
    rintro e w' ⟨rfl, hw⟩
    refine ⟨rfl, ?_⟩
    rcases hw with rfl | ⟨t, rfl⟩
    · exact Go.RowKit.Below.refl _ _
    · exact Go.Lib.bytesWorld_below _ _ _
  | range =>
    refine .inr ⟨fun v hv => (by cases hv), (Go.Proofs.Any.strconv_ParseInt_10_at64_range Go.Proofs.Tryd.laysC174 s hs hp _ w h2 (.inr ⟨_, _, rfl⟩)).mono ?_⟩
    rintro e w' ⟨N, rfl, _, _, hb⟩
    exact ⟨_, _, _, rfl, hb⟩
  | _ =>
    refine .inr ⟨fun v hv => (by cases hv), (Go.Proofs.Any.strconv_ParseInt_10_at64_syntax Go.Proofs.Tryd.laysC174 s hs hp _ w h1 (.inr ⟨_, _, rfl⟩)).mono ?_⟩
    rintro e w' ⟨N, rfl, _, _, hb⟩
    exact ⟨_, _, _, rfl, hb⟩

theorem number_ok (s : ByteArray) (v : Int) (w : World) (hp : Calls Go.Proofs.Tryd.prog 66 #[.string s, .int .i64 10, .int .i64 64] w fun e w' => e = .returned (.tuple #[.int .i64 v, .nilIface]) ∧ Go.RowKit.Below w.heap.size w w') :
    Calls Go.Proofs.Tryd.prog 36 #[.string s] w fun e w' => e = .returned (.int .i64 v) ∧ Go.RowKit.Below w.heap.size w w' := by
  go_enter Go.Proofs.Tryd.func36, Go.Proofs.Tryd.ntmps36
  go_wp2_with (go_at_call 66; refine hp.mono ?_; rintro e w1 ⟨rfl, hb⟩)
  go_wp2
  go_ret
  exact ⟨rfl, hb⟩

theorem number_err (s : ByteArray) (w : World) (hp : Calls Go.Proofs.Tryd.prog 66 #[.string s, .int .i64 10, .int .i64 64] w fun e w' => ∃ v t p, e = .returned (.tuple #[.int .i64 v, .iface t p]) ∧ Go.RowKit.Below w.heap.size w w') :
    Calls Go.Proofs.Tryd.prog 36 #[.string s] w fun e w' => e = .returned (.int .i64 0) ∧ Go.RowKit.Below w.heap.size w w' := by
  go_enter Go.Proofs.Tryd.func36, Go.Proofs.Tryd.ntmps36
  go_wp2_with (go_at_call 66; refine hp.mono ?_; rintro e w1 ⟨v, t, p, rfl, hb⟩)
  go_wp2
  go_ret
  exact ⟨rfl, hb⟩

theorem number_walk (s : ByteArray) (hs : s.size ≤ 281474976710656) (w : World) (hL : Laid.L P w) :
    Calls Go.Proofs.Tryd.prog 36 #[.string s] w fun e w' => ∃ v, e = .returned (.int .i64 v) ∧ Go.RowKit.Below w.heap.size w w' ∧ v = (match Go.Lib.parseIntB 64 s.data.toList with | .ok v => v | _ => 0) := by
  rcases parseInt_any s hs w hL with ⟨v, hv, hp⟩ | ⟨hv, hp⟩
  · exact (number_ok s v w hp).mono fun e w' ⟨he, hb⟩ => ⟨v, he, hb, by rw [hv]⟩
  · refine (number_err s w hp).mono fun e w' ⟨he, hb⟩ => ⟨0, he, hb, ?_⟩
    split
    · rename_i v' hv'
      exact absurd hv' (hv v')
    · rfl

theorem impl_number_ok (n : Nat) : FunOk P (impl_numberF n) := by
  refine ⟨⟨Go.Proofs.Tryd.f36, bodyOf Go.Proofs.Tryd.f36, Go.Proofs.Tryd.func36, by kernel_rfl, by kernel_rfl⟩, ?_⟩
  intro x y r hr w I J β vs hG hg hL hv
  have hr' : cond (decide (x.1.size ≤ 281474976710656)) (some (((((match Go.Lib.parseIntB 64 x.1.data.toList with | .ok v => v | _ => 0), ()), ()), ()))) none = some r := by
    rw [← hr]
    show _ = impl_number n x.1
    unfold impl_number
    cases Go.Lib.parseIntB 64 x.1.data.toList <;> rfl
  cases hc : (decide (x.1.size ≤ 281474976710656)) with
  | false => rw [hc, cond_false] at hr'; cases hr'
  | true =>
    rw [hc, cond_true] at hr'
    injection hr' with hr'
    subst hr'
    simp only [decide_eq_true_eq] at hc
    have hv' : RVs I J β (listF []) w [.one (.sc (.string x.1))] vs := hv
    have e := args_s hv'
    subst e
    exact leaf_call (v := .one (.sc (.int .i64 (match Go.Lib.parseIntB 64 x.1.data.toList with | .ok v => v | _ => 0)))) hG
      ((number_walk x.1 hc w hL).mono fun e w' ⟨v, he, hb, hv⟩ => ⟨_, he, hv ▸ rfl, wstep_below hb⟩)

abbrev strings_Splitsp : List Sp := [.v false .str, .v false .str]
abbrev strings_Splitbs : List (Bs × Bool) := []
abbrev strings_Splitrs : List (Bool × List Rp) := [(false, [.new .str])]
noncomputable def strings_SplitF (n : Nat) : Fun := { id := 35, sp := strings_Splitsp, bs := strings_Splitbs, rs := strings_Splitrs, f := fun x y => strings_Split n x.1 x.2.1 }

theorem strings_Split_ok (n : Nat) : FunOk P (strings_SplitF n) := by
  refine ⟨⟨Go.Proofs.Tryd.f35, bodyOf Go.Proofs.Tryd.f35, Go.Proofs.Tryd.func35, by kernel_rfl, by kernel_rfl⟩, ?_⟩
  intro x y r hr w I J β vs hG hg hL hv
  have hr' : cond (decide (x.1.size < 4294967281) && decide (1 ≤ x.2.1.size)) (some ((((Go.Lib.splitB x.2.1 0 (Go.Lib.countB x.1 x.2.1) x.1, ()), ()), ()))) none = some r := hr
  cases hc : (decide (x.1.size < 4294967281) && decide (1 ≤ x.2.1.size)) with
  | false => rw [hc, cond_false] at hr'; cases hr'
  | true =>
    rw [hc, cond_true] at hr'
    injection hr' with hr'
    subst hr'
    simp only [Bool.and_eq_true, decide_eq_true_eq] at hc
    have hv' : RVs I J β (listF []) w [.one (.sc (.string x.1)), .one (.sc (.string x.2.1))] vs := hv
    have e := args_ss hv'
    subst e
    obtain ⟨m, hm⟩ := laidMax hL
    have hlen := Go.Lib.splitB_all x.2.1 hc.2 0 _ x.1 rfl
    have key := Go.Proofs.Tryd.strings_Split x.1 x.2.1 m w hc.1 hm hc.2
    rw [← hlen] at key
    exact leaf_new (t := .str) (xs := Go.Lib.splitB x.2.1 0 (Go.Lib.countB x.1 x.2.1) x.1) hG (cells_strs _) key

abbrev impl_ReadAnglesp : List Sp := [.v false .str]
abbrev impl_ReadAnglebs : List (Bs × Bool) := []
abbrev impl_ReadAnglers : List (Bool × List Rp) := [(false, [.v false (.int .i64)]), (false, [.v false (.int .i64)])]
noncomputable def impl_ReadAnglekp : Keep := { loop := fun id => match id with | 5 => ([15, 13, 0, 4, 14], []) | _ => ([], []), join := fun id => match id with | _ => none }
noncomputable def impl_ReadAnglec : Code := bodyOf Go.Proofs.Tryd.f14
noncomputable def impl_ReadAngleF (n : Nat) : Fun := { id := 14, sp := impl_ReadAnglesp, bs := impl_ReadAnglebs, rs := impl_ReadAnglers, f := fun x y => impl_ReadAngle n x.1 }

theorem impl_ReadAngle_l5_eq (n : Nat) : ∀ (k : Nat) (v15 : Int) (v0 : ByteArray) (v14 : Int) (b0 : List (ByteArray)), iter (interp ([strings_SplitF n, impl_numberF n, impl_AngleTextF n]) ty 44 0 n impl_ReadAnglekp (codeAt impl_ReadAnglec [1, 1, 1, 0, 1, 0, 0])) (canon 0 (impl_ReadAnglekp.loop 5)) (kAt ([strings_SplitF n, impl_numberF n, impl_AngleTextF n]) ty 44 0 n impl_ReadAnglekp impl_ReadAnglec [1, 1, 1, 0, 1, 0] [] (ending ty 0 Go.Proofs.Tryd.f14.results.toList impl_ReadAnglers impl_ReadAnglebs)) k { env := [(15, .one (.sc (.int .i64 v15))), (13, .one (.slice 0 0 none)), (0, .one (.sc (.string v0))), (4, .one (.slice 0 0 none)), (14, .one (.sc (.int .i64 v14)))], bx := [(0, .row 0 .str b0)], nx := 1 } = impl_ReadAngle_l5 n k v15 v0 v14 b0
  | 0, _, _, _, _ => by kernel_rfl
  | k + 1, v15, v0, v14, b0 => by
    have h : iter (interp ([strings_SplitF n, impl_numberF n, impl_AngleTextF n]) ty 44 0 n impl_ReadAnglekp (codeAt impl_ReadAnglec [1, 1, 1, 0, 1, 0, 0])) (canon 0 (impl_ReadAnglekp.loop 5)) (kAt ([strings_SplitF n, impl_numberF n, impl_AngleTextF n]) ty 44 0 n impl_ReadAnglekp impl_ReadAnglec [1, 1, 1, 0, 1, 0] [] (ending ty 0 Go.Proofs.Tryd.f14.results.toList impl_ReadAnglers impl_ReadAnglebs)) (k + 1) { env := [(15, .one (.sc (.int .i64 v15))), (13, .one (.slice 0 0 none)), (0, .one (.sc (.string v0))), (4, .one (.slice 0 0 none)), (14, .one (.sc (.int .i64 v14)))], bx := [(0, .row 0 .str b0)], nx := 1 } = impl_ReadAngle_t5 n (fun v15 v0 v14 b0 => iter (interp ([strings_SplitF n, impl_numberF n, impl_AngleTextF n]) ty 44 0 n impl_ReadAnglekp (codeAt impl_ReadAnglec [1, 1, 1, 0, 1, 0, 0])) (canon 0 (impl_ReadAnglekp.loop 5)) (kAt ([strings_SplitF n, impl_numberF n, impl_AngleTextF n]) ty 44 0 n impl_ReadAnglekp impl_ReadAnglec [1, 1, 1, 0, 1, 0] [] (ending ty 0 Go.Proofs.Tryd.f14.results.toList impl_ReadAnglers impl_ReadAnglebs)) k { env := [(15, .one (.sc (.int .i64 v15))), (13, .one (.slice 0 0 none)), (0, .one (.sc (.string v0))), (4, .one (.slice 0 0 none)), (14, .one (.sc (.int .i64 v14)))], bx := [(0, .row 0 .str b0)], nx := 1 }) v15 v0 v14 b0 := by kernel_rfl
    rw [h]
    have e := congrArg (fun g => impl_ReadAngle_t5 n g v15 v0 v14 b0) (funext fun v15 => funext fun v0 => funext fun v14 => funext fun b0 => impl_ReadAngle_l5_eq n k v15 v0 v14 b0)
    exact e

theorem impl_ReadAngle_eq (n : Nat) (a0 : ByteArray) : runBody ([strings_SplitF n, impl_numberF n, impl_AngleTextF n]) ty 44 n impl_ReadAnglekp impl_ReadAnglec Go.Proofs.Tryd.f14.results.toList impl_ReadAnglers impl_ReadAnglesp impl_ReadAnglebs (a0, ()) () = impl_ReadAngle n a0 := by
  have h : runBody ([strings_SplitF n, impl_numberF n, impl_AngleTextF n]) ty 44 n impl_ReadAnglekp impl_ReadAnglec Go.Proofs.Tryd.f14.results.toList impl_ReadAnglers impl_ReadAnglesp impl_ReadAnglebs (a0, ()) () = impl_ReadAngle_t n (fun k v15 v0 v14 b0 => iter (interp ([strings_SplitF n, impl_numberF n, impl_AngleTextF n]) ty 44 0 n impl_ReadAnglekp (codeAt impl_ReadAnglec [1, 1, 1, 0, 1, 0, 0])) (canon 0 (impl_ReadAnglekp.loop 5)) (kAt ([strings_SplitF n, impl_numberF n, impl_AngleTextF n]) ty 44 0 n impl_ReadAnglekp impl_ReadAnglec [1, 1, 1, 0, 1, 0] [] (ending ty 0 Go.Proofs.Tryd.f14.results.toList impl_ReadAnglers impl_ReadAnglebs)) k { env := [(15, .one (.sc (.int .i64 v15))), (13, .one (.slice 0 0 none)), (0, .one (.sc (.string v0))), (4, .one (.slice 0 0 none)), (14, .one (.sc (.int .i64 v14)))], bx := [(0, .row 0 .str b0)], nx := 1 }) a0 := by kernel_rfl
  rw [h]
  have e := congrArg (fun h5 => impl_ReadAngle_t n h5 a0) (funext fun k => funext fun v15 => funext fun v0 => funext fun v14 => funext fun b0 => impl_ReadAngle_l5_eq n k v15 v0 v14 b0)
  exact e

theorem impl_ReadAngle_ok (n : Nat) : FunOk P (impl_ReadAngleF n) :=
  funOk_mk (C := [strings_SplitF n, impl_numberF n, impl_AngleTextF n]) (N := 44) (kp := impl_ReadAnglekp) (c := impl_ReadAnglec) (n := n) (G := fun x y => impl_ReadAngle n x.1) follows (AllOk.mem (⟨strings_Split_ok n, ⟨impl_number_ok n, ⟨impl_AngleText_ok n, trivial⟩⟩⟩ : AllOk P ([strings_SplitF n, impl_numberF n, impl_AngleTextF n]))) (by kernel_rfl : P.funcs[14]? = some Go.Proofs.Tryd.f14) (by kernel_rfl) (by kernel_rfl) (by kernel_rfl)
    (fun x y => impl_ReadAngle_eq n x.1) (fun _ _ => map_same (fun _ => rfl) _) (fun _ _ _ _ => rfl)

abbrev impl_wrapsp : List Sp := [.v false (.int .i64)]
abbrev impl_wrapbs : List (Bs × Bool) := []
abbrev impl_wraprs : List (Bool × List Rp) := [(false, [.v false (.int .i64)])]
noncomputable def impl_wrapkp : Keep := { loop := fun id => match id with | _ => ([], []), join := fun id => match id with | _ => none }
noncomputable def impl_wrapc : Code := bodyOf Go.Proofs.Tryd.f61
noncomputable def impl_wrapF (n : Nat) : Fun := { id := 61, sp := impl_wrapsp, bs := impl_wrapbs, rs := impl_wraprs, f := fun x y => impl_wrap n x.1 }

theorem impl_wrap_eq (n : Nat) (a0 : Int) : runBody ([]) ty 7 n impl_wrapkp impl_wrapc Go.Proofs.Tryd.f61.results.toList impl_wraprs impl_wrapsp impl_wrapbs (a0, ()) () = impl_wrap n a0 := by
  have h : runBody ([]) ty 7 n impl_wrapkp impl_wrapc Go.Proofs.Tryd.f61.results.toList impl_wraprs impl_wrapsp impl_wrapbs (a0, ()) () = impl_wrap_t n a0 := by kernel_rfl
  rw [h]
  rfl

theorem impl_wrap_ok (n : Nat) : FunOk P (impl_wrapF n) :=
  funOk_mk (C := []) (N := 7) (kp := impl_wrapkp) (c := impl_wrapc) (n := n) (G := fun x y => impl_wrap n x.1) follows (AllOk.mem (trivial : AllOk P ([]))) (by kernel_rfl : P.funcs[61]? = some Go.Proofs.Tryd.f61) (by kernel_rfl) (by kernel_rfl) (by kernel_rfl)
    (fun x y => impl_wrap_eq n x.1) (fun _ _ => map_same (fun _ => rfl) _) (fun _ _ _ _ => rfl)

abbrev impl_turnFromsp : List Sp := [.v false (.int .i64), .v false (.int .i64)]
abbrev impl_turnFrombs : List (Bs × Bool) := []
abbrev impl_turnFromrs : List (Bool × List Rp) := [(false, [.v false (.int .i64)])]
noncomputable def impl_turnFromkp : Keep := { loop := fun id => match id with | _ => ([], []), join := fun id => match id with | _ => none }
noncomputable def impl_turnFromc : Code := bodyOf Go.Proofs.Tryd.f59
noncomputable def impl_turnFromF (n : Nat) : Fun := { id := 59, sp := impl_turnFromsp, bs := impl_turnFrombs, rs := impl_turnFromrs, f := fun x y => impl_turnFrom n x.1 x.2.1 }

theorem impl_turnFrom_eq (n : Nat) (a0 : Int) (a1 : Int) : runBody ([impl_wrapF n]) ty 15 n impl_turnFromkp impl_turnFromc Go.Proofs.Tryd.f59.results.toList impl_turnFromrs impl_turnFromsp impl_turnFrombs (a0, (a1, ())) () = impl_turnFrom n a0 a1 := by
  have h : runBody ([impl_wrapF n]) ty 15 n impl_turnFromkp impl_turnFromc Go.Proofs.Tryd.f59.results.toList impl_turnFromrs impl_turnFromsp impl_turnFrombs (a0, (a1, ())) () = impl_turnFrom_t n a0 a1 := by kernel_rfl
  rw [h]
  rfl

theorem impl_turnFrom_ok (n : Nat) : FunOk P (impl_turnFromF n) :=
  funOk_mk (C := [impl_wrapF n]) (N := 15) (kp := impl_turnFromkp) (c := impl_turnFromc) (n := n) (G := fun x y => impl_turnFrom n x.1 x.2.1) follows (AllOk.mem (⟨impl_wrap_ok n, trivial⟩ : AllOk P ([impl_wrapF n]))) (by kernel_rfl : P.funcs[59]? = some Go.Proofs.Tryd.f59) (by kernel_rfl) (by kernel_rfl) (by kernel_rfl)
    (fun x y => impl_turnFrom_eq n x.1 x.2.1) (fun _ _ => map_same (fun _ => rfl) _) (fun _ _ _ _ => rfl)

abbrev impl_TurnFromsp : List Sp := [.v false (.int .i64), .v false (.int .i64)]
abbrev impl_TurnFrombs : List (Bs × Bool) := []
abbrev impl_TurnFromrs : List (Bool × List Rp) := [(false, [.v false (.int .i64)]), (false, [.v false (.int .i64)])]
noncomputable def impl_TurnFromkp : Keep := { loop := fun id => match id with | _ => ([], []), join := fun id => match id with | _ => none }
noncomputable def impl_TurnFromc : Code := bodyOf Go.Proofs.Tryd.f23
noncomputable def impl_TurnFromF (n : Nat) : Fun := { id := 23, sp := impl_TurnFromsp, bs := impl_TurnFrombs, rs := impl_TurnFromrs, f := fun x y => impl_TurnFrom n x.1 x.2.1 }

theorem impl_TurnFrom_eq (n : Nat) (a0 : Int) (a1 : Int) : runBody ([impl_isAngleF n, impl_turnFromF n]) ty 17 n impl_TurnFromkp impl_TurnFromc Go.Proofs.Tryd.f23.results.toList impl_TurnFromrs impl_TurnFromsp impl_TurnFrombs (a0, (a1, ())) () = impl_TurnFrom n a0 a1 := by
  have h : runBody ([impl_isAngleF n, impl_turnFromF n]) ty 17 n impl_TurnFromkp impl_TurnFromc Go.Proofs.Tryd.f23.results.toList impl_TurnFromrs impl_TurnFromsp impl_TurnFrombs (a0, (a1, ())) () = impl_TurnFrom_t n a0 a1 := by kernel_rfl
  rw [h]
  rfl

theorem impl_TurnFrom_ok (n : Nat) : FunOk P (impl_TurnFromF n) :=
  funOk_mk (C := [impl_isAngleF n, impl_turnFromF n]) (N := 17) (kp := impl_TurnFromkp) (c := impl_TurnFromc) (n := n) (G := fun x y => impl_TurnFrom n x.1 x.2.1) follows (AllOk.mem (⟨impl_isAngle_ok n, ⟨impl_turnFrom_ok n, trivial⟩⟩ : AllOk P ([impl_isAngleF n, impl_turnFromF n]))) (by kernel_rfl : P.funcs[23]? = some Go.Proofs.Tryd.f23) (by kernel_rfl) (by kernel_rfl) (by kernel_rfl)
    (fun x y => impl_TurnFrom_eq n x.1 x.2.1) (fun _ _ => map_same (fun _ => rfl) _) (fun _ _ _ _ => rfl)

abbrev impl_WrapAnglesp : List Sp := [.v false (.int .i64)]
abbrev impl_WrapAnglebs : List (Bs × Bool) := []
abbrev impl_WrapAnglers : List (Bool × List Rp) := [(false, [.v false (.int .i64)]), (false, [.v false (.int .i64)])]
noncomputable def impl_WrapAnglekp : Keep := { loop := fun id => match id with | _ => ([], []), join := fun id => match id with | _ => none }
noncomputable def impl_WrapAnglec : Code := bodyOf Go.Proofs.Tryd.f25
noncomputable def impl_WrapAngleF (n : Nat) : Fun := { id := 25, sp := impl_WrapAnglesp, bs := impl_WrapAnglebs, rs := impl_WrapAnglers, f := fun x y => impl_WrapAngle n x.1 }

theorem impl_WrapAngle_eq (n : Nat) (a0 : Int) : runBody ([impl_withinF n, impl_wrapF n]) ty 9 n impl_WrapAnglekp impl_WrapAnglec Go.Proofs.Tryd.f25.results.toList impl_WrapAnglers impl_WrapAnglesp impl_WrapAnglebs (a0, ()) () = impl_WrapAngle n a0 := by
  have h : runBody ([impl_withinF n, impl_wrapF n]) ty 9 n impl_WrapAnglekp impl_WrapAnglec Go.Proofs.Tryd.f25.results.toList impl_WrapAnglers impl_WrapAnglesp impl_WrapAnglebs (a0, ()) () = impl_WrapAngle_t n a0 := by kernel_rfl
  rw [h]
  rfl

theorem impl_WrapAngle_ok (n : Nat) : FunOk P (impl_WrapAngleF n) :=
  funOk_mk (C := [impl_withinF n, impl_wrapF n]) (N := 9) (kp := impl_WrapAnglekp) (c := impl_WrapAnglec) (n := n) (G := fun x y => impl_WrapAngle n x.1) follows (AllOk.mem (⟨impl_within_ok n, ⟨impl_wrap_ok n, trivial⟩⟩ : AllOk P ([impl_withinF n, impl_wrapF n]))) (by kernel_rfl : P.funcs[25]? = some Go.Proofs.Tryd.f25) (by kernel_rfl) (by kernel_rfl) (by kernel_rfl)
    (fun x y => impl_WrapAngle_eq n x.1) (fun _ _ => map_same (fun _ => rfl) _) (fun _ _ _ _ => rfl)

abbrev laws_a2Atsp : List Sp := [.v false (.list (.int .u8)), .v false (.int .i64), .v false (.int .i64)]
abbrev laws_a2Atbs : List (Bs × Bool) := []
abbrev laws_a2Atrs : List (Bool × List Rp) := [(false, [.v false (.int .i64)])]
noncomputable def laws_a2Atkp : Keep := { loop := fun id => match id with | _ => ([], []), join := fun id => match id with | _ => none }
noncomputable def laws_a2Atc : Code := bodyOf Go.Proofs.Tryd.f26
noncomputable def laws_a2AtF (n : Nat) : Fun := { id := 26, sp := laws_a2Atsp, bs := laws_a2Atbs, rs := laws_a2Atrs, f := fun x y => laws_a2At n x.1 x.2.1 x.2.2.1 }

theorem laws_a2At_eq (n : Nat) (a0 : List (Int)) (a1 : Int) (a2 : Int) : runBody ([]) ty 22 n laws_a2Atkp laws_a2Atc Go.Proofs.Tryd.f26.results.toList laws_a2Atrs laws_a2Atsp laws_a2Atbs (a0, (a1, (a2, ()))) () = laws_a2At n a0 a1 a2 := by
  have h : runBody ([]) ty 22 n laws_a2Atkp laws_a2Atc Go.Proofs.Tryd.f26.results.toList laws_a2Atrs laws_a2Atsp laws_a2Atbs (a0, (a1, (a2, ()))) () = laws_a2At_t n a0 a1 a2 := by kernel_rfl
  rw [h]
  rfl

theorem laws_a2At_ok (n : Nat) : FunOk P (laws_a2AtF n) :=
  funOk_mk (C := []) (N := 22) (kp := laws_a2Atkp) (c := laws_a2Atc) (n := n) (G := fun x y => laws_a2At n x.1 x.2.1 x.2.2.1) follows (AllOk.mem (trivial : AllOk P ([]))) (by kernel_rfl : P.funcs[26]? = some Go.Proofs.Tryd.f26) (by kernel_rfl) (by kernel_rfl) (by kernel_rfl)
    (fun x y => laws_a2At_eq n x.1 x.2.1 x.2.2.1) (fun _ _ => map_same (fun _ => rfl) _) (fun _ _ _ _ => rfl)

abbrev laws_a2Longsp : List Sp := [.v false (.list (.int .u8)), .v false (.list (.int .u8))]
abbrev laws_a2Longbs : List (Bs × Bool) := []
abbrev laws_a2Longrs : List (Bool × List Rp) := [(false, [.v false .bool])]
noncomputable def laws_a2Longkp : Keep := { loop := fun id => match id with | _ => ([], []), join := fun id => match id with | _ => none }
noncomputable def laws_a2Longc : Code := bodyOf Go.Proofs.Tryd.f21
noncomputable def laws_a2LongF (n : Nat) : Fun := { id := 21, sp := laws_a2Longsp, bs := laws_a2Longbs, rs := laws_a2Longrs, f := fun x y => laws_a2Long n x.1 x.2.1 }

theorem laws_a2Long_eq (n : Nat) (a0 : List (Int)) (a1 : List (Int)) : runBody ([]) ty 13 n laws_a2Longkp laws_a2Longc Go.Proofs.Tryd.f21.results.toList laws_a2Longrs laws_a2Longsp laws_a2Longbs (a0, (a1, ())) () = laws_a2Long n a0 a1 := by
  have h : runBody ([]) ty 13 n laws_a2Longkp laws_a2Longc Go.Proofs.Tryd.f21.results.toList laws_a2Longrs laws_a2Longsp laws_a2Longbs (a0, (a1, ())) () = laws_a2Long_t n a0 a1 := by kernel_rfl
  rw [h]
  rfl

theorem laws_a2Long_ok (n : Nat) : FunOk P (laws_a2LongF n) :=
  funOk_mk (C := []) (N := 13) (kp := laws_a2Longkp) (c := laws_a2Longc) (n := n) (G := fun x y => laws_a2Long n x.1 x.2.1) follows (AllOk.mem (trivial : AllOk P ([]))) (by kernel_rfl : P.funcs[21]? = some Go.Proofs.Tryd.f21) (by kernel_rfl) (by kernel_rfl) (by kernel_rfl)
    (fun x y => laws_a2Long_eq n x.1 x.2.1) (fun _ _ => map_same (fun _ => rfl) _) (fun _ _ _ _ => rfl)

abbrev spec_l00Fromsp : List Sp := [.v false (.list (.int .u8))]
abbrev spec_l00Frombs : List (Bs × Bool) := []
abbrev spec_l00Fromrs : List (Bool × List Rp) := [(false, [.nvar 107 (.pair (.list (.int .u8)) (.pair (.int .i64) (.int .u64)))])]
noncomputable def spec_l00Fromkp : Keep := { loop := fun id => match id with | _ => ([], []), join := fun id => match id with | _ => none }
noncomputable def spec_l00Fromc : Code := bodyOf Go.Proofs.Tryd.f58
noncomputable def spec_l00FromF (n : Nat) : Fun := { id := 58, sp := spec_l00Fromsp, bs := spec_l00Frombs, rs := spec_l00Fromrs, f := fun x y => spec_l00From n x.1 }

theorem spec_l00From_eq (n : Nat) (a0 : List (Int)) : runBody ([]) ty 6 n spec_l00Fromkp spec_l00Fromc Go.Proofs.Tryd.f58.results.toList spec_l00Fromrs spec_l00Fromsp spec_l00Frombs (a0, ()) () = spec_l00From n a0 := by
  have h : runBody ([]) ty 6 n spec_l00Fromkp spec_l00Fromc Go.Proofs.Tryd.f58.results.toList spec_l00Fromrs spec_l00Fromsp spec_l00Frombs (a0, ()) () = spec_l00From_t n a0 := by kernel_rfl
  rw [h]
  rfl

theorem spec_l00From_ok (n : Nat) : FunOk P (spec_l00FromF n) :=
  funOk_mk (C := []) (N := 6) (kp := spec_l00Fromkp) (c := spec_l00Fromc) (n := n) (G := fun x y => spec_l00From n x.1) follows (AllOk.mem (trivial : AllOk P ([]))) (by kernel_rfl : P.funcs[58]? = some Go.Proofs.Tryd.f58) (by kernel_rfl) (by kernel_rfl) (by kernel_rfl)
    (fun x y => spec_l00From_eq n x.1) (fun _ _ => map_same (fun _ => rfl) _) (fun _ _ _ _ => rfl)

abbrev spec_l00Src_nextsp : List Sp := [.ref 0]
abbrev spec_l00Src_nextbs : List (Bs × Bool) := [(.var 107 (.pair (.list (.int .u8)) (.pair (.int .i64) (.int .u64))), true)]
abbrev spec_l00Src_nextrs : List (Bool × List Rp) := [(false, [.v false (.int .i64)])]
noncomputable def spec_l00Src_nextkp : Keep := { loop := fun id => match id with | _ => ([], []), join := fun id => match id with | _ => none }
noncomputable def spec_l00Src_nextc : Code := bodyOf Go.Proofs.Tryd.f88
noncomputable def spec_l00Src_nextF (n : Nat) : Fun := { id := 88, sp := spec_l00Src_nextsp, bs := spec_l00Src_nextbs, rs := spec_l00Src_nextrs, f := fun x y => spec_l00Src_next n y.1 }

theorem spec_l00Src_next_eq (n : Nat) (b0 : (List (Int)) × ((Int) × (Int))) : runBody ([]) ty 62 n spec_l00Src_nextkp spec_l00Src_nextc Go.Proofs.Tryd.f88.results.toList spec_l00Src_nextrs spec_l00Src_nextsp spec_l00Src_nextbs ((), ()) (b0, ()) = spec_l00Src_next n b0 := by
  have h : runBody ([]) ty 62 n spec_l00Src_nextkp spec_l00Src_nextc Go.Proofs.Tryd.f88.results.toList spec_l00Src_nextrs spec_l00Src_nextsp spec_l00Src_nextbs ((), ()) (b0, ()) = spec_l00Src_next_t n b0 := by kernel_rfl
  rw [h]
  rfl

theorem spec_l00Src_next_ok (n : Nat) : FunOk P (spec_l00Src_nextF n) :=
  funOk_mk (C := []) (N := 62) (kp := spec_l00Src_nextkp) (c := spec_l00Src_nextc) (n := n) (G := fun x y => spec_l00Src_next n y.1) follows (AllOk.mem (trivial : AllOk P ([]))) (by kernel_rfl : P.funcs[88]? = some Go.Proofs.Tryd.f88) (by kernel_rfl) (by kernel_rfl) (by kernel_rfl)
    (fun x y => spec_l00Src_next_eq n y.1) (fun _ _ => map_same (fun _ => rfl) _) (fun _ _ _ _ => rfl)

abbrev spec_l00Src_picksp : List Sp := [.ref 0, .v false (.int .i64)]
abbrev spec_l00Src_pickbs : List (Bs × Bool) := [(.var 107 (.pair (.list (.int .u8)) (.pair (.int .i64) (.int .u64))), true)]
abbrev spec_l00Src_pickrs : List (Bool × List Rp) := [(false, [.v false (.int .i64)])]
noncomputable def spec_l00Src_pickkp : Keep := { loop := fun id => match id with | _ => ([], []), join := fun id => match id with | _ => none }
noncomputable def spec_l00Src_pickc : Code := bodyOf Go.Proofs.Tryd.f74
noncomputable def spec_l00Src_pickF (n : Nat) : Fun := { id := 74, sp := spec_l00Src_picksp, bs := spec_l00Src_pickbs, rs := spec_l00Src_pickrs, f := fun x y => spec_l00Src_pick n x.2.1 y.1 }

theorem spec_l00Src_pick_eq (n : Nat) (a1 : Int) (b0 : (List (Int)) × ((Int) × (Int))) : runBody ([spec_l00Src_nextF n]) ty 20 n spec_l00Src_pickkp spec_l00Src_pickc Go.Proofs.Tryd.f74.results.toList spec_l00Src_pickrs spec_l00Src_picksp spec_l00Src_pickbs ((), (a1, ())) (b0, ()) = spec_l00Src_pick n a1 b0 := by
  have h : runBody ([spec_l00Src_nextF n]) ty 20 n spec_l00Src_pickkp spec_l00Src_pickc Go.Proofs.Tryd.f74.results.toList spec_l00Src_pickrs spec_l00Src_picksp spec_l00Src_pickbs ((), (a1, ())) (b0, ()) = spec_l00Src_pick_t n a1 b0 := by kernel_rfl
  rw [h]
  rfl

theorem spec_l00Src_pick_ok (n : Nat) : FunOk P (spec_l00Src_pickF n) :=
  funOk_mk (C := [spec_l00Src_nextF n]) (N := 20) (kp := spec_l00Src_pickkp) (c := spec_l00Src_pickc) (n := n) (G := fun x y => spec_l00Src_pick n x.2.1 y.1) follows (AllOk.mem (⟨spec_l00Src_next_ok n, trivial⟩ : AllOk P ([spec_l00Src_nextF n]))) (by kernel_rfl : P.funcs[74]? = some Go.Proofs.Tryd.f74) (by kernel_rfl) (by kernel_rfl) (by kernel_rfl)
    (fun x y => spec_l00Src_pick_eq n x.2.1 y.1) (fun _ _ => map_same (fun _ => rfl) _) (fun _ _ _ _ => rfl)

abbrev spec_l00Src_amongsp : List Sp := [.ref 0, .sl 1]
abbrev spec_l00Src_amongbs : List (Bs × Bool) := [(.var 107 (.pair (.list (.int .u8)) (.pair (.int .i64) (.int .u64))), true), (.row  (.int .i64), true)]
abbrev spec_l00Src_amongrs : List (Bool × List Rp) := [(false, [.v false (.int .i64)])]
noncomputable def spec_l00Src_amongkp : Keep := { loop := fun id => match id with | _ => ([], []), join := fun id => match id with | _ => none }
noncomputable def spec_l00Src_amongc : Code := bodyOf Go.Proofs.Tryd.f75
noncomputable def spec_l00Src_amongF (n : Nat) : Fun := { id := 75, sp := spec_l00Src_amongsp, bs := spec_l00Src_amongbs, rs := spec_l00Src_amongrs, f := fun x y => spec_l00Src_among n y.1 y.2.1 }

theorem spec_l00Src_among_eq (n : Nat) (b0 : (List (Int)) × ((Int) × (Int))) (b1 : List (Int)) : runBody ([spec_l00Src_pickF n]) ty 12 n spec_l00Src_amongkp spec_l00Src_amongc Go.Proofs.Tryd.f75.results.toList spec_l00Src_amongrs spec_l00Src_amongsp spec_l00Src_amongbs ((), ((), ())) (b0, (b1, ())) = spec_l00Src_among n b0 b1 := by
  have h : runBody ([spec_l00Src_pickF n]) ty 12 n spec_l00Src_amongkp spec_l00Src_amongc Go.Proofs.Tryd.f75.results.toList spec_l00Src_amongrs spec_l00Src_amongsp spec_l00Src_amongbs ((), ((), ())) (b0, (b1, ())) = spec_l00Src_among_t n b0 b1 := by kernel_rfl
  rw [h]
  rfl

theorem spec_l00Src_among_ok (n : Nat) : FunOk P (spec_l00Src_amongF n) :=
  funOk_mk (C := [spec_l00Src_pickF n]) (N := 12) (kp := spec_l00Src_amongkp) (c := spec_l00Src_amongc) (n := n) (G := fun x y => spec_l00Src_among n y.1 y.2.1) follows (AllOk.mem (⟨spec_l00Src_pick_ok n, trivial⟩ : AllOk P ([spec_l00Src_pickF n]))) (by kernel_rfl : P.funcs[75]? = some Go.Proofs.Tryd.f75) (by kernel_rfl) (by kernel_rfl) (by kernel_rfl)
    (fun x y => spec_l00Src_among_eq n y.1 y.2.1) (fun _ _ => map_same (fun _ => rfl) _) (fun _ _ _ _ => rfl)

abbrev spec_l03Drawingsp : List Sp := [.ref 0]
abbrev spec_l03Drawingbs : List (Bs × Bool) := [(.var 107 (.pair (.list (.int .u8)) (.pair (.int .i64) (.int .u64))), true)]
abbrev spec_l03Drawingrs : List (Bool × List Rp) := [(false, [.v false (.int .i64)])]
noncomputable def spec_l03Drawingkp : Keep := { loop := fun id => match id with | _ => ([], []), join := fun id => match id with | _ => none }
noncomputable def spec_l03Drawingc : Code := bodyOf Go.Proofs.Tryd.f57
noncomputable def spec_l03DrawingF (n : Nat) : Fun := { id := 57, sp := spec_l03Drawingsp, bs := spec_l03Drawingbs, rs := spec_l03Drawingrs, f := fun x y => spec_l03Drawing n y.1 }

theorem spec_l03Drawing_eq (n : Nat) (b0 : (List (Int)) × ((Int) × (Int))) : runBody ([spec_l00Src_pickF n, spec_l00Src_amongF n]) ty 17 n spec_l03Drawingkp spec_l03Drawingc Go.Proofs.Tryd.f57.results.toList spec_l03Drawingrs spec_l03Drawingsp spec_l03Drawingbs ((), ()) (b0, ()) = spec_l03Drawing n b0 := by
  have h : runBody ([spec_l00Src_pickF n, spec_l00Src_amongF n]) ty 17 n spec_l03Drawingkp spec_l03Drawingc Go.Proofs.Tryd.f57.results.toList spec_l03Drawingrs spec_l03Drawingsp spec_l03Drawingbs ((), ()) (b0, ()) = spec_l03Drawing_t n b0 := by kernel_rfl
  rw [h]
  rfl

theorem spec_l03Drawing_ok (n : Nat) : FunOk P (spec_l03DrawingF n) :=
  funOk_mk (C := [spec_l00Src_pickF n, spec_l00Src_amongF n]) (N := 17) (kp := spec_l03Drawingkp) (c := spec_l03Drawingc) (n := n) (G := fun x y => spec_l03Drawing n y.1) follows (AllOk.mem (⟨spec_l00Src_pick_ok n, ⟨spec_l00Src_among_ok n, trivial⟩⟩ : AllOk P ([spec_l00Src_pickF n, spec_l00Src_amongF n]))) (by kernel_rfl : P.funcs[57]? = some Go.Proofs.Tryd.f57) (by kernel_rfl) (by kernel_rfl) (by kernel_rfl)
    (fun x y => spec_l03Drawing_eq n y.1) (fun _ _ => map_same (fun _ => rfl) _) (fun _ _ _ _ => rfl)

abbrev spec_l03Wrapsp : List Sp := [.v false (.int .i64)]
abbrev spec_l03Wrapbs : List (Bs × Bool) := []
abbrev spec_l03Wraprs : List (Bool × List Rp) := [(false, [.v false (.int .i64)])]
noncomputable def spec_l03Wrapkp : Keep := { loop := fun id => match id with | _ => ([], []), join := fun id => match id with | _ => none }
noncomputable def spec_l03Wrapc : Code := bodyOf Go.Proofs.Tryd.f56
noncomputable def spec_l03WrapF (n : Nat) : Fun := { id := 56, sp := spec_l03Wrapsp, bs := spec_l03Wrapbs, rs := spec_l03Wraprs, f := fun x y => spec_l03Wrap n x.1 }

theorem spec_l03Wrap_eq (n : Nat) (a0 : Int) : runBody ([]) ty 10 n spec_l03Wrapkp spec_l03Wrapc Go.Proofs.Tryd.f56.results.toList spec_l03Wraprs spec_l03Wrapsp spec_l03Wrapbs (a0, ()) () = spec_l03Wrap n a0 := by
  have h : runBody ([]) ty 10 n spec_l03Wrapkp spec_l03Wrapc Go.Proofs.Tryd.f56.results.toList spec_l03Wraprs spec_l03Wrapsp spec_l03Wrapbs (a0, ()) () = spec_l03Wrap_t n a0 := by kernel_rfl
  rw [h]
  rfl

theorem spec_l03Wrap_ok (n : Nat) : FunOk P (spec_l03WrapF n) :=
  funOk_mk (C := []) (N := 10) (kp := spec_l03Wrapkp) (c := spec_l03Wrapc) (n := n) (G := fun x y => spec_l03Wrap n x.1) follows (AllOk.mem (trivial : AllOk P ([]))) (by kernel_rfl : P.funcs[56]? = some Go.Proofs.Tryd.f56) (by kernel_rfl) (by kernel_rfl) (by kernel_rfl)
    (fun x y => spec_l03Wrap_eq n x.1) (fun _ _ => map_same (fun _ => rfl) _) (fun _ _ _ _ => rfl)

abbrev spec_A2Anglesp : List Sp := [.v false (.list (.int .u8))]
abbrev spec_A2Anglebs : List (Bs × Bool) := []
abbrev spec_A2Anglers : List (Bool × List Rp) := [(false, [.v false (.int .i64)])]
noncomputable def spec_A2Anglekp : Keep := { loop := fun id => match id with | _ => ([], []), join := fun id => match id with | _ => none }
noncomputable def spec_A2Anglec : Code := bodyOf Go.Proofs.Tryd.f22
noncomputable def spec_A2AngleF (n : Nat) : Fun := { id := 22, sp := spec_A2Anglesp, bs := spec_A2Anglebs, rs := spec_A2Anglers, f := fun x y => spec_A2Angle n x.1 }

theorem spec_A2Angle_eq (n : Nat) (a0 : List (Int)) : runBody ([spec_l00FromF n, spec_l03DrawingF n, spec_l03WrapF n]) ty 7 n spec_A2Anglekp spec_A2Anglec Go.Proofs.Tryd.f22.results.toList spec_A2Anglers spec_A2Anglesp spec_A2Anglebs (a0, ()) () = spec_A2Angle n a0 := by
  have h : runBody ([spec_l00FromF n, spec_l03DrawingF n, spec_l03WrapF n]) ty 7 n spec_A2Anglekp spec_A2Anglec Go.Proofs.Tryd.f22.results.toList spec_A2Anglers spec_A2Anglesp spec_A2Anglebs (a0, ()) () = spec_A2Angle_t n a0 := by kernel_rfl
  rw [h]
  rfl

theorem spec_A2Angle_ok (n : Nat) : FunOk P (spec_A2AngleF n) :=
  funOk_mk (C := [spec_l00FromF n, spec_l03DrawingF n, spec_l03WrapF n]) (N := 7) (kp := spec_A2Anglekp) (c := spec_A2Anglec) (n := n) (G := fun x y => spec_A2Angle n x.1) follows (AllOk.mem (⟨spec_l00From_ok n, ⟨spec_l03Drawing_ok n, ⟨spec_l03Wrap_ok n, trivial⟩⟩⟩ : AllOk P ([spec_l00FromF n, spec_l03DrawingF n, spec_l03WrapF n]))) (by kernel_rfl : P.funcs[22]? = some Go.Proofs.Tryd.f22) (by kernel_rfl) (by kernel_rfl) (by kernel_rfl)
    (fun x y => spec_A2Angle_eq n x.1) (fun _ _ => map_same (fun _ => rfl) _) (fun _ _ _ _ => rfl)

abbrev spec_l00Insp : List Sp := [.v false (.int .i64), .v false (.int .i64), .v false (.int .i64)]
abbrev spec_l00Inbs : List (Bs × Bool) := []
abbrev spec_l00Inrs : List (Bool × List Rp) := [(false, [.v false .bool])]
noncomputable def spec_l00Inkp : Keep := { loop := fun id => match id with | _ => ([], []), join := fun id => match id with | _ => none }
noncomputable def spec_l00Inc : Code := bodyOf Go.Proofs.Tryd.f31
noncomputable def spec_l00InF (n : Nat) : Fun := { id := 31, sp := spec_l00Insp, bs := spec_l00Inbs, rs := spec_l00Inrs, f := fun x y => spec_l00In n x.1 x.2.1 x.2.2.1 }

theorem spec_l00In_eq (n : Nat) (a0 : Int) (a1 : Int) (a2 : Int) : runBody ([]) ty 15 n spec_l00Inkp spec_l00Inc Go.Proofs.Tryd.f31.results.toList spec_l00Inrs spec_l00Insp spec_l00Inbs (a0, (a1, (a2, ()))) () = spec_l00In n a0 a1 a2 := by
  have h : runBody ([]) ty 15 n spec_l00Inkp spec_l00Inc Go.Proofs.Tryd.f31.results.toList spec_l00Inrs spec_l00Insp spec_l00Inbs (a0, (a1, (a2, ()))) () = spec_l00In_t n a0 a1 a2 := by kernel_rfl
  rw [h]
  rfl

theorem spec_l00In_ok (n : Nat) : FunOk P (spec_l00InF n) :=
  funOk_mk (C := []) (N := 15) (kp := spec_l00Inkp) (c := spec_l00Inc) (n := n) (G := fun x y => spec_l00In n x.1 x.2.1 x.2.2.1) follows (AllOk.mem (trivial : AllOk P ([]))) (by kernel_rfl : P.funcs[31]? = some Go.Proofs.Tryd.f31) (by kernel_rfl) (by kernel_rfl) (by kernel_rfl)
    (fun x y => spec_l00In_eq n x.1 x.2.1 x.2.2.1) (fun _ _ => map_same (fun _ => rfl) _) (fun _ _ _ _ => rfl)

abbrev spec_l03Anglesp : List Sp := [.v false (.int .i64)]
abbrev spec_l03Anglebs : List (Bs × Bool) := []
abbrev spec_l03Anglers : List (Bool × List Rp) := [(false, [.v false .bool])]
noncomputable def spec_l03Anglekp : Keep := { loop := fun id => match id with | _ => ([], []), join := fun id => match id with | _ => none }
noncomputable def spec_l03Anglec : Code := bodyOf Go.Proofs.Tryd.f45
noncomputable def spec_l03AngleF (n : Nat) : Fun := { id := 45, sp := spec_l03Anglesp, bs := spec_l03Anglebs, rs := spec_l03Anglers, f := fun x y => spec_l03Angle n x.1 }

theorem spec_l03Angle_eq (n : Nat) (a0 : Int) : runBody ([spec_l00InF n]) ty 5 n spec_l03Anglekp spec_l03Anglec Go.Proofs.Tryd.f45.results.toList spec_l03Anglers spec_l03Anglesp spec_l03Anglebs (a0, ()) () = spec_l03Angle n a0 := by
  have h : runBody ([spec_l00InF n]) ty 5 n spec_l03Anglekp spec_l03Anglec Go.Proofs.Tryd.f45.results.toList spec_l03Anglers spec_l03Anglesp spec_l03Anglebs (a0, ()) () = spec_l03Angle_t n a0 := by kernel_rfl
  rw [h]
  rfl

theorem spec_l03Angle_ok (n : Nat) : FunOk P (spec_l03AngleF n) :=
  funOk_mk (C := [spec_l00InF n]) (N := 5) (kp := spec_l03Anglekp) (c := spec_l03Anglec) (n := n) (G := fun x y => spec_l03Angle n x.1) follows (AllOk.mem (⟨spec_l00In_ok n, trivial⟩ : AllOk P ([spec_l00InF n]))) (by kernel_rfl : P.funcs[45]? = some Go.Proofs.Tryd.f45) (by kernel_rfl) (by kernel_rfl) (by kernel_rfl)
    (fun x y => spec_l03Angle_eq n x.1) (fun _ _ => map_same (fun _ => rfl) _) (fun _ _ _ _ => rfl)

abbrev spec_l03Turnsp : List Sp := [.v false (.int .i64), .v false (.int .i64)]
abbrev spec_l03Turnbs : List (Bs × Bool) := []
abbrev spec_l03Turnrs : List (Bool × List Rp) := [(false, [.v false (.int .i64)])]
noncomputable def spec_l03Turnkp : Keep := { loop := fun id => match id with | _ => ([], []), join := fun id => match id with | _ => none }
noncomputable def spec_l03Turnc : Code := bodyOf Go.Proofs.Tryd.f60
noncomputable def spec_l03TurnF (n : Nat) : Fun := { id := 60, sp := spec_l03Turnsp, bs := spec_l03Turnbs, rs := spec_l03Turnrs, f := fun x y => spec_l03Turn n x.1 x.2.1 }

theorem spec_l03Turn_eq (n : Nat) (a0 : Int) (a1 : Int) : runBody ([spec_l03WrapF n]) ty 15 n spec_l03Turnkp spec_l03Turnc Go.Proofs.Tryd.f60.results.toList spec_l03Turnrs spec_l03Turnsp spec_l03Turnbs (a0, (a1, ())) () = spec_l03Turn n a0 a1 := by
  have h : runBody ([spec_l03WrapF n]) ty 15 n spec_l03Turnkp spec_l03Turnc Go.Proofs.Tryd.f60.results.toList spec_l03Turnrs spec_l03Turnsp spec_l03Turnbs (a0, (a1, ())) () = spec_l03Turn_t n a0 a1 := by kernel_rfl
  rw [h]
  rfl

theorem spec_l03Turn_ok (n : Nat) : FunOk P (spec_l03TurnF n) :=
  funOk_mk (C := [spec_l03WrapF n]) (N := 15) (kp := spec_l03Turnkp) (c := spec_l03Turnc) (n := n) (G := fun x y => spec_l03Turn n x.1 x.2.1) follows (AllOk.mem (⟨spec_l03Wrap_ok n, trivial⟩ : AllOk P ([spec_l03WrapF n]))) (by kernel_rfl : P.funcs[60]? = some Go.Proofs.Tryd.f60) (by kernel_rfl) (by kernel_rfl) (by kernel_rfl)
    (fun x y => spec_l03Turn_eq n x.1 x.2.1) (fun _ _ => map_same (fun _ => rfl) _) (fun _ _ _ _ => rfl)

abbrev spec_TurnFromsp : List Sp := [.v false (.int .i64), .v false (.int .i64)]
abbrev spec_TurnFrombs : List (Bs × Bool) := []
abbrev spec_TurnFromrs : List (Bool × List Rp) := [(false, [.v false (.int .i64)]), (false, [.v false (.int .i64)])]
noncomputable def spec_TurnFromkp : Keep := { loop := fun id => match id with | _ => ([], []), join := fun id => match id with | _ => none }
noncomputable def spec_TurnFromc : Code := bodyOf Go.Proofs.Tryd.f24
noncomputable def spec_TurnFromF (n : Nat) : Fun := { id := 24, sp := spec_TurnFromsp, bs := spec_TurnFrombs, rs := spec_TurnFromrs, f := fun x y => spec_TurnFrom n x.1 x.2.1 }

theorem spec_TurnFrom_eq (n : Nat) (a0 : Int) (a1 : Int) : runBody ([spec_l03AngleF n, spec_l03TurnF n]) ty 17 n spec_TurnFromkp spec_TurnFromc Go.Proofs.Tryd.f24.results.toList spec_TurnFromrs spec_TurnFromsp spec_TurnFrombs (a0, (a1, ())) () = spec_TurnFrom n a0 a1 := by
  have h : runBody ([spec_l03AngleF n, spec_l03TurnF n]) ty 17 n spec_TurnFromkp spec_TurnFromc Go.Proofs.Tryd.f24.results.toList spec_TurnFromrs spec_TurnFromsp spec_TurnFrombs (a0, (a1, ())) () = spec_TurnFrom_t n a0 a1 := by kernel_rfl
  rw [h]
  rfl

theorem spec_TurnFrom_ok (n : Nat) : FunOk P (spec_TurnFromF n) :=
  funOk_mk (C := [spec_l03AngleF n, spec_l03TurnF n]) (N := 17) (kp := spec_TurnFromkp) (c := spec_TurnFromc) (n := n) (G := fun x y => spec_TurnFrom n x.1 x.2.1) follows (AllOk.mem (⟨spec_l03Angle_ok n, ⟨spec_l03Turn_ok n, trivial⟩⟩ : AllOk P ([spec_l03AngleF n, spec_l03TurnF n]))) (by kernel_rfl : P.funcs[24]? = some Go.Proofs.Tryd.f24) (by kernel_rfl) (by kernel_rfl) (by kernel_rfl)
    (fun x y => spec_TurnFrom_eq n x.1 x.2.1) (fun _ _ => map_same (fun _ => rfl) _) (fun _ _ _ _ => rfl)

abbrev laws_FnAnglessp : List Sp := [.v false (.list (.int .u8)), .v false (.list (.int .u8))]
abbrev laws_FnAnglesbs : List (Bs × Bool) := []
abbrev laws_FnAnglesrs : List (Bool × List Rp) := [(false, [.v false .bool])]
noncomputable def laws_FnAngleskp : Keep := { loop := fun id => match id with | _ => ([], []), join := fun id => match id with | _ => none }
noncomputable def laws_FnAnglesc : Code := bodyOf Go.Proofs.Tryd.f7
noncomputable def laws_FnAnglesF (n : Nat) : Fun := { id := 7, sp := laws_FnAnglessp, bs := laws_FnAnglesbs, rs := laws_FnAnglesrs, f := fun x y => laws_FnAngles n x.1 x.2.1 }

theorem laws_FnAngles_eq (n : Nat) (a0 : List (Int)) (a1 : List (Int)) : runBody ([laws_a2LongF n, spec_A2AngleF n, impl_TurnFromF n, spec_TurnFromF n, impl_WrapAngleF n, impl_AngleTextF n, impl_ReadAngleF n, laws_a2AtF n]) ty 133 n laws_FnAngleskp laws_FnAnglesc Go.Proofs.Tryd.f7.results.toList laws_FnAnglesrs laws_FnAnglessp laws_FnAnglesbs (a0, (a1, ())) () = laws_FnAngles n a0 a1 := by
  have h : runBody ([laws_a2LongF n, spec_A2AngleF n, impl_TurnFromF n, spec_TurnFromF n, impl_WrapAngleF n, impl_AngleTextF n, impl_ReadAngleF n, laws_a2AtF n]) ty 133 n laws_FnAngleskp laws_FnAnglesc Go.Proofs.Tryd.f7.results.toList laws_FnAnglesrs laws_FnAnglessp laws_FnAnglesbs (a0, (a1, ())) () = laws_FnAngles_t n a0 a1 := by kernel_rfl
  rw [h]
  rfl

theorem laws_FnAngles_ok (n : Nat) : FunOk P (laws_FnAnglesF n) :=
  funOk_mk (C := [laws_a2LongF n, spec_A2AngleF n, impl_TurnFromF n, spec_TurnFromF n, impl_WrapAngleF n, impl_AngleTextF n, impl_ReadAngleF n, laws_a2AtF n]) (N := 133) (kp := laws_FnAngleskp) (c := laws_FnAnglesc) (n := n) (G := fun x y => laws_FnAngles n x.1 x.2.1) follows (AllOk.mem (⟨laws_a2Long_ok n, ⟨spec_A2Angle_ok n, ⟨impl_TurnFrom_ok n, ⟨spec_TurnFrom_ok n, ⟨impl_WrapAngle_ok n, ⟨impl_AngleText_ok n, ⟨impl_ReadAngle_ok n, ⟨laws_a2At_ok n, trivial⟩⟩⟩⟩⟩⟩⟩⟩ : AllOk P ([laws_a2LongF n, spec_A2AngleF n, impl_TurnFromF n, spec_TurnFromF n, impl_WrapAngleF n, impl_AngleTextF n, impl_ReadAngleF n, laws_a2AtF n]))) (by kernel_rfl : P.funcs[7]? = some Go.Proofs.Tryd.f7) (by kernel_rfl) (by kernel_rfl) (by kernel_rfl)
    (fun x y => laws_FnAngles_eq n x.1 x.2.1) (fun _ _ => map_same (fun _ => rfl) _) (fun _ _ _ _ => rfl)

end Go.Abs
