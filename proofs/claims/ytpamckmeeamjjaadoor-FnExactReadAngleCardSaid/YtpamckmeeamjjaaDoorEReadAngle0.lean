import Derived.Test.YtpamckmeeamjjaaDoorDReadAngle0
import Derived.Test.YtpamckmeeamjjaaDoorProg
import Derived.Test.YtpamckmeeamjjaaDoorRowD
import Derived.WalkKit
import Derived.ProofKit
import Derived.Shelf.RegionOpenPlain
import Derived.Lib.ConvBytes
import Derived.Test.YtpamckmeeamjjaaDoorShelf
import Derived.KernelRfl
namespace Go.Abs
open Go.Proofs
set_option maxRecDepth 100000
set_option linter.unusedVariables false

noncomputable abbrev P : Program := Tryd.prog
noncomputable abbrev ty : Nat → Option TyI := tyOf P
def bodyOf (f : Func) : Code := match f.body with | some c => c | none => .skip
theorem follows : P.follows .mixedOrders = true := by kernel_rfl

theorem globPow : P.globalNamed "internal/strconv.uint64pow10" = some 3 := by kernel_rfl
noncomputable instance : Laid P where
  g := fun b => b = 3 ∨ b = 0 ∨ b = 1 ∨ b = 2
  L := fun w => (Go.Lib.TabIs P w "internal/strconv.uint64pow10" .u64 Go.Lib.pow10Tab) ∧ (∃ m, w.cell? ⟨0, 0, none⟩ = some (.int .i64 m)) ∧ (∃ te pe, w.cell? ⟨1, 0, none⟩ = some (.iface te pe)) ∧ (∃ te pe, w.cell? ⟨2, 0, none⟩ = some (.iface te pe))
  keep := fun w w' h hl => ⟨tab_keep globPow (h 3 (.inl rfl)) (hl.1), (fun ⟨m, hm⟩ => ⟨m, (cell_eq (h 0 (.inr (.inl rfl))) 0).trans hm⟩) (hl.2.1), (fun ⟨t, p, hm⟩ => ⟨t, p, (cell_eq (h 1 (.inr (.inr (.inl rfl)))) 0).trans hm⟩) (hl.2.2.1), (fun ⟨t, p, hm⟩ => ⟨t, p, (cell_eq (h 2 (.inr (.inr (.inr (rfl))))) 0).trans hm⟩) (hl.2.2.2)⟩
theorem laidPow {w : World} (h : Laid.L P w) : Go.Lib.TabIs P w "internal/strconv.uint64pow10" .u64 Go.Lib.pow10Tab := (show (Go.Lib.TabIs P w "internal/strconv.uint64pow10" .u64 Go.Lib.pow10Tab) ∧ (∃ m, w.cell? ⟨0, 0, none⟩ = some (.int .i64 m)) ∧ (∃ te pe, w.cell? ⟨1, 0, none⟩ = some (.iface te pe)) ∧ (∃ te pe, w.cell? ⟨2, 0, none⟩ = some (.iface te pe)) from h).1
theorem laidMax {w : World} (h : Laid.L P w) : ∃ m, w.cell? ⟨0, 0, none⟩ = some (.int .i64 m) := (show (Go.Lib.TabIs P w "internal/strconv.uint64pow10" .u64 Go.Lib.pow10Tab) ∧ (∃ m, w.cell? ⟨0, 0, none⟩ = some (.int .i64 m)) ∧ (∃ te pe, w.cell? ⟨1, 0, none⟩ = some (.iface te pe)) ∧ (∃ te pe, w.cell? ⟨2, 0, none⟩ = some (.iface te pe)) from h).2.1
theorem laidSyn {w : World} (h : Laid.L P w) : ∃ te pe, w.cell? ⟨1, 0, none⟩ = some (.iface te pe) := (show (Go.Lib.TabIs P w "internal/strconv.uint64pow10" .u64 Go.Lib.pow10Tab) ∧ (∃ m, w.cell? ⟨0, 0, none⟩ = some (.int .i64 m)) ∧ (∃ te pe, w.cell? ⟨1, 0, none⟩ = some (.iface te pe)) ∧ (∃ te pe, w.cell? ⟨2, 0, none⟩ = some (.iface te pe)) from h).2.2.1
theorem laidRan {w : World} (h : Laid.L P w) : ∃ te pe, w.cell? ⟨2, 0, none⟩ = some (.iface te pe) := (show (Go.Lib.TabIs P w "internal/strconv.uint64pow10" .u64 Go.Lib.pow10Tab) ∧ (∃ m, w.cell? ⟨0, 0, none⟩ = some (.int .i64 m)) ∧ (∃ te pe, w.cell? ⟨1, 0, none⟩ = some (.iface te pe)) ∧ (∃ te pe, w.cell? ⟨2, 0, none⟩ = some (.iface te pe)) from h).2.2.2
theorem laid_lt {w : World} (h : Laid.L P w) : ∀ blk, Laid.g P blk → blk < w.heap.size := by
  intro blk hb
  rcases (show blk = 3 ∨ blk = 0 ∨ blk = 1 ∨ blk = 2 from hb) with rfl | rfl | rfl | rfl
  · exact var_lt globPow (laidPow h)
  · exact (fun ⟨m, hm⟩ => cell_lt hm) (laidMax h)
  · exact (fun ⟨t, p, hm⟩ => cell_lt hm) (laidSyn h)
  · exact (fun ⟨t, p, hm⟩ => cell_lt hm) (laidRan h)

abbrev strconv_FormatIntsp : List Sp := [.v false (.int .i64), .v false (.int .i64)]
abbrev strconv_FormatIntbs : List (Bs × Bool) := []
abbrev strconv_FormatIntrs : List (Bool × List Rp) := [(false, [.v false .str])]
noncomputable def strconv_FormatIntF (n : Nat) : Fun := { id := 70, sp := strconv_FormatIntsp, bs := strconv_FormatIntbs, rs := strconv_FormatIntrs, f := fun x y => strconv_FormatInt n x.1 x.2.1 }

theorem strconv_FormatInt_ok (n : Nat) : FunOk P (strconv_FormatIntF n) := by
  refine ⟨⟨Go.Proofs.Tryd.f70, bodyOf Go.Proofs.Tryd.f70, Go.Proofs.Tryd.func70, by kernel_rfl, by kernel_rfl⟩, ?_⟩
  intro x y r hr w I J β vs hG hg hL hv
  have hr' : cond ((decide (-9223372036854775808 ≤ x.1) && decide (x.1 ≤ 9223372036854775807)) && (x.2.1 == 10)) (some ((((ByteArray.mk (Go.Lib.itoa x.1).toArray, ()), ()), ()))) none = some r := hr
  cases hc : ((decide (-9223372036854775808 ≤ x.1) && decide (x.1 ≤ 9223372036854775807)) && (x.2.1 == 10)) with
  | false => rw [hc, cond_false] at hr'; cases hr'
  | true =>
    rw [hc, cond_true] at hr'
    injection hr' with hr'
    subst hr'
    simp only [Bool.and_eq_true, decide_eq_true_eq, beq_iff_eq] at hc
    obtain ⟨⟨h0, h1⟩, h2⟩ := hc
    have hv' : RVs I J β (listF []) w [.one (.sc (.int .i64 x.1)), .one (.sc (.int .i64 x.2.1))] vs := hv
    have e := args_ii hv'
    rw [h2] at e
    subst e
    exact leaf_call (v := .one (.sc (.string (ByteArray.mk (Go.Lib.itoa x.1).toArray)))) hG ((Go.Proofs.Tryd.strconv_FormatInt_10 x.1 h0 h1 w (laidPow hL)).mono fun e w' ⟨he, k, os, hw⟩ => ⟨_, he, rfl, hw ▸ wstep_grow k os⟩)

abbrev impl_decsp : List Sp := [.v false (.int .i64)]
abbrev impl_decbs : List (Bs × Bool) := []
abbrev impl_decrs : List (Bool × List Rp) := [(false, [.v false .str])]
noncomputable def impl_deckp : Keep := { loop := fun id => match id with | _ => ([], []), join := fun id => match id with | _ => none }
noncomputable def impl_decc : Code := bodyOf Go.Proofs.Tryd.f49
noncomputable def impl_decF (n : Nat) : Fun := { id := 49, sp := impl_decsp, bs := impl_decbs, rs := impl_decrs, f := fun x y => impl_dec n x.1 }

theorem impl_dec_eq (n : Nat) (a0 : Int) : runBody ([strconv_FormatIntF n]) ty 5 n impl_deckp impl_decc Go.Proofs.Tryd.f49.results.toList impl_decrs impl_decsp impl_decbs (a0, ()) () = impl_dec n a0 := by
  have h : runBody ([strconv_FormatIntF n]) ty 5 n impl_deckp impl_decc Go.Proofs.Tryd.f49.results.toList impl_decrs impl_decsp impl_decbs (a0, ()) () = impl_dec_t n a0 := by kernel_rfl
  rw [h]
  rfl

theorem impl_dec_ok (n : Nat) : FunOk P (impl_decF n) :=
  funOk_mk (C := [strconv_FormatIntF n]) (N := 5) (kp := impl_deckp) (c := impl_decc) (n := n) (G := fun x y => impl_dec n x.1) follows (AllOk.mem (⟨strconv_FormatInt_ok n, trivial⟩ : AllOk P ([strconv_FormatIntF n]))) (by kernel_rfl : P.funcs[49]? = some Go.Proofs.Tryd.f49) (by kernel_rfl) (by kernel_rfl) (by kernel_rfl)
    (fun x y => impl_dec_eq n x.1) (fun _ _ => map_same (fun _ => rfl) _) (fun _ _ _ _ => rfl)

abbrev impl_withinsp : List Sp := [.v false (.int .i64), .v false (.int .i64), .v false (.int .i64)]
abbrev impl_withinbs : List (Bs × Bool) := []
abbrev impl_withinrs : List (Bool × List Rp) := [(false, [.v false .bool])]
noncomputable def impl_withinkp : Keep := { loop := fun id => match id with | _ => ([], []), join := fun id => match id with | _ => none }
noncomputable def impl_withinc : Code := bodyOf Go.Proofs.Tryd.f39
noncomputable def impl_withinF (n : Nat) : Fun := { id := 39, sp := impl_withinsp, bs := impl_withinbs, rs := impl_withinrs, f := fun x y => impl_within n x.1 x.2.1 x.2.2.1 }

theorem impl_within_eq (n : Nat) (a0 : Int) (a1 : Int) (a2 : Int) : runBody ([]) ty 15 n impl_withinkp impl_withinc Go.Proofs.Tryd.f39.results.toList impl_withinrs impl_withinsp impl_withinbs (a0, (a1, (a2, ()))) () = impl_within n a0 a1 a2 := by
  have h : runBody ([]) ty 15 n impl_withinkp impl_withinc Go.Proofs.Tryd.f39.results.toList impl_withinrs impl_withinsp impl_withinbs (a0, (a1, (a2, ()))) () = impl_within_t n a0 a1 a2 := by kernel_rfl
  rw [h]
  rfl

theorem impl_within_ok (n : Nat) : FunOk P (impl_withinF n) :=
  funOk_mk (C := []) (N := 15) (kp := impl_withinkp) (c := impl_withinc) (n := n) (G := fun x y => impl_within n x.1 x.2.1 x.2.2.1) follows (AllOk.mem (trivial : AllOk P ([]))) (by kernel_rfl : P.funcs[39]? = some Go.Proofs.Tryd.f39) (by kernel_rfl) (by kernel_rfl) (by kernel_rfl)
    (fun x y => impl_within_eq n x.1 x.2.1 x.2.2.1) (fun _ _ => map_same (fun _ => rfl) _) (fun _ _ _ _ => rfl)

abbrev impl_isAnglesp : List Sp := [.v false (.int .i64)]
abbrev impl_isAnglebs : List (Bs × Bool) := []
abbrev impl_isAnglers : List (Bool × List Rp) := [(false, [.v false .bool])]
noncomputable def impl_isAnglekp : Keep := { loop := fun id => match id with | _ => ([], []), join := fun id => match id with | _ => none }
noncomputable def impl_isAnglec : Code := bodyOf Go.Proofs.Tryd.f48
noncomputable def impl_isAngleF (n : Nat) : Fun := { id := 48, sp := impl_isAnglesp, bs := impl_isAnglebs, rs := impl_isAnglers, f := fun x y => impl_isAngle n x.1 }

theorem impl_isAngle_eq (n : Nat) (a0 : Int) : runBody ([impl_withinF n]) ty 5 n impl_isAnglekp impl_isAnglec Go.Proofs.Tryd.f48.results.toList impl_isAnglers impl_isAnglesp impl_isAnglebs (a0, ()) () = impl_isAngle n a0 := by
  have h : runBody ([impl_withinF n]) ty 5 n impl_isAnglekp impl_isAnglec Go.Proofs.Tryd.f48.results.toList impl_isAnglers impl_isAnglesp impl_isAnglebs (a0, ()) () = impl_isAngle_t n a0 := by kernel_rfl
  rw [h]
  rfl

theorem impl_isAngle_ok (n : Nat) : FunOk P (impl_isAngleF n) :=
  funOk_mk (C := [impl_withinF n]) (N := 5) (kp := impl_isAnglekp) (c := impl_isAnglec) (n := n) (G := fun x y => impl_isAngle n x.1) follows (AllOk.mem (⟨impl_within_ok n, trivial⟩ : AllOk P ([impl_withinF n]))) (by kernel_rfl : P.funcs[48]? = some Go.Proofs.Tryd.f48) (by kernel_rfl) (by kernel_rfl) (by kernel_rfl)
    (fun x y => impl_isAngle_eq n x.1) (fun _ _ => map_same (fun _ => rfl) _) (fun _ _ _ _ => rfl)

abbrev impl_twosp : List Sp := [.v false (.int .i64)]
abbrev impl_twobs : List (Bs × Bool) := []
abbrev impl_twors : List (Bool × List Rp) := [(false, [.v false .str])]
noncomputable def impl_twokp : Keep := { loop := fun id => match id with | _ => ([], []), join := fun id => match id with | _ => none }
noncomputable def impl_twoc : Code := bodyOf Go.Proofs.Tryd.f50
noncomputable def impl_twoF (n : Nat) : Fun := { id := 50, sp := impl_twosp, bs := impl_twobs, rs := impl_twors, f := fun x y => impl_two n x.1 }

theorem impl_two_eq (n : Nat) (a0 : Int) : runBody ([impl_decF n]) ty 10 n impl_twokp impl_twoc Go.Proofs.Tryd.f50.results.toList impl_twors impl_twosp impl_twobs (a0, ()) () = impl_two n a0 := by
  have h : runBody ([impl_decF n]) ty 10 n impl_twokp impl_twoc Go.Proofs.Tryd.f50.results.toList impl_twors impl_twosp impl_twobs (a0, ()) () = impl_two_t n a0 := by kernel_rfl
  rw [h]
  rfl

theorem impl_two_ok (n : Nat) : FunOk P (impl_twoF n) :=
  funOk_mk (C := [impl_decF n]) (N := 10) (kp := impl_twokp) (c := impl_twoc) (n := n) (G := fun x y => impl_two n x.1) follows (AllOk.mem (⟨impl_dec_ok n, trivial⟩ : AllOk P ([impl_decF n]))) (by kernel_rfl : P.funcs[50]? = some Go.Proofs.Tryd.f50) (by kernel_rfl) (by kernel_rfl) (by kernel_rfl)
    (fun x y => impl_two_eq n x.1) (fun _ _ => map_same (fun _ => rfl) _) (fun _ _ _ _ => rfl)

abbrev impl_AngleTextsp : List Sp := [.v false (.int .i64)]
abbrev impl_AngleTextbs : List (Bs × Bool) := []
abbrev impl_AngleTextrs : List (Bool × List Rp) := [(false, [.v false .str])]
noncomputable def impl_AngleTextkp : Keep := { loop := fun id => match id with | _ => ([], []), join := fun id => match id with | _ => none }
noncomputable def impl_AngleTextc : Code := bodyOf Go.Proofs.Tryd.f16
noncomputable def impl_AngleTextF (n : Nat) : Fun := { id := 16, sp := impl_AngleTextsp, bs := impl_AngleTextbs, rs := impl_AngleTextrs, f := fun x y => impl_AngleText n x.1 }

theorem impl_AngleText_eq (n : Nat) (a0 : Int) : runBody ([impl_isAngleF n, impl_decF n, impl_twoF n]) ty 20 n impl_AngleTextkp impl_AngleTextc Go.Proofs.Tryd.f16.results.toList impl_AngleTextrs impl_AngleTextsp impl_AngleTextbs (a0, ()) () = impl_AngleText n a0 := by
  have h : runBody ([impl_isAngleF n, impl_decF n, impl_twoF n]) ty 20 n impl_AngleTextkp impl_AngleTextc Go.Proofs.Tryd.f16.results.toList impl_AngleTextrs impl_AngleTextsp impl_AngleTextbs (a0, ()) () = impl_AngleText_t n a0 := by kernel_rfl
  rw [h]
  rfl

theorem impl_AngleText_ok (n : Nat) : FunOk P (impl_AngleTextF n) :=
  funOk_mk (C := [impl_isAngleF n, impl_decF n, impl_twoF n]) (N := 20) (kp := impl_AngleTextkp) (c := impl_AngleTextc) (n := n) (G := fun x y => impl_AngleText n x.1) follows (AllOk.mem (⟨impl_isAngle_ok n, ⟨impl_dec_ok n, ⟨impl_two_ok n, trivial⟩⟩⟩ : AllOk P ([impl_isAngleF n, impl_decF n, impl_twoF n]))) (by kernel_rfl : P.funcs[16]? = some Go.Proofs.Tryd.f16) (by kernel_rfl) (by kernel_rfl) (by kernel_rfl)
    (fun x y => impl_AngleText_eq n x.1) (fun _ _ => map_same (fun _ => rfl) _) (fun _ _ _ _ => rfl)

abbrev impl_numbersp : List Sp := [.v false .str]
abbrev impl_numberbs : List (Bs × Bool) := []
abbrev impl_numberrs : List (Bool × List Rp) := [(false, [.v false (.int .i64)])]
noncomputable def impl_numberF (n : Nat) : Fun := { id := 36, sp := impl_numbersp, bs := impl_numberbs, rs := impl_numberrs, f := fun x y => impl_number n x.1 }

theorem parseInt_any (s : ByteArray) (hs : s.size ≤ 281474976710656) (w : World) (hL : Laid.L P w) :
    (∃ v, Go.Lib.parseIntB 64 s.data.toList = .ok v ∧ Calls Go.Proofs.Tryd.prog 66 #[.string s, .int .i64 10, .int .i64 64] w fun e w' => e = .returned (.tuple #[.int .i64 v, .nilIface]) ∧ Go.RowKit.Below w.heap.size w w') ∨
    ((∀ v, Go.Lib.parseIntB 64 s.data.toList ≠ .ok v) ∧ Calls Go.Proofs.Tryd.prog 66 #[.string s, .int .i64 10, .int .i64 64] w fun e w' => ∃ v t p, e = .returned (.tuple #[.int .i64 v, .iface t p]) ∧ Go.RowKit.Below w.heap.size w w') := by
  obtain ⟨t1, p1, h1⟩ := laidSyn hL
  obtain ⟨t2, p2, h2⟩ := laidRan hL
  cases hp : Go.Lib.parseIntB 64 s.data.toList with
  | ok v =>
    refine .inl ⟨v, rfl, (Go.Proofs.Any.strconv_ParseInt_10_at64_ok Go.Proofs.Tryd.laysC174 s (by omega) v hp w).mono ?_⟩
    rintro e w' ⟨rfl, hw⟩
    refine ⟨rfl, ?_⟩
    rcases hw with rfl | ⟨t, rfl⟩
    · exact Go.RowKit.Below.refl _ _
    · exact Go.Lib.bytesWorld_below _ _ _
  | range =>
    refine .inr ⟨fun v hv => (by cases hv), (Go.Proofs.Any.strconv_ParseInt_10_at64_range Go.Proofs.Tryd.laysC174 s hs hp _ w h2 (.inr ⟨_, _, rfl⟩)).mono ?_⟩
    rintro e w' ⟨N, rfl, _, _, hb⟩
    exact ⟨_, _, _, rfl, hb⟩
  | _ =>
    refine .inr ⟨fun v hv => (by cases hv), (Go.Proofs.Any.strconv_ParseInt_10_at64_syntax Go.Proofs.Tryd.laysC174 s hs hp _ w h1 (.inr ⟨_, _, rfl⟩)).mono ?_⟩
    rintro e w' ⟨N, rfl, _, _, hb⟩
    exact ⟨_, _, _, rfl, hb⟩

theorem number_ok (s : ByteArray) (v : Int) (w : World) (hp : Calls Go.Proofs.Tryd.prog 66 #[.string s, .int .i64 10, .int .i64 64] w fun e w' => e = .returned (.tuple #[.int .i64 v, .nilIface]) ∧ Go.RowKit.Below w.heap.size w w') :
    Calls Go.Proofs.Tryd.prog 36 #[.string s] w fun e w' => e = .returned (.int .i64 v) ∧ Go.RowKit.Below w.heap.size w w' := by
  go_enter Go.Proofs.Tryd.func36, Go.Proofs.Tryd.ntmps36
  go_wp2_with (go_at_call 66; refine hp.mono ?_; rintro e w1 ⟨rfl, hb⟩)
  go_wp2
  go_ret
  exact ⟨rfl, hb⟩

theorem number_err (s : ByteArray) (w : World) (hp : Calls Go.Proofs.Tryd.prog 66 #[.string s, .int .i64 10, .int .i64 64] w fun e w' => ∃ v t p, e = .returned (.tuple #[.int .i64 v, .iface t p]) ∧ Go.RowKit.Below w.heap.size w w') :
    Calls Go.Proofs.Tryd.prog 36 #[.string s] w fun e w' => e = .returned (.int .i64 0) ∧ Go.RowKit.Below w.heap.size w w' := by
  go_enter Go.Proofs.Tryd.func36, Go.Proofs.Tryd.ntmps36
  go_wp2_with (go_at_call 66; refine hp.mono ?_; rintro e w1 ⟨v, t, p, rfl, hb⟩)
  go_wp2
  go_ret
  exact ⟨rfl, hb⟩

theorem number_walk (s : ByteArray) (hs : s.size ≤ 281474976710656) (w : World) (hL : Laid.L P w) :
    Calls Go.Proofs.Tryd.prog 36 #[.string s] w fun e w' => ∃ v, e = .returned (.int .i64 v) ∧ Go.RowKit.Below w.heap.size w w' ∧ v = (match Go.Lib.parseIntB 64 s.data.toList with | .ok v => v | _ => 0) := by
  rcases parseInt_any s hs w hL with ⟨v, hv, hp⟩ | ⟨hv, hp⟩
  · exact (number_ok s v w hp).mono fun e w' ⟨he, hb⟩ => ⟨v, he, hb, by rw [hv]⟩
  · refine (number_err s w hp).mono fun e w' ⟨he, hb⟩ => ⟨0, he, hb, ?_⟩
    split
    · rename_i v' hv'
      exact absurd hv' (hv v')
    · rfl

theorem impl_number_ok (n : Nat) : FunOk P (impl_numberF n) := by
  refine ⟨⟨Go.Proofs.Tryd.f36, bodyOf Go.Proofs.Tryd.f36, Go.Proofs.Tryd.func36, by kernel_rfl, by kernel_rfl⟩, ?_⟩
  intro x y r hr w I J β vs hG hg hL hv
  have hr' : cond (decide (x.1.size ≤ 281474976710656)) (some (((((match Go.Lib.parseIntB 64 x.1.data.toList with | .ok v => v | _ => 0), ()), ()), ()))) none = some r := by
    rw [← hr]
    show _ = impl_number n x.1
    unfold impl_number
    cases Go.Lib.parseIntB 64 x.1.data.toList <;> rfl
  cases hc : (decide (x.1.size ≤ 281474976710656)) with
  | false => rw [hc, cond_false] at hr'; cases hr'
  | true =>
    rw [hc, cond_true] at hr'
    injection hr' with hr'
    subst hr'
    simp only [decide_eq_true_eq] at hc
    have hv' : RVs I J β (listF []) w [.one (.sc (.string x.1))] vs := hv
    have e := args_s hv'
    subst e
    exact leaf_call (v := .one (.sc (.int .i64 (match Go.Lib.parseIntB 64 x.1.data.toList with | .ok v => v | _ => 0)))) hG
      ((number_walk x.1 hc w hL).mono fun e w' ⟨v, he, hb, hv⟩ => ⟨_, he, hv ▸ rfl, wstep_below hb⟩)

abbrev strings_Splitsp : List Sp := [.v false .str, .v false .str]
abbrev strings_Splitbs : List (Bs × Bool) := []
abbrev strings_Splitrs : List (Bool × List Rp) := [(false, [.new .str])]
noncomputable def strings_SplitF (n : Nat) : Fun := { id := 35, sp := strings_Splitsp, bs := strings_Splitbs, rs := strings_Splitrs, f := fun x y => strings_Split n x.1 x.2.1 }

theorem strings_Split_ok (n : Nat) : FunOk P (strings_SplitF n) := by
  refine ⟨⟨Go.Proofs.Tryd.f35, bodyOf Go.Proofs.Tryd.f35, Go.Proofs.Tryd.func35, by kernel_rfl, by kernel_rfl⟩, ?_⟩
  intro x y r hr w I J β vs hG hg hL hv
  have hr' : cond (decide (x.1.size < 4294967281) && decide (1 ≤ x.2.1.size)) (some ((((Go.Lib.splitB x.2.1 0 (Go.Lib.countB x.1 x.2.1) x.1, ()), ()), ()))) none = some r := hr
  cases hc : (decide (x.1.size < 4294967281) && decide (1 ≤ x.2.1.size)) with
  | false => rw [hc, cond_false] at hr'; cases hr'
  | true =>
    rw [hc, cond_true] at hr'
    injection hr' with hr'
    subst hr'
    simp only [Bool.and_eq_true, decide_eq_true_eq] at hc
    have hv' : RVs I J β (listF []) w [.one (.sc (.string x.1)), .one (.sc (.string x.2.1))] vs := hv
    have e := args_ss hv'
    subst e
    obtain ⟨m, hm⟩ := laidMax hL
    have hlen := Go.Lib.splitB_all x.2.1 hc.2 0 _ x.1 rfl
    have key := Go.Proofs.Tryd.strings_Split x.1 x.2.1 m w hc.1 hm hc.2
    rw [← hlen] at key
    exact leaf_new (t := .str) (xs := Go.Lib.splitB x.2.1 0 (Go.Lib.countB x.1 x.2.1) x.1) hG (cells_strs _) key

abbrev impl_ReadAnglesp : List Sp := [.v false .str]
abbrev impl_ReadAnglebs : List (Bs × Bool) := []
abbrev impl_ReadAnglers : List (Bool × List Rp) := [(false, [.v false (.int .i64)]), (false, [.v false (.int .i64)])]
noncomputable def impl_ReadAnglekp : Keep := { loop := fun id => match id with | 5 => ([15, 13, 0, 4, 14], []) | _ => ([], []), join := fun id => match id with | _ => none }
noncomputable def impl_ReadAnglec : Code := bodyOf Go.Proofs.Tryd.f14
noncomputable def impl_ReadAngleF (n : Nat) : Fun := { id := 14, sp := impl_ReadAnglesp, bs := impl_ReadAnglebs, rs := impl_ReadAnglers, f := fun x y => impl_ReadAngle n x.1 }

theorem impl_ReadAngle_l5_eq (n : Nat) : ∀ (k : Nat) (v15 : Int) (v0 : ByteArray) (v14 : Int) (b0 : List (ByteArray)), iter (interp ([strings_SplitF n, impl_numberF n, impl_AngleTextF n]) ty 44 0 n impl_ReadAnglekp (codeAt impl_ReadAnglec [1, 1, 1, 0, 1, 0, 0])) (canon 0 (impl_ReadAnglekp.loop 5)) (kAt ([strings_SplitF n, impl_numberF n, impl_AngleTextF n]) ty 44 0 n impl_ReadAnglekp impl_ReadAnglec [1, 1, 1, 0, 1, 0] [] (ending ty 0 Go.Proofs.Tryd.f14.results.toList impl_ReadAnglers impl_ReadAnglebs)) k { env := [(15, .one (.sc (.int .i64 v15))), (13, .one (.slice 0 0 none)), (0, .one (.sc (.string v0))), (4, .one (.slice 0 0 none)), (14, .one (.sc (.int .i64 v14)))], bx := [(0, .row 0 .str b0)], nx := 1 } = impl_ReadAngle_l5 n k v15 v0 v14 b0
  | 0, _, _, _, _ => by kernel_rfl
  | k + 1, v15, v0, v14, b0 => by
    have h : iter (interp ([strings_SplitF n, impl_numberF n, impl_AngleTextF n]) ty 44 0 n impl_ReadAnglekp (codeAt impl_ReadAnglec [1, 1, 1, 0, 1, 0, 0])) (canon 0 (impl_ReadAnglekp.loop 5)) (kAt ([strings_SplitF n, impl_numberF n, impl_AngleTextF n]) ty 44 0 n impl_ReadAnglekp impl_ReadAnglec [1, 1, 1, 0, 1, 0] [] (ending ty 0 Go.Proofs.Tryd.f14.results.toList impl_ReadAnglers impl_ReadAnglebs)) (k + 1) { env := [(15, .one (.sc (.int .i64 v15))), (13, .one (.slice 0 0 none)), (0, .one (.sc (.string v0))), (4, .one (.slice 0 0 none)), (14, .one (.sc (.int .i64 v14)))], bx := [(0, .row 0 .str b0)], nx := 1 } = impl_ReadAngle_t5 n (fun v15 v0 v14 b0 => iter (interp ([strings_SplitF n, impl_numberF n, impl_AngleTextF n]) ty 44 0 n impl_ReadAnglekp (codeAt impl_ReadAnglec [1, 1, 1, 0, 1, 0, 0])) (canon 0 (impl_ReadAnglekp.loop 5)) (kAt ([strings_SplitF n, impl_numberF n, impl_AngleTextF n]) ty 44 0 n impl_ReadAnglekp impl_ReadAnglec [1, 1, 1, 0, 1, 0] [] (ending ty 0 Go.Proofs.Tryd.f14.results.toList impl_ReadAnglers impl_ReadAnglebs)) k { env := [(15, .one (.sc (.int .i64 v15))), (13, .one (.slice 0 0 none)), (0, .one (.sc (.string v0))), (4, .one (.slice 0 0 none)), (14, .one (.sc (.int .i64 v14)))], bx := [(0, .row 0 .str b0)], nx := 1 }) v15 v0 v14 b0 := by kernel_rfl
    rw [h]
    have e := congrArg (fun g => impl_ReadAngle_t5 n g v15 v0 v14 b0) (funext fun v15 => funext fun v0 => funext fun v14 => funext fun b0 => impl_ReadAngle_l5_eq n k v15 v0 v14 b0)
    exact e

theorem impl_ReadAngle_eq (n : Nat) (a0 : ByteArray) : runBody ([strings_SplitF n, impl_numberF n, impl_AngleTextF n]) ty 44 n impl_ReadAnglekp impl_ReadAnglec Go.Proofs.Tryd.f14.results.toList impl_ReadAnglers impl_ReadAnglesp impl_ReadAnglebs (a0, ()) () = impl_ReadAngle n a0 := by
  have h : runBody ([strings_SplitF n, impl_numberF n, impl_AngleTextF n]) ty 44 n impl_ReadAnglekp impl_ReadAnglec Go.Proofs.Tryd.f14.results.toList impl_ReadAnglers impl_ReadAnglesp impl_ReadAnglebs (a0, ()) () = impl_ReadAngle_t n (fun k v15 v0 v14 b0 => iter (interp ([strings_SplitF n, impl_numberF n, impl_AngleTextF n]) ty 44 0 n impl_ReadAnglekp (codeAt impl_ReadAnglec [1, 1, 1, 0, 1, 0, 0])) (canon 0 (impl_ReadAnglekp.loop 5)) (kAt ([strings_SplitF n, impl_numberF n, impl_AngleTextF n]) ty 44 0 n impl_ReadAnglekp impl_ReadAnglec [1, 1, 1, 0, 1, 0] [] (ending ty 0 Go.Proofs.Tryd.f14.results.toList impl_ReadAnglers impl_ReadAnglebs)) k { env := [(15, .one (.sc (.int .i64 v15))), (13, .one (.slice 0 0 none)), (0, .one (.sc (.string v0))), (4, .one (.slice 0 0 none)), (14, .one (.sc (.int .i64 v14)))], bx := [(0, .row 0 .str b0)], nx := 1 }) a0 := by kernel_rfl
  rw [h]
  have e := congrArg (fun h5 => impl_ReadAngle_t n h5 a0) (funext fun k => funext fun v15 => funext fun v0 => funext fun v14 => funext fun b0 => impl_ReadAngle_l5_eq n k v15 v0 v14 b0)
  exact e

theorem impl_ReadAngle_ok (n : Nat) : FunOk P (impl_ReadAngleF n) :=
  funOk_mk (C := [strings_SplitF n, impl_numberF n, impl_AngleTextF n]) (N := 44) (kp := impl_ReadAnglekp) (c := impl_ReadAnglec) (n := n) (G := fun x y => impl_ReadAngle n x.1) follows (AllOk.mem (⟨strings_Split_ok n, ⟨impl_number_ok n, ⟨impl_AngleText_ok n, trivial⟩⟩⟩ : AllOk P ([strings_SplitF n, impl_numberF n, impl_AngleTextF n]))) (by kernel_rfl : P.funcs[14]? = some Go.Proofs.Tryd.f14) (by kernel_rfl) (by kernel_rfl) (by kernel_rfl)
    (fun x y => impl_ReadAngle_eq n x.1) (fun _ _ => map_same (fun _ => rfl) _) (fun _ _ _ _ => rfl)

abbrev spec_l00Insp : List Sp := [.v false (.int .i64), .v false (.int .i64), .v false (.int .i64)]
abbrev spec_l00Inbs : List (Bs × Bool) := []
abbrev spec_l00Inrs : List (Bool × List Rp) := [(false, [.v false .bool])]
noncomputable def spec_l00Inkp : Keep := { loop := fun id => match id with | _ => ([], []), join := fun id => match id with | _ => none }
noncomputable def spec_l00Inc : Code := bodyOf Go.Proofs.Tryd.f31
noncomputable def spec_l00InF (n : Nat) : Fun := { id := 31, sp := spec_l00Insp, bs := spec_l00Inbs, rs := spec_l00Inrs, f := fun x y => spec_l00In n x.1 x.2.1 x.2.2.1 }

theorem spec_l00In_eq (n : Nat) (a0 : Int) (a1 : Int) (a2 : Int) : runBody ([]) ty 15 n spec_l00Inkp spec_l00Inc Go.Proofs.Tryd.f31.results.toList spec_l00Inrs spec_l00Insp spec_l00Inbs (a0, (a1, (a2, ()))) () = spec_l00In n a0 a1 a2 := by
  have h : runBody ([]) ty 15 n spec_l00Inkp spec_l00Inc Go.Proofs.Tryd.f31.results.toList spec_l00Inrs spec_l00Insp spec_l00Inbs (a0, (a1, (a2, ()))) () = spec_l00In_t n a0 a1 a2 := by kernel_rfl
  rw [h]
  rfl

theorem spec_l00In_ok (n : Nat) : FunOk P (spec_l00InF n) :=
  funOk_mk (C := []) (N := 15) (kp := spec_l00Inkp) (c := spec_l00Inc) (n := n) (G := fun x y => spec_l00In n x.1 x.2.1 x.2.2.1) follows (AllOk.mem (trivial : AllOk P ([]))) (by kernel_rfl : P.funcs[31]? = some Go.Proofs.Tryd.f31) (by kernel_rfl) (by kernel_rfl) (by kernel_rfl)
    (fun x y => spec_l00In_eq n x.1 x.2.1 x.2.2.1) (fun _ _ => map_same (fun _ => rfl) _) (fun _ _ _ _ => rfl)

abbrev spec_l01Numbersp : List Sp := [.v false .str]
abbrev spec_l01Numberbs : List (Bs × Bool) := []
abbrev spec_l01Numberrs : List (Bool × List Rp) := [(false, [.v false (.int .i64)]), (false, [.v false .bool])]
noncomputable def spec_l01Numberkp : Keep := { loop := fun id => match id with | 5 => ([5, 0, 4], []) | _ => ([], []), join := fun id => match id with | _ => none }
noncomputable def spec_l01Numberc : Code := bodyOf Go.Proofs.Tryd.f28
noncomputable def spec_l01NumberF (n : Nat) : Fun := { id := 28, sp := spec_l01Numbersp, bs := spec_l01Numberbs, rs := spec_l01Numberrs, f := fun x y => spec_l01Number n x.1 }

theorem spec_l01Number_l5_eq (n : Nat) : ∀ (k : Nat) (v5 : Int) (v0 : ByteArray) (v4 : Int), iter (interp ([]) ty 48 0 n spec_l01Numberkp (codeAt spec_l01Numberc [1, 1, 1, 0, 1, 0, 0])) (canon 0 (spec_l01Numberkp.loop 5)) (kAt ([]) ty 48 0 n spec_l01Numberkp spec_l01Numberc [1, 1, 1, 0, 1, 0] [] (ending ty 0 Go.Proofs.Tryd.f28.results.toList spec_l01Numberrs spec_l01Numberbs)) k { env := [(5, .one (.sc (.int .i64 v5))), (0, .one (.sc (.string v0))), (4, .one (.sc (.int .i64 v4)))], bx := [], nx := 0 } = spec_l01Number_l5 n k v5 v0 v4
  | 0, _, _, _ => by kernel_rfl
  | k + 1, v5, v0, v4 => by
    have h : iter (interp ([]) ty 48 0 n spec_l01Numberkp (codeAt spec_l01Numberc [1, 1, 1, 0, 1, 0, 0])) (canon 0 (spec_l01Numberkp.loop 5)) (kAt ([]) ty 48 0 n spec_l01Numberkp spec_l01Numberc [1, 1, 1, 0, 1, 0] [] (ending ty 0 Go.Proofs.Tryd.f28.results.toList spec_l01Numberrs spec_l01Numberbs)) (k + 1) { env := [(5, .one (.sc (.int .i64 v5))), (0, .one (.sc (.string v0))), (4, .one (.sc (.int .i64 v4)))], bx := [], nx := 0 } = spec_l01Number_t5 n (fun v5 v0 v4 => iter (interp ([]) ty 48 0 n spec_l01Numberkp (codeAt spec_l01Numberc [1, 1, 1, 0, 1, 0, 0])) (canon 0 (spec_l01Numberkp.loop 5)) (kAt ([]) ty 48 0 n spec_l01Numberkp spec_l01Numberc [1, 1, 1, 0, 1, 0] [] (ending ty 0 Go.Proofs.Tryd.f28.results.toList spec_l01Numberrs spec_l01Numberbs)) k { env := [(5, .one (.sc (.int .i64 v5))), (0, .one (.sc (.string v0))), (4, .one (.sc (.int .i64 v4)))], bx := [], nx := 0 }) v5 v0 v4 := by kernel_rfl
    rw [h]
    have e := congrArg (fun g => spec_l01Number_t5 n g v5 v0 v4) (funext fun v5 => funext fun v0 => funext fun v4 => spec_l01Number_l5_eq n k v5 v0 v4)
    exact e

theorem spec_l01Number_eq (n : Nat) (a0 : ByteArray) : runBody ([]) ty 48 n spec_l01Numberkp spec_l01Numberc Go.Proofs.Tryd.f28.results.toList spec_l01Numberrs spec_l01Numbersp spec_l01Numberbs (a0, ()) () = spec_l01Number n a0 := by
  have h : runBody ([]) ty 48 n spec_l01Numberkp spec_l01Numberc Go.Proofs.Tryd.f28.results.toList spec_l01Numberrs spec_l01Numbersp spec_l01Numberbs (a0, ()) () = spec_l01Number_t n (fun k v5 v0 v4 => iter (interp ([]) ty 48 0 n spec_l01Numberkp (codeAt spec_l01Numberc [1, 1, 1, 0, 1, 0, 0])) (canon 0 (spec_l01Numberkp.loop 5)) (kAt ([]) ty 48 0 n spec_l01Numberkp spec_l01Numberc [1, 1, 1, 0, 1, 0] [] (ending ty 0 Go.Proofs.Tryd.f28.results.toList spec_l01Numberrs spec_l01Numberbs)) k { env := [(5, .one (.sc (.int .i64 v5))), (0, .one (.sc (.string v0))), (4, .one (.sc (.int .i64 v4)))], bx := [], nx := 0 }) a0 := by kernel_rfl
  rw [h]
  have e := congrArg (fun h5 => spec_l01Number_t n h5 a0) (funext fun k => funext fun v5 => funext fun v0 => funext fun v4 => spec_l01Number_l5_eq n k v5 v0 v4)
  exact e

theorem spec_l01Number_ok (n : Nat) : FunOk P (spec_l01NumberF n) :=
  funOk_mk (C := []) (N := 48) (kp := spec_l01Numberkp) (c := spec_l01Numberc) (n := n) (G := fun x y => spec_l01Number n x.1) follows (AllOk.mem (trivial : AllOk P ([]))) (by kernel_rfl : P.funcs[28]? = some Go.Proofs.Tryd.f28) (by kernel_rfl) (by kernel_rfl) (by kernel_rfl)
    (fun x y => spec_l01Number_eq n x.1) (fun _ _ => map_same (fun _ => rfl) _) (fun _ _ _ _ => rfl)

abbrev spec_l01Splitsp : List Sp := [.v false .str, .v false (.int .u8)]
abbrev spec_l01Splitbs : List (Bs × Bool) := []
abbrev spec_l01Splitrs : List (Bool × List Rp) := [(false, [.new  .str])]
noncomputable def spec_l01Splitkp : Keep := { loop := fun id => match id with | 4 => ([7, 6, 0, 5, 1], []) | _ => ([], []), join := fun id => match id with | _ => none }
noncomputable def spec_l01Splitc : Code := bodyOf Go.Proofs.Tryd.f27
noncomputable def spec_l01SplitF (n : Nat) : Fun := { id := 27, sp := spec_l01Splitsp, bs := spec_l01Splitbs, rs := spec_l01Splitrs, f := fun x y => spec_l01Split n x.1 x.2.1 }

theorem spec_l01Split_l4_eq (n : Nat) : ∀ (k : Nat) (v7 : Int) (v6 : Int) (v0 : ByteArray) (v1 : Int) (b0 : List (ByteArray)), iter (interp ([]) ty 35 0 n spec_l01Splitkp (codeAt spec_l01Splitc [1, 1, 1, 0, 1, 0, 0])) (canon 0 (spec_l01Splitkp.loop 4)) (kAt ([]) ty 35 0 n spec_l01Splitkp spec_l01Splitc [1, 1, 1, 0, 1, 0] [] (ending ty 0 Go.Proofs.Tryd.f27.results.toList spec_l01Splitrs spec_l01Splitbs)) k { env := [(7, .one (.sc (.int .i64 v7))), (6, .one (.sc (.int .i64 v6))), (0, .one (.sc (.string v0))), (5, .one (.slice 0 0 none)), (1, .one (.sc (.int .u8 v1)))], bx := [(0, .row 0 .str b0)], nx := 1 } = spec_l01Split_l4 n k v7 v6 v0 v1 b0
  | 0, _, _, _, _, _ => by kernel_rfl
  | k + 1, v7, v6, v0, v1, b0 => by
    have h : iter (interp ([]) ty 35 0 n spec_l01Splitkp (codeAt spec_l01Splitc [1, 1, 1, 0, 1, 0, 0])) (canon 0 (spec_l01Splitkp.loop 4)) (kAt ([]) ty 35 0 n spec_l01Splitkp spec_l01Splitc [1, 1, 1, 0, 1, 0] [] (ending ty 0 Go.Proofs.Tryd.f27.results.toList spec_l01Splitrs spec_l01Splitbs)) (k + 1) { env := [(7, .one (.sc (.int .i64 v7))), (6, .one (.sc (.int .i64 v6))), (0, .one (.sc (.string v0))), (5, .one (.slice 0 0 none)), (1, .one (.sc (.int .u8 v1)))], bx := [(0, .row 0 .str b0)], nx := 1 } = spec_l01Split_t4 n (fun v7 v6 v0 v1 b0 => iter (interp ([]) ty 35 0 n spec_l01Splitkp (codeAt spec_l01Splitc [1, 1, 1, 0, 1, 0, 0])) (canon 0 (spec_l01Splitkp.loop 4)) (kAt ([]) ty 35 0 n spec_l01Splitkp spec_l01Splitc [1, 1, 1, 0, 1, 0] [] (ending ty 0 Go.Proofs.Tryd.f27.results.toList spec_l01Splitrs spec_l01Splitbs)) k { env := [(7, .one (.sc (.int .i64 v7))), (6, .one (.sc (.int .i64 v6))), (0, .one (.sc (.string v0))), (5, .one (.slice 0 0 none)), (1, .one (.sc (.int .u8 v1)))], bx := [(0, .row 0 .str b0)], nx := 1 }) v7 v6 v0 v1 b0 := by kernel_rfl
    rw [h]
    have e := congrArg (fun g => spec_l01Split_t4 n g v7 v6 v0 v1 b0) (funext fun v7 => funext fun v6 => funext fun v0 => funext fun v1 => funext fun b0 => spec_l01Split_l4_eq n k v7 v6 v0 v1 b0)
    exact e

theorem spec_l01Split_eq (n : Nat) (a0 : ByteArray) (a1 : Int) : runBody ([]) ty 35 n spec_l01Splitkp spec_l01Splitc Go.Proofs.Tryd.f27.results.toList spec_l01Splitrs spec_l01Splitsp spec_l01Splitbs (a0, (a1, ())) () = spec_l01Split n a0 a1 := by
  have h : runBody ([]) ty 35 n spec_l01Splitkp spec_l01Splitc Go.Proofs.Tryd.f27.results.toList spec_l01Splitrs spec_l01Splitsp spec_l01Splitbs (a0, (a1, ())) () = spec_l01Split_t n (fun k v7 v6 v0 v1 b0 => iter (interp ([]) ty 35 0 n spec_l01Splitkp (codeAt spec_l01Splitc [1, 1, 1, 0, 1, 0, 0])) (canon 0 (spec_l01Splitkp.loop 4)) (kAt ([]) ty 35 0 n spec_l01Splitkp spec_l01Splitc [1, 1, 1, 0, 1, 0] [] (ending ty 0 Go.Proofs.Tryd.f27.results.toList spec_l01Splitrs spec_l01Splitbs)) k { env := [(7, .one (.sc (.int .i64 v7))), (6, .one (.sc (.int .i64 v6))), (0, .one (.sc (.string v0))), (5, .one (.slice 0 0 none)), (1, .one (.sc (.int .u8 v1)))], bx := [(0, .row 0 .str b0)], nx := 1 }) a0 a1 := by kernel_rfl
  rw [h]
  have e := congrArg (fun h4 => spec_l01Split_t n h4 a0 a1) (funext fun k => funext fun v7 => funext fun v6 => funext fun v0 => funext fun v1 => funext fun b0 => spec_l01Split_l4_eq n k v7 v6 v0 v1 b0)
  exact e

theorem spec_l01Split_ok (n : Nat) : FunOk P (spec_l01SplitF n) :=
  funOk_mk (C := []) (N := 35) (kp := spec_l01Splitkp) (c := spec_l01Splitc) (n := n) (G := fun x y => spec_l01Split n x.1 x.2.1) follows (AllOk.mem (trivial : AllOk P ([]))) (by kernel_rfl : P.funcs[27]? = some Go.Proofs.Tryd.f27) (by kernel_rfl) (by kernel_rfl) (by kernel_rfl)
    (fun x y => spec_l01Split_eq n x.1 x.2.1) (fun _ _ => map_same (fun _ => rfl) _) (fun _ _ _ _ => rfl)

abbrev spec_ReadAnglesp : List Sp := [.v false .str]
abbrev spec_ReadAnglebs : List (Bs × Bool) := []
abbrev spec_ReadAnglers : List (Bool × List Rp) := [(false, [.v false (.int .i64)]), (false, [.v false (.int .i64)])]
noncomputable def spec_ReadAnglekp : Keep := { loop := fun id => match id with | 8 => ([7, 5, 4], []) | _ => ([], []), join := fun id => match id with | _ => none }
noncomputable def spec_ReadAnglec : Code := bodyOf Go.Proofs.Tryd.f13
noncomputable def spec_ReadAngleF (n : Nat) : Fun := { id := 13, sp := spec_ReadAnglesp, bs := spec_ReadAnglebs, rs := spec_ReadAnglers, f := fun x y => spec_ReadAngle n x.1 }

theorem spec_ReadAngle_l8_eq (n : Nat) : ∀ (k : Nat) (v7 : Int) (v5 : Int) (b0 : List (ByteArray)), iter (interp ([spec_l01SplitF n, spec_l01NumberF n, spec_l00InF n]) ty 76 0 n spec_ReadAnglekp (codeAt spec_ReadAnglec [1, 1, 1, 1, 1, 0, 1, 0, 0])) (canon 0 (spec_ReadAnglekp.loop 8)) (kAt ([spec_l01SplitF n, spec_l01NumberF n, spec_l00InF n]) ty 76 0 n spec_ReadAnglekp spec_ReadAnglec [1, 1, 1, 1, 1, 0, 1, 0] [] (ending ty 0 Go.Proofs.Tryd.f13.results.toList spec_ReadAnglers spec_ReadAnglebs)) k { env := [(7, .one (.sc (.int .i64 v7))), (5, .one (.sc (.int .i64 v5))), (4, .one (.slice 0 0 none))], bx := [(0, .row 0 .str b0)], nx := 1 } = spec_ReadAngle_l8 n k v7 v5 b0
  | 0, _, _, _ => by kernel_rfl
  | k + 1, v7, v5, b0 => by
    have h : iter (interp ([spec_l01SplitF n, spec_l01NumberF n, spec_l00InF n]) ty 76 0 n spec_ReadAnglekp (codeAt spec_ReadAnglec [1, 1, 1, 1, 1, 0, 1, 0, 0])) (canon 0 (spec_ReadAnglekp.loop 8)) (kAt ([spec_l01SplitF n, spec_l01NumberF n, spec_l00InF n]) ty 76 0 n spec_ReadAnglekp spec_ReadAnglec [1, 1, 1, 1, 1, 0, 1, 0] [] (ending ty 0 Go.Proofs.Tryd.f13.results.toList spec_ReadAnglers spec_ReadAnglebs)) (k + 1) { env := [(7, .one (.sc (.int .i64 v7))), (5, .one (.sc (.int .i64 v5))), (4, .one (.slice 0 0 none))], bx := [(0, .row 0 .str b0)], nx := 1 } = spec_ReadAngle_t8 n (fun v7 v5 b0 => iter (interp ([spec_l01SplitF n, spec_l01NumberF n, spec_l00InF n]) ty 76 0 n spec_ReadAnglekp (codeAt spec_ReadAnglec [1, 1, 1, 1, 1, 0, 1, 0, 0])) (canon 0 (spec_ReadAnglekp.loop 8)) (kAt ([spec_l01SplitF n, spec_l01NumberF n, spec_l00InF n]) ty 76 0 n spec_ReadAnglekp spec_ReadAnglec [1, 1, 1, 1, 1, 0, 1, 0] [] (ending ty 0 Go.Proofs.Tryd.f13.results.toList spec_ReadAnglers spec_ReadAnglebs)) k { env := [(7, .one (.sc (.int .i64 v7))), (5, .one (.sc (.int .i64 v5))), (4, .one (.slice 0 0 none))], bx := [(0, .row 0 .str b0)], nx := 1 }) v7 v5 b0 := by kernel_rfl
    rw [h]
    have e := congrArg (fun g => spec_ReadAngle_t8 n g v7 v5 b0) (funext fun v7 => funext fun v5 => funext fun b0 => spec_ReadAngle_l8_eq n k v7 v5 b0)
    exact e

theorem spec_ReadAngle_eq (n : Nat) (a0 : ByteArray) : runBody ([spec_l01SplitF n, spec_l01NumberF n, spec_l00InF n]) ty 76 n spec_ReadAnglekp spec_ReadAnglec Go.Proofs.Tryd.f13.results.toList spec_ReadAnglers spec_ReadAnglesp spec_ReadAnglebs (a0, ()) () = spec_ReadAngle n a0 := by
  have h : runBody ([spec_l01SplitF n, spec_l01NumberF n, spec_l00InF n]) ty 76 n spec_ReadAnglekp spec_ReadAnglec Go.Proofs.Tryd.f13.results.toList spec_ReadAnglers spec_ReadAnglesp spec_ReadAnglebs (a0, ()) () = spec_ReadAngle_t n (fun k v7 v5 b0 => iter (interp ([spec_l01SplitF n, spec_l01NumberF n, spec_l00InF n]) ty 76 0 n spec_ReadAnglekp (codeAt spec_ReadAnglec [1, 1, 1, 1, 1, 0, 1, 0, 0])) (canon 0 (spec_ReadAnglekp.loop 8)) (kAt ([spec_l01SplitF n, spec_l01NumberF n, spec_l00InF n]) ty 76 0 n spec_ReadAnglekp spec_ReadAnglec [1, 1, 1, 1, 1, 0, 1, 0] [] (ending ty 0 Go.Proofs.Tryd.f13.results.toList spec_ReadAnglers spec_ReadAnglebs)) k { env := [(7, .one (.sc (.int .i64 v7))), (5, .one (.sc (.int .i64 v5))), (4, .one (.slice 0 0 none))], bx := [(0, .row 0 .str b0)], nx := 1 }) a0 := by kernel_rfl
  rw [h]
  have e := congrArg (fun h8 => spec_ReadAngle_t n h8 a0) (funext fun k => funext fun v7 => funext fun v5 => funext fun b0 => spec_ReadAngle_l8_eq n k v7 v5 b0)
  exact e

theorem spec_ReadAngle_ok (n : Nat) : FunOk P (spec_ReadAngleF n) :=
  funOk_mk (C := [spec_l01SplitF n, spec_l01NumberF n, spec_l00InF n]) (N := 76) (kp := spec_ReadAnglekp) (c := spec_ReadAnglec) (n := n) (G := fun x y => spec_ReadAngle n x.1) follows (AllOk.mem (⟨spec_l01Split_ok n, ⟨spec_l01Number_ok n, ⟨spec_l00In_ok n, trivial⟩⟩⟩ : AllOk P ([spec_l01SplitF n, spec_l01NumberF n, spec_l00InF n]))) (by kernel_rfl : P.funcs[13]? = some Go.Proofs.Tryd.f13) (by kernel_rfl) (by kernel_rfl) (by kernel_rfl)
    (fun x y => spec_ReadAngle_eq n x.1) (fun _ _ => map_same (fun _ => rfl) _) (fun _ _ _ _ => rfl)

abbrev laws_FnExactReadAnglesp : List Sp := [.v false .str]
abbrev laws_FnExactReadAnglebs : List (Bs × Bool) := []
abbrev laws_FnExactReadAnglers : List (Bool × List Rp) := [(false, [.v false .bool])]
noncomputable def laws_FnExactReadAnglekp : Keep := { loop := fun id => match id with | _ => ([], []), join := fun id => match id with | _ => none }
noncomputable def laws_FnExactReadAnglec : Code := bodyOf Go.Proofs.Tryd.f4
noncomputable def laws_FnExactReadAngleF (n : Nat) : Fun := { id := 4, sp := laws_FnExactReadAnglesp, bs := laws_FnExactReadAnglebs, rs := laws_FnExactReadAnglers, f := fun x y => laws_FnExactReadAngle n x.1 }

theorem laws_FnExactReadAngle_eq (n : Nat) (a0 : ByteArray) : runBody ([spec_ReadAngleF n, impl_ReadAngleF n]) ty 28 n laws_FnExactReadAnglekp laws_FnExactReadAnglec Go.Proofs.Tryd.f4.results.toList laws_FnExactReadAnglers laws_FnExactReadAnglesp laws_FnExactReadAnglebs (a0, ()) () = laws_FnExactReadAngle n a0 := by
  have h : runBody ([spec_ReadAngleF n, impl_ReadAngleF n]) ty 28 n laws_FnExactReadAnglekp laws_FnExactReadAnglec Go.Proofs.Tryd.f4.results.toList laws_FnExactReadAnglers laws_FnExactReadAnglesp laws_FnExactReadAnglebs (a0, ()) () = laws_FnExactReadAngle_t n a0 := by kernel_rfl
  rw [h]
  rfl

theorem laws_FnExactReadAngle_ok (n : Nat) : FunOk P (laws_FnExactReadAngleF n) :=
  funOk_mk (C := [spec_ReadAngleF n, impl_ReadAngleF n]) (N := 28) (kp := laws_FnExactReadAnglekp) (c := laws_FnExactReadAnglec) (n := n) (G := fun x y => laws_FnExactReadAngle n x.1) follows (AllOk.mem (⟨spec_ReadAngle_ok n, ⟨impl_ReadAngle_ok n, trivial⟩⟩ : AllOk P ([spec_ReadAngleF n, impl_ReadAngleF n]))) (by kernel_rfl : P.funcs[4]? = some Go.Proofs.Tryd.f4) (by kernel_rfl) (by kernel_rfl) (by kernel_rfl)
    (fun x y => laws_FnExactReadAngle_eq n x.1) (fun _ _ => map_same (fun _ => rfl) _) (fun _ _ _ _ => rfl)

end Go.Abs
