/- A call's frame: what must hold of memory, seen from where the call began; types; what one operation is shown to do. -/
import Derived.Test.YtpamckmeeamjjaaDoorInv
namespace Go.Abs
set_option linter.unusedSimpArgs false
set_option linter.unusedSectionVars false
set_option linter.unusedVariables false

structure Fr where
  w0 : World
  I0 : Rg
  J : Rg
  β0 : Bt
  σ0 : Sg

/-- the blocks of the boxes that came in -/
def Fr.mine (F : Fr) (blk : Nat) : Prop := ∃ k o, liveB (F.σ0 k) ∧ F.β0 k = some (blk, o)

structure Inv (F : Fr) (I : Rg) (β : Bt) (σ : Sg) (w : World) : Prop where
  good : Good I F.J β σ w
  ext : Ext F.J F.I0 F.β0 F.σ0 F.w0 I β σ w
  size : F.w0.heap.size ≤ w.heap.size
  keep : ∀ blk, blk < F.w0.heap.size → ¬ F.mine blk → w.heap[blk]? = F.w0.heap[blk]?
  iNew : ∀ blk i, I blk i → F.I0 blk i ∨ F.w0.heap.size ≤ blk ∨ F.mine blk
  bNew : ∀ b blk o, liveB (σ b) → β b = some (blk, o) → F.w0.heap.size ≤ blk ∨ F.mine blk
  same : Same F.w0 w

/-- Blocks that nobody writes (package-level variables), and what is known of them. -/
class Laid (P : Program) where
  g : Nat → Prop
  L : World → Prop
  keep : ∀ w w' : World, (∀ blk, g blk → w'.heap[blk]? = w.heap[blk]?) → L w → L w'

/-- nothing is known -/
@[reducible] def Laid.none (P : Program) : Laid P where
  g := fun _ => False
  L := fun _ => True
  keep := fun _ _ _ _ => trivial

structure FrOk (P : Program) [Laid P] (F : Fr) : Prop where
  inJ : ∀ blk i, Laid.g P blk → F.J blk i
  out : ∀ blk, Laid.g P blk → blk < F.w0.heap.size ∧ ¬ F.mine blk
  laid : Laid.L P F.w0

theorem Inv.laid {P : Program} [Laid P] {F : Fr} {I : Rg} {β : Bt} {σ : Sg} {w : World} (h : Inv F I β σ w) (hl : FrOk P F) : Laid.L P w :=
  Laid.keep _ _ (fun blk hb => h.keep blk (hl.out blk hb).1 (hl.out blk hb).2) hl.laid

section
variable {F : Fr} {I : Rg} {β : Bt} {σ : Sg} {w w' : World}

theorem Inv.change (h : Inv F I β σ w) {b : Nat} {x' : Box} {bv : Option (Nat × Nat)} {own : Nat → Prop} (hs : WStep own w w')
    (ho : ∀ blk, own blk → liveB (σ b) ∧ ∃ o, β b = some (blk, o))
    (hevo : ∀ x, σ b = some x → Evo β (setB β b bv) b x x')
    (hbv : ∀ blk o, bv = some (blk, o) → w.heap.size ≤ blk ∨ (liveB (σ b) ∧ ∃ o', β b = some (blk, o')))
    (hrb : Ext F.J I β σ w I (setB β b bv) (setF σ b x') w' → RB I F.J (setB β b bv) (setF σ b x') w' b x') :
    Inv F I (setB β b bv) (setF σ b x') w' ∧ Ext F.J I β σ w I (setB β b bv) (setF σ b x') w' := by
  obtain ⟨h1, h2⟩ := h.good.change hs ho hevo hbv hrb
  refine ⟨⟨h1, h.ext.trans h2, Nat.le_trans h.size hs.size, ?_, h.iNew, ?_, h.same.trans hs.same⟩, h2⟩
  · intro blk hb hm
    rw [hs.keep blk (Nat.lt_of_lt_of_le hb h.size) ?_, h.keep blk hb hm]
    intro hown
    obtain ⟨hl, o, hbo⟩ := ho blk hown
    rcases h.bNew b blk o hl hbo with h3 | h3
    · omega
    · exact hm h3
  · intro c blk o hl hc
    by_cases e : c = b
    · subst e
      simp at hc
      rcases hbv blk o hc with h3 | ⟨h3, o', h4⟩
      · exact .inl (Nat.le_trans h.size h3)
      · exact h.bNew c blk o' h3 h4
    · rw [setF_ne _ _ e] at hl
      rw [setB_ne _ _ e] at hc
      exact h.bNew c blk o hl hc

theorem Inv.step (h : Inv F I β σ w) (hs : WStep (fun _ => False) w w') : Inv F I β σ w' ∧ Ext F.J I β σ w I β σ w' := by
  obtain ⟨h1, h2⟩ := h.good.step hs
  refine ⟨⟨h1, h.ext.trans h2, Nat.le_trans h.size hs.size, ?_, h.iNew, h.bNew, h.same.trans hs.same⟩, h2⟩
  intro blk hb hm
  rw [hs.keep blk (Nat.lt_of_lt_of_le hb h.size) (fun h => h), h.keep blk hb hm]

theorem Inv.freeze (h : Inv F I β σ w) {b ver : Nat} {t : Tc} {xs : List t.den} (hb : σ b = some (.row ver t xs)) :
    Inv F (fun blk i => I blk i ∨ rowRg β b (xs.length * t.sz) blk i) β (setF σ b .gone) w ∧
    Ext F.J I β σ w (fun blk i => I blk i ∨ rowRg β b (xs.length * t.sz) blk i) β (setF σ b .gone) w := by
  obtain ⟨h1, h2⟩ := h.good.freeze hb
  have hlb : liveB (σ b) := by rw [hb]; trivial
  refine ⟨⟨h1, h.ext.trans h2, h.size, h.keep, ?_, ?_, h.same⟩, h2⟩
  · rintro blk i (hi | ⟨o, h3, _⟩)
    · exact h.iNew blk i hi
    · exact .inr (h.bNew b blk o hlb h3)
  · intro c blk o hl hc
    by_cases e : c = b
    · subst e; simp at hl; exact hl.elim
    · rw [setF_ne _ _ e] at hl; exact h.bNew c blk o hl hc

/-- A slice of a box that is frozen, as a slice that nobody writes. -/
theorem frozen_slice (h : Good I F.J β σ w) {b ver : Nat} {t : Tc} {xs : List t.den} (hb : σ b = some (.row ver t xs)) {rng : Option (Nat × Nat)} {u : Value}
    (hu : RL I F.J β σ w (.slice b ver rng) u) :
    RL (fun blk i => I blk i ∨ rowRg β b (xs.length * t.sz) blk i) F.J β (setF σ b .gone) w (.list false t (view rng xs)) u := by
  obtain ⟨x, hx, hs⟩ := hu
  rw [hb] at hx; injection hx with hx; subst hx
  have hs := hs.2 rfl
  have hE := (h.freeze hb).2
  have hrow : ∀ {blk o : Nat}, β b = some (blk, o) → RowAt (both (fun blk i => I blk i ∨ rowRg β b (xs.length * t.sz) blk i) F.J false) t.sz
      (RD (fun blk i => I blk i ∨ rowRg β b (xs.length * t.sz) blk i) w t) w xs ⟨blk, o, none⟩ := by
    intro blk o hbo
    have := h.rowAt hb hbo (K := both (fun blk i => I blk i ∨ rowRg β b (xs.length * t.sz) blk i) F.J false) (fun i h1 h2 => .inl (.inr ⟨o, hbo, h1, h2⟩))
    exact this.mono (fun _ _ h => h) (fun _ _ _ _ h => h) (fun x vs => hE.rd)
  cases rng with
  | none =>
    obtain ⟨A, c, rfl, hk⟩ := hs
    rcases hk with ⟨hk, hc⟩ | ⟨blk, o, hbo, hA, hl, _⟩
    · exact ⟨A, c, rfl, by simp [view, hk], .inl hk⟩
    · exact ⟨A, c, rfl, hl, .inr ⟨⟨blk, o, none⟩, hA, rfl, hrow hbo⟩⟩
  | some p =>
    obtain ⟨off, n⟩ := p
    obtain ⟨A, c, rfl, hl, hk⟩ := hs
    rcases hk with hk | ⟨blk, o, hbo, hA⟩
    · exact ⟨A, c, rfl, hl, .inl hk⟩
    · exact ⟨A, c, rfl, hl, .inr ⟨⟨blk, o + off * t.sz, none⟩, hA, rfl, (hrow hbo).view off n⟩⟩
end

/-! ### types -/
def DsOk (d : TypeDesc) : Ds → Prop
  | .int k => d = .int k
  | .bool => d = .bool
  | .str => d = .string
  | .slice e => d = .slice e
  | .arr n e => d = .array n e
  | .struct fs => ∃ fields, d = .struct fields ∧ fields.toList.map (fun f => (f.offset, f.type)) = fs
  | .ptr e => d = .pointer e
  | .other => True

structure TyOk (P : Program) (t : TypeId) (i : TyI) : Prop where
  info : ∃ inf z, P.info? t = some inf ∧ inf.size = i.sz ∧ inf.bytes = i.by_ ∧ inf.zero = some z ∧ z.cells.toList = i.zero
  desc : ∃ d, P.underlying t = some d ∧ DsOk d i.ds ∧ (i.ag = true ↔ (match d with | .struct _ | .array _ _ => true | _ => false) = true)
  flds : ∀ fields, P.underlying t = some (.struct fields) → ∀ f ∈ fields.toList, (P.info? f.type).isSome = true
  zero : ∀ I w, RD I w i.tc i.tc.dflt i.zero
  size : i.tc.sz = i.sz
  /-- '==' of records whose cells are numbers, bools, strings -/
  eql : i.cmp = true → ∀ (w : World) (us vs : List Value) (e : Bool), eqVs i.zero us vs = some e →
    (∀ x y, (eqGuard .eql t x y (.agg us.toArray) (.agg vs.toArray)).run P w = .ok () w ∧ (eqGuard .neq t x y (.agg us.toArray) (.agg vs.toArray)).run P w = .ok () w) ∧
    (Op.equal t (.agg us.toArray) (.agg vs.toArray)).run P w = .ok e w

def TysOk (P : Program) (ty : Nat → Option TyI) : Prop := ∀ t i, ty t = some i → TyOk P t i

section
variable {P : Program} {t : TypeId} {i : TyI} (h : TyOk P t i)
include h

theorem TyOk.run_size (w : World) : (sizeOf t).run P w = .ok i.sz w := by
  obtain ⟨inf, z, h1, h2, _⟩ := h.info
  simp [sizeOf, run_typeInfo _ h1, h2]

theorem TyOk.run_zero (w : World) : ∃ z, (zeroValue t).run P w = .ok z w ∧ z.cells.toList = i.zero := by
  obtain ⟨inf, z, h1, _, _, h4, h5⟩ := h.info
  exact ⟨z, by simp [zeroValue, run_typeInfo _ h1, h4], h5⟩

theorem TyOk.run_isAgg (w : World) : (isAgg t).run P w = .ok i.ag w := by
  obtain ⟨d, h1, _, h3⟩ := h.desc
  cases d <;> cases hag : i.ag <;> simp_all [isAgg, run_underlying]
end

end Go.Abs
