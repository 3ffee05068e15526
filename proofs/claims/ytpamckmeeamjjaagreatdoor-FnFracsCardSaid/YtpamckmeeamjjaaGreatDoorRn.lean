/- Boxes under other numbers: what a value stands for stays. -/
import Derived.Test.YtpamckmeeamjjaaGreatDoorOps
namespace Go.Abs
set_option linter.unusedSectionVars false
set_option linter.unusedVariables false
set_option linter.unusedSimpArgs false

structure RenOk (ρ : Ren) (β : Bt) (σ : Sg) (β' : Bt) (σ' : Sg) : Prop where
  map : ∀ b b' x, ρ.f b = some b' → σ b = some x → ∃ x', renB ρ b x = some x' ∧ σ' b' = some x' ∧ β' b' = β b
  ver : ∀ b b' v v1 v2 cur t xs, ρ.f b = some b' → σ b = some (.row cur t xs) → ρ.vf b v = some v1 → ρ.vf b cur = some v2 → v ≤ cur → v1 ≤ v2 ∧ (v1 = v2 → v = cur)

section
variable {I J : Rg} {β β' : Bt} {σ σ' : Sg} {w : World} {ρ : Ren}

theorem RenOk.refAt (h : RenOk ρ β σ β' σ') {b b' ver v' i base d : Nat} {u : Value} {x : Box} (hf : ρ.f b = some b') (hv : ρ.vf b ver = some v') (hx : σ b = some x)
    (hr : RefAt β b ver i base d u x) : ∃ x', σ' b' = some x' ∧ RefAt β' b' v' i base d u x' := by
  obtain ⟨x', h1, h2, h3⟩ := h.map b b' x hf hx
  refine ⟨x', h2, ?_⟩
  cases x with
  | var T cells =>
    simp only [renB, Option.some.injEq] at h1
    subst h1
    obtain ⟨blk, h4, h5⟩ := hr
    exact ⟨blk, by rw [h3, h4], h5⟩
  | row cur t xs =>
    simp only [renB] at h1
    split at h1
    · rename_i v2 hv2
      simp only [Option.some.injEq] at h1
      subst h1
      obtain ⟨h4, h5⟩ := h.ver b b' ver v' v2 cur t xs hf hx hv hv2 hr.1
      refine ⟨h4, fun e => ?_⟩
      obtain ⟨h6, blk, o, h7, h8⟩ := hr.2 (h5 e)
      exact ⟨h6, blk, o, by rw [h3, h7], h8⟩
    · cases h1
  | gone =>
    simp only [renB, Option.some.injEq] at h1
    subst h1
    trivial

theorem RenOk.sliceAt (h : RenOk ρ β σ β' σ') {b b' ver v' : Nat} {rng : Option (Nat × Nat)} {u : Value} {x : Box} (hf : ρ.f b = some b') (hv : ρ.vf b ver = some v') (hx : σ b = some x)
    (hr : SliceAt β w b ver rng u x) : ∃ x', σ' b' = some x' ∧ SliceAt β' w b' v' rng u x' := by
  obtain ⟨x', h1, h2, h3⟩ := h.map b b' x hf hx
  refine ⟨x', h2, ?_⟩
  cases x with
  | var T cells =>
    simp only [renB, Option.some.injEq] at h1
    subst h1
    trivial
  | row cur t xs =>
    simp only [renB] at h1
    split at h1
    · rename_i v2 hv2
      simp only [Option.some.injEq] at h1
      subst h1
      obtain ⟨h4, h5⟩ := h.ver b b' ver v' v2 cur t xs hf hx hv hv2 hr.1
      refine ⟨h4, fun e => ?_⟩
      have h6 := hr.2 (h5 e)
      cases rng with
      | none => simp only [h3]; exact h6
      | some p => simp only [h3]; exact h6
    · cases h1
  | gone =>
    simp only [renB, Option.some.injEq] at h1
    subst h1
    trivial

theorem RenOk.caps (h : RenOk ρ β σ β' σ') : ∀ {caps c : List Nat} {vs : List Value}, mapCaps ρ caps = some c → CapsAt β σ caps vs → CapsAt β' σ' c vs
  | [], c, vs, hm, hc => by simp only [mapCaps, Option.some.injEq] at hm; subst hm; exact hc
  | b :: r, c, vs, hm, hc => by
    obtain ⟨v, rest, rfl, ⟨x, hx, h1⟩, h2⟩ := hc
    simp only [mapCaps] at hm
    split at hm
    · rename_i b' r' hf hv hr
      simp only [Option.some.injEq] at hm
      subst hm
      exact ⟨v, rest, rfl, h.refAt hf hv hx h1, h.caps hr h2⟩
    · cases hm

theorem RenOk.rl (h : RenOk ρ β σ β' σ') {l : Lf} {u : Value} (hl : RL I J β σ w l u) : RL I J β' σ' w (renL ρ l) u := by
  cases l with
  | sc v => exact hl
  | list bor t xs => exact hl
  | slice b ver rng =>
    obtain ⟨x, hx, h1⟩ := hl
    simp only [renL]
    split
    · rename_i hf hv
      exact h.sliceAt hf hv hx h1
    · trivial
  | ref b ver i base len d =>
    obtain ⟨ho, x, hx, h1⟩ := hl
    simp only [renL]
    split
    · rename_i hf hv
      exact ⟨ho, h.refAt hf hv hx h1⟩
    · trivial
  | eref bor t xs i base len d => exact hl
  | arr b ver i base n hi =>
    obtain ⟨ho, x, hx, A, h1, hu⟩ := hl
    simp only [renL]
    split
    · rename_i hf hv
      obtain ⟨x', hx', hr⟩ := h.refAt hf hv hx h1
      exact ⟨ho, x', hx', A, hr, hu⟩
    · trivial
  | clos f caps =>
    obtain ⟨vs, h1, h2⟩ := hl
    simp only [renL]
    split
    · rename_i c hc
      exact ⟨vs, h1, h.caps hc h2⟩
    · trivial
  | ub p => exact hl
  | dead => trivial

theorem RenOk.rls (h : RenOk ρ β σ β' σ') : ∀ {ls : List Lf} {vs : List Value}, RLs I J β σ w ls vs → RLs I J β' σ' w (renLs ρ ls) vs
  | [], _, hl => hl
  | l :: r, vs, hl => by
    obtain ⟨v, rest, h1, h2, h3⟩ := hl
    exact ⟨v, rest, h1, h.rl h2, h.rls h3⟩

theorem RenOk.rp (h : RenOk ρ β σ β' σ') {ag : Bool} {ls : List Lf} {u : Value} (hp : RP I J β σ w (ag, ls) u) : RP I J β' σ' w (ag, renLs ρ ls) u := by
  cases ag with
  | true =>
    obtain ⟨vs, h1, h2⟩ := hp
    exact ⟨vs, h1, h.rls h2⟩
  | false =>
    match ls, hp with
    | [], _ => trivial
    | [l], hp => exact h.rl hp
    | _ :: _ :: _, _ => trivial

theorem RenOk.rt (h : RenOk ρ β σ β' σ') : ∀ {xs : List (Bool × List Lf)} {vs : List Value}, RT I J β σ w xs vs → RT I J β' σ' w (renT ρ xs) vs
  | [], _, hl => hl
  | (ag, l) :: r, vs, hl => by
    obtain ⟨v, rest, h1, h2, h3⟩ := hl
    exact ⟨v, rest, h1, h.rp h2, h.rt h3⟩

theorem RenOk.rv (h : RenOk ρ β σ β' σ') {p : PV} {u : Value} (hp : RV I J β σ w p u) : RV I J β' σ' w (renV ρ p) u := by
  cases p with
  | one l => exact h.rl hp
  | agg ls => obtain ⟨vs, h1, h2⟩ := hp; exact ⟨vs, h1, h.rls h2⟩
  | tup xs => obtain ⟨vs, h1, h2⟩ := hp; exact ⟨vs, h1, h.rt h2⟩

theorem RenOk.rvs (h : RenOk ρ β σ β' σ') : ∀ {ps : List PV} {vs : List Value}, RVs I J β σ w ps vs → RVs I J β' σ' w (ps.map (renV ρ)) vs
  | [], _, hl => hl
  | p :: r, vs, hl => by
    obtain ⟨v, rest, h1, h2, h3⟩ := hl
    exact ⟨v, rest, h1, h.rv h2, h.rvs h3⟩

theorem RenOk.rb (h : RenOk ρ β σ β' σ') {b b' : Nat} {x x' : Box} (hf : ρ.f b = some b') (hx : σ b = some x) (hr : renB ρ b x = some x') (hb : RB I J β σ w b x) : RB I J β' σ' w b' x' := by
  obtain ⟨x'', h1, h2, h3⟩ := h.map b b' x hf hx
  rw [hr] at h1
  injection h1 with h1
  subst h1
  cases x with
  | var T cells =>
    simp only [renB, Option.some.injEq] at hr
    subst hr
    obtain ⟨blk, vs, h4, h5, h6⟩ := hb
    exact ⟨blk, vs, by rw [h3, h4], h5, h.rls h6⟩
  | row cur t xs =>
    simp only [renB] at hr
    split at hr
    · simp only [Option.some.injEq] at hr
      subst hr
      simp only [RB, h3]
      exact hb
    · cases hr
  | gone =>
    simp only [renB, Option.some.injEq] at hr
    subst hr
    trivial

theorem live_ren {b : Nat} {x x' : Box} (hr : renB ρ b x = some x') : liveB (some x') ↔ liveB (some x) := by
  cases x with
  | var T cells => simp only [renB, Option.some.injEq] at hr; subst hr; simp [liveB]
  | row cur t xs =>
    simp only [renB] at hr
    split at hr
    · simp only [Option.some.injEq] at hr; subst hr; simp [liveB]
    · cases hr
  | gone => simp only [renB, Option.some.injEq] at hr; subst hr; simp [liveB]
end

/-! ### numbers from 0 on -/
theorem addId_nodup {b : Nat} {ids : List Nat} (h : ids.Nodup) : (addId b ids).Nodup := by
  unfold addId
  cases hm : mem b ids with
  | true => simpa
  | false =>
    simp only [cond_false]
    rw [List.nodup_append]
    refine ⟨h, by simp, ?_⟩
    intro a ha c hc e
    simp at hc
    subst e; subst hc
    rw [mem_iff.2 ha] at hm
    cases hm

theorem addIds_nodup : ∀ {l ids : List Nat}, ids.Nodup → (addIds l ids).Nodup
  | [], _, h => h
  | b :: r, ids, h => addIds_nodup (l := r) (addId_nodup h)

theorem reach_nodup {get : Nat → Option Box} {ids : List Nat} (h : ids.Nodup) : (reach get ids).Nodup := addIds_nodup h

theorem liveIds_sub {m : Nat} {get : Nat → Option Box} : ∀ {l : List Nat}, (liveIds m get l).Sublist l
  | [] => .slnil
  | b :: r => by
    simp only [liveIds]
    cases Nat.blt b m || isLive (get b) with
    | true => exact (liveIds_sub (l := r)).cons_cons b
    | false => exact (liveIds_sub (l := r)).cons b

theorem idx_some {b : Nat} : ∀ {l : List Nat} {k : Nat}, idx b l = some k → l[k]? = some b
  | [], k, h => by simp [idx] at h
  | c :: r, k, h => by
    simp only [idx] at h
    cases hb : Nat.beq b c with
    | true =>
      simp only [hb, cond_true, Option.some.injEq] at h
      subst h
      simp [Nat.eq_of_beq_eq_true hb]
    | false =>
      simp only [hb, cond_false] at h
      cases hi : idx b r with
      | none => simp [hi] at h
      | some j =>
        simp only [hi, Option.some.injEq] at h
        subst h
        simpa using idx_some hi

theorem nodup_inj : ∀ {l : List Nat}, l.Nodup → ∀ {i j b : Nat}, l[i]? = some b → l[j]? = some b → i = j
  | [], _, i, j, b, hi, _ => by simp at hi
  | c :: r, h, i, j, b, hi, hj => by
    rw [List.nodup_cons] at h
    cases i with
    | zero =>
      cases j with
      | zero => rfl
      | succ j =>
        simp only [List.getElem?_cons_zero, List.getElem?_cons_succ, Option.some.injEq] at hi hj
        subst hi
        exact absurd (List.mem_of_getElem? hj) h.1
    | succ i =>
      cases j with
      | zero =>
        simp only [List.getElem?_cons_zero, List.getElem?_cons_succ, Option.some.injEq] at hi hj
        subst hj
        exact absurd (List.mem_of_getElem? hi) h.1
      | succ j =>
        simp only [List.getElem?_cons_succ] at hi hj
        rw [nodup_inj h.2 hi hj]

theorem localBoxes_at {get : Nat → Option Box} {ρ : Ren} : ∀ {ids : List Nat} {l : List Box}, localBoxes get ρ ids = some l → l.length = ids.length ∧ ∀ (k b : Nat), ids[k]? = some b → ∃ x y, get b = some x ∧ renB ρ b x = some y ∧ l[k]? = some y
  | [], l, h => by
    simp only [localBoxes, Option.some.injEq] at h
    subst h
    exact ⟨rfl, fun k b h => by simp at h⟩
  | c :: r, l, h => by
    simp only [localBoxes] at h
    split at h
    · rename_i x hx
      split at h
      · rename_i y l' hy hl
        simp only [Option.some.injEq] at h
        subst h
        obtain ⟨h1, h2⟩ := localBoxes_at hl
        refine ⟨by simp [h1], fun k b hk => ?_⟩
        cases k with
        | zero =>
          simp only [List.getElem?_cons_zero, Option.some.injEq] at hk
          subst hk
          exact ⟨x, y, hx, hy, rfl⟩
        | succ k =>
          simp only [List.getElem?_cons_succ] at hk ⊢
          exact h2 k b hk
      · cases h
    · cases h

def listF (l : List Box) : Sg := fun k => l[k]?

/-- the blocks of the boxes under their new numbers -/
def atIds (β : Bt) (ids : List Nat) : Bt := fun k => (ids[k]?).bind β

theorem canon_ver {m : Nat} {ids : List Nat} {get : Sg} {σ : Sg} (hg : ∀ b ∈ ids, σ b = get b) {b b' v v1 v2 cur : Nat} {t : Tc} {xs : List t.den} (hb : (canonRen m ids get).f b = some b')
    (hx : σ b = some (.row cur t xs)) (h1 : (canonRen m ids get).vf b v = some v1) (h2 : (canonRen m ids get).vf b cur = some v2) (hle : v ≤ cur) : v1 ≤ v2 ∧ (v1 = v2 → v = cur) := by
  have hgb := hg b (List.mem_of_getElem? (idx_some hb))
  simp only [canonRen] at h1 h2
  cases hm : Nat.blt b m with
  | true =>
    simp only [hm, cond_true, Option.some.injEq] at h1 h2
    omega
  | false =>
    simp only [hm, cond_false] at h1 h2
    rw [hx] at hgb
    rw [← hgb] at h1 h2
    simp only [Nat.beq_refl, cond_true, Option.some.injEq] at h2
    cases hc : Nat.beq v cur with
    | true =>
      simp only [hc, cond_true, Option.some.injEq] at h1
      exact ⟨by omega, fun _ => Nat.eq_of_beq_eq_true hc⟩
    | false => simp [hc] at h1

theorem down_ren {m : Nat} {get : Sg} {ids : List Nat} {β : Bt} {σ : Sg} {l : List Box} (hg : ∀ b ∈ ids, σ b = get b)
    (hl : localBoxes get (canonRen m ids get) ids = some l) : RenOk (canonRen m ids get) β σ (atIds β ids) (listF l) := by
  refine ⟨?_, fun b b' v v1 v2 cur t xs hf hx h1 h2 hle => canon_ver hg hf hx h1 h2 hle⟩
  intro b b' x hf hx
  have hi := idx_some hf
  obtain ⟨y, z, h1, h2, h3⟩ := (localBoxes_at hl).2 b' b hi
  have hb := hg b (List.mem_of_getElem? hi)
  rw [hx, h1] at hb
  injection hb with hb
  subst hb
  exact ⟨z, h2, h3, by simp [atIds, hi]⟩

/-- the boxes of `ids` alone, under their new numbers -/
theorem down_good {I J : Rg} {w : World} {m : Nat} {get : Sg} {ids : List Nat} {β : Bt} {σ : Sg} {l : List Box} (hG : Good I J β σ w) (hn : ids.Nodup) (hg : ∀ b ∈ ids, σ b = get b)
    (hl : localBoxes get (canonRen m ids get) ids = some l) : Good I J (atIds β ids) (listF l) w := by
  have hR := down_ren (m := m) (β := β) hg hl
  have hat : ∀ (k : Nat) (y : Box), listF l k = some y → ∃ b x, ids[k]? = some b ∧ σ b = some x ∧ renB (canonRen m ids get) b x = some y ∧ atIds β ids k = β b := by
    intro k y hy
    obtain ⟨h1, h2⟩ := localBoxes_at hl
    have hk : k < ids.length := by
      have := (List.getElem?_eq_some_iff.1 hy).1
      omega
    have hid : ids[k]? = some ids[k] := by simp [hk]
    obtain ⟨x, z, h3, h4, h5⟩ := h2 k _ hid
    have : listF l k = some z := h5
    rw [hy] at this
    injection this with this
    subst this
    exact ⟨ids[k], x, hid, by rw [hg _ (List.mem_of_getElem? hid), h3], h4, by simp [atIds, hid]⟩
  have hlive : ∀ k, liveB (listF l k) → ∃ b, ids[k]? = some b ∧ liveB (σ b) ∧ atIds β ids k = β b := by
    intro k hk
    obtain ⟨y, hy⟩ := liveB_some hk
    obtain ⟨b, x, h1, h2, h3, h4⟩ := hat k y hy
    exact ⟨b, h1, by rw [h2]; exact (live_ren h3).1 (hy ▸ hk), h4⟩
  refine ⟨?_, ?_, ?_, hG.bnd⟩
  · intro k y hy
    obtain ⟨b, x, h1, h2, h3, h4⟩ := hat k y hy
    have hx := hG.box b x h2
    cases x with
    | var T cells =>
      simp only [renB, Option.some.injEq] at h3
      subst h3
      obtain ⟨blk, vs, h5, h6, h7⟩ := hx
      exact ⟨blk, vs, by rw [h4, h5], h6, hR.rls h7⟩
    | row cur t xs =>
      simp only [renB] at h3
      split at h3
      · simp only [Option.some.injEq] at h3
        subst h3
        simp only [RB, h4]
        exact hx
      · cases h3
    | gone =>
      simp only [renB, Option.some.injEq] at h3
      subst h3
      trivial
  · intro k k' blk o o' hk hk' hb hb'
    obtain ⟨b, h1, h2, h3⟩ := hlive k hk
    obtain ⟨b', h1', h2', h3'⟩ := hlive k' hk'
    rw [h3] at hb
    rw [h3'] at hb'
    have := hG.inj b b' blk o o' h2 h2' hb hb'
    subst this
    exact nodup_inj hn h1 h1'
  · intro k blk o i hk hb
    obtain ⟨b, h1, h2, h3⟩ := hlive k hk
    rw [h3] at hb
    exact hG.sep b blk o i h2 hb
end Go.Abs
