/- A function's body: what runBody says is what a call does. -/
import Derived.Test.YtpamckmeeamjjaaGreatDoorFin
namespace Go.Abs
set_option linter.unusedSectionVars false
set_option linter.unusedVariables false
set_option linter.unusedSimpArgs false

theorem paramBoxes_at {get : Sg} : ∀ {m : Nat} {ps : List Box}, paramBoxes get m = some ps → ps.length = m ∧ ∀ b, b < m → ps[b]? = get b
  | 0, ps, h => by simp only [paramBoxes, Option.some.injEq] at h; subst h; exact ⟨rfl, fun b hb => by omega⟩
  | m + 1, ps, h => by
    simp only [paramBoxes] at h
    split at h
    · rename_i l x hl hx
      simp only [Option.some.injEq] at h
      subst h
      obtain ⟨h1, h2⟩ := paramBoxes_at hl
      refine ⟨by simp [h1], fun b hb => ?_⟩
      by_cases e : b = m
      · subst e
        rw [List.getElem?_append_right (by omega), h1, hx]
        simp
      · rw [List.getElem?_append_left (by omega)]
        exact h2 b (by omega)
    · cases h

/-- how a decoded box's value stands to the box -/
theorem decBox_spec {s : Bs} {z : Box} {y : s.den} (h : decBox s z = some y) :
    (∃ T t ls x, z = .var T ls ∧ boxOf s y = .var T (fl true t x) ∧ unfl true t ls = some (x, [])) ∨ (∃ t xs, z = .row 0 t xs ∧ boxOf s y = .row 0 t xs) ∨
    (∃ T k, z = .var T [.ref k 0 0 0 0 0] ∧ boxOf s y = .var T [.ref k 0 0 0 0 0] ∧ s = .pv T k) := by
  cases s with
  | var T t =>
    cases z with
    | var T' ls =>
      simp only [decBox] at h
      split at h
      · rename_i e
        subst e
        split at h
        · rename_i x hu
          simp only [Option.some.injEq] at h
          subst h
          exact .inl ⟨T, t, ls, x, rfl, rfl, hu⟩
        · cases h
      · cases h
    | row v t' xs => simp [decBox] at h
    | gone => simp [decBox] at h
  | row t =>
    cases z with
    | row v t' xs =>
      cases v with
      | zero =>
        simp only [decBox] at h
        obtain ⟨e, hy⟩ := castL_some h
        subst e
        simp only at hy
        subst hy
        exact .inr (.inl ⟨_, _, rfl, rfl⟩)
      | succ v => simp [decBox] at h
    | var T' ls => simp [decBox] at h
    | gone => simp [decBox] at h
  | pv T k =>
    simp only [decBox] at h
    cases hp : isPv T k z with
    | false => rw [hp] at h; cases h
    | true =>
      unfold isPv at hp
      split at hp
      · simp only [Bool.and_eq_true] at hp
        have e1 := Nat.eq_of_beq_eq_true hp.1
        have e2 := Nat.eq_of_beq_eq_true hp.2
        subst e1
        subst e2
        exact .inr (.inr ⟨_, _, rfl, rfl, rfl⟩)
      · cases hp

theorem decBox_var {T : Nat} {t : Tc} {z : Box} {y : (Bs.var T t).den} (h : decBox (.var T t) z = some y) : (∃ ls, z = .var T ls) ∧ boxOf (.var T t) y = .var T (fl true t y) := by
  refine ⟨?_, rfl⟩
  rcases decBox_spec h with ⟨T1, t1, ls, x, h1, h2, _⟩ | ⟨t1, xs, h1, h2⟩ | ⟨T1, k1, h1, h2, h3⟩
  · simp only [boxOf, Box.var.injEq] at h2
    exact ⟨ls, by rw [h1, h2.1]⟩
  · cases h2
  · cases h3

theorem boxesOf_len : ∀ {l : List (Bs × Bool)} {y : bsDen l}, (boxesOf l y).length = l.length
  | [], _ => rfl
  | s :: r, y => by simp [boxesOf, boxesOf_len (l := r)]

theorem decBoxes0_at : ∀ {l : List (Bs × Bool)} {zs : List Box} {y : bsDen l}, decBoxes0 l zs = some y → zs.length = l.length ∧
    ∀ (k : Nat) (z : Box), zs[k]? = some z → ∃ s y0, l[k]? = some s ∧ decBox s.1 z = some y0 ∧ (boxesOf l y)[k]? = some (boxOf s.1 y0)
  | [], [], y, _ => ⟨rfl, fun k z h => by simp at h⟩
  | [], _ :: _, _, h => by simp [decBoxes0] at h
  | _ :: _, [], _, h => by simp [decBoxes0] at h
  | s :: r, z :: q, y, h => by
    simp only [decBoxes0] at h
    cases h1 : decBox s.1 z with
    | none => simp [h1] at h
    | some a =>
      simp only [h1] at h
      cases h2 : decBoxes0 r q with
      | none => simp [h2] at h
      | some b =>
        simp only [h2, Option.some.injEq] at h
        subst h
        obtain ⟨h3, h4⟩ := decBoxes0_at h2
        refine ⟨by simp [h3], fun k x hk => ?_⟩
        cases k with
        | zero =>
          simp only [List.getElem?_cons_zero, Option.some.injEq] at hk
          subst hk
          exact ⟨s, a, rfl, h1, rfl⟩
        | succ k =>
          simp only [List.getElem?_cons_succ] at hk ⊢
          exact h4 k x hk

theorem decBoxes_some {l : List (Bs × Bool)} {zs : List Box} {y : bsDen l} (h : decBoxes l zs = some y) : pvsOk l l = true ∧ decBoxes0 l zs = some y := by
  unfold decBoxes at h
  cases hp : pvsOk l l with
  | false => rw [hp] at h; cases h
  | true => rw [hp] at h; exact ⟨rfl, h⟩

theorem decBoxes_at {l : List (Bs × Bool)} {zs : List Box} {y : bsDen l} (h : decBoxes l zs = some y) : zs.length = l.length ∧
    ∀ (k : Nat) (z : Box), zs[k]? = some z → ∃ s y0, l[k]? = some s ∧ decBox s.1 z = some y0 ∧ (boxesOf l y)[k]? = some (boxOf s.1 y0) := decBoxes0_at (decBoxes_some h).2

theorem pvs_at {all : List (Bs × Bool)} : ∀ {l : List (Bs × Bool)}, pvsOk all l = true → ∀ {T k : Nat} {m : Bool}, (Bs.pv T k, m) ∈ l → ∃ T' t m', all[k]? = some (.var T' t, m')
  | [], _, _, _, _, h => by simp at h
  | (.pv T0 k0, m0) :: r, hp, T, k, m, h => by
    simp only [pvsOk, Bool.and_eq_true] at hp
    rcases List.mem_cons.1 h with h | h
    · cases h
      have h1 := hp.1
      rw [nth_eq] at h1
      cases ha : all[k0]? with
      | none => rw [ha] at h1; cases h1
      | some q =>
        rw [ha] at h1
        obtain ⟨b, m'⟩ := q
        cases b with
        | var T' t => exact ⟨T', t, m', rfl⟩
        | row t => cases h1
        | pv _ _ => cases h1
    · exact pvs_at hp.2 h
  | (.var T0 t0, m0) :: r, hp, T, k, m, h => by
    rcases List.mem_cons.1 h with h | h
    · cases h
    · exact pvs_at (l := r) hp h
  | (.row t0, m0) :: r, hp, T, k, m, h => by
    rcases List.mem_cons.1 h with h | h
    · cases h
    · exact pvs_at (l := r) hp h

theorem prj_ins : ∀ {l : List (Bs × Bool)} {x : bsDen l} {y : mutDen l}, boxesOf l (insM l x y) = mutOf l x y
  | [], _, _ => rfl
  | (_, true) :: r, x, y => by simp only [boxesOf, mutOf, insM]; rw [prj_ins]
  | (_, false) :: r, x, y => by simp only [boxesOf, mutOf, insM]; rw [prj_ins]

/-- the blocks of the boxes that go out -/
def outB (β : Bt) (m : Nat) (own : List (Option Nat)) : Bt := fun k => if k < m then β k else ownB β own (k - m)

section
variable {I J : Rg} {β : Bt} {σ : Sg} {w : World} {sp : List (Bs × Bool)} {ys : bsDen sp} {ps bs : List Box} {own : List (Option Nat)}

theorem out_high : ∀ (j : Nat) (y : Box), bs[j]? = some y → listF (boxesOf sp ys ++ bs) (sp.length + j) = some y ∧ outB β sp.length own (sp.length + j) = ownB β own j := by
  intro j y hy
  refine ⟨?_, ?_⟩
  · unfold listF
    rw [List.getElem?_append_right (by rw [boxesOf_len]; omega), boxesOf_len, Nat.add_sub_cancel_left]
    exact hy
  · unfold outB
    rw [if_neg (by omega), Nat.add_sub_cancel_left]

/-- a box that goes out, and where it came from -/
theorem out_from (hps : ∀ b, b < sp.length → ps[b]? = σ b) (hp : ps.length = sp.length) (hd : decBoxes sp ps = some ys) (hob : OutBoxes sp.length σ bs own) {k : Nat} {y : Box} (hy : listF (boxesOf sp ys ++ bs) k = some y) :
    (k < sp.length ∧ (∃ x s y0, σ k = some x ∧ decBox s x = some y0 ∧ y = boxOf s y0 ∧ ∃ m, sp[k]? = some (s, m)) ∧ outB β sp.length own k = β k) ∨
    (sp.length ≤ k ∧ ∃ o, own[k - sp.length]? = some o ∧ OutBox sp.length σ y o ∧ outB β sp.length own k = o.bind β) := by
  rcases Nat.lt_or_ge k sp.length with h | h
  · have hk : k < ps.length := by omega
    have hx : ps[k]? = some ps[k] := by simp [hk]
    obtain ⟨s, y0, h1, h2, h3⟩ := (decBoxes_at hd).2 k _ hx
    unfold listF at hy
    rw [List.getElem?_append_left (by rw [boxesOf_len]; omega), h3] at hy
    injection hy with hy
    exact .inl ⟨h, ⟨_, s.1, y0, by rw [← hps k h, hx], h2, hy.symm, s.2, h1⟩, by simp [outB, h]⟩
  · have hy' : bs[k - sp.length]? = some y := by
      unfold listF at hy
      rw [List.getElem?_append_right (by rw [boxesOf_len]; omega), boxesOf_len] at hy
      exact hy
    obtain ⟨o, h1, h2⟩ := hob.at _ _ hy'
    refine .inr ⟨h, o, h1, h2, ?_⟩
    unfold outB ownB
    rw [if_neg (by omega), h1]
    rfl

theorem out_low (hps : ∀ b, b < sp.length → ps[b]? = σ b) (hp : ps.length = sp.length) (hd : decBoxes sp ps = some ys) : Low sp.length β σ (outB β sp.length own) (listF (boxesOf sp ys ++ bs)) := by
  intro b t xs hb hσ
  have hk : b < ps.length := by omega
  have hx : ps[b]? = some ps[b] := by simp [hk]
  obtain ⟨s, y0, h1, h2, h3⟩ := (decBoxes_at hd).2 b _ hx
  have e : ps[b] = .row 0 t xs := by
    have := hps b hb
    rw [hx, hσ] at this
    exact Option.some.inj this
  rw [e] at h2
  refine ⟨?_, by simp [outB, hb]⟩
  unfold listF
  rw [List.getElem?_append_left (by rw [boxesOf_len]; omega), h3]
  rcases decBox_spec h2 with ⟨T, t', ls, v, h4, _⟩ | ⟨t', xs', h4, h5⟩ | ⟨T, k', h4, _, _⟩
  · cases h4
  · show some (boxOf s.1 y0) = _
    rw [h5, ← h4]
  · cases h4

theorem out_live (hps : ∀ b, b < sp.length → ps[b]? = σ b) (hp : ps.length = sp.length) (hd : decBoxes sp ps = some ys) (hob : OutBoxes sp.length σ bs own) {k : Nat}
    (hk : liveB (listF (boxesOf sp ys ++ bs) k)) {q : Nat × Nat} (hb : outB β sp.length own k = some q) :
    ∃ b, liveB (σ b) ∧ β b = some q ∧ ((k < sp.length ∧ b = k) ∨ (sp.length ≤ k ∧ sp.length ≤ b ∧ own[k - sp.length]? = some (some b))) := by
  obtain ⟨y, hy⟩ := liveB_some hk
  rcases out_from (β := β) hps hp hd hob hy with ⟨h1, ⟨x, s, y0, h2, h2', _⟩, h3⟩ | ⟨h1, o, h2, h3, h4⟩
  · refine ⟨k, ?_, by rw [← h3]; exact hb, .inl ⟨h1, rfl⟩⟩
    rw [h2]
    rcases decBox_spec h2' with ⟨T, t, ls, v, rfl, e2, e3⟩ | ⟨t, xs, rfl, e2⟩ | ⟨T, k', rfl, e2, _⟩ <;> trivial
  · rw [h4] at hb
    cases o with
    | none => cases hb
    | some b =>
      obtain ⟨h5, h6⟩ := h3
      refine ⟨b, ?_, hb, .inr ⟨h1, h5, h2⟩⟩
      rcases h6 with ⟨T, c, t, x, h7, _⟩ | ⟨v, t, xs, n, h7, _⟩ <;> rw [h7] <;> trivial

theorem pick_good (hG : Good I J β σ w) (hps : ∀ b, b < sp.length → ps[b]? = σ b) (hp : ps.length = sp.length) (hd : decBoxes sp ps = some ys) (hob : OutBoxes sp.length σ bs own) (hnd : nodup own = true) :
    Good I J (outB β sp.length own) (listF (boxesOf sp ys ++ bs)) w := by
  have hvar : ∀ {T : Nat} {t : Tc} {x : t.den} {c : List Lf} {b k : Nat}, σ b = some (.var T c) → unfl true t c = some (x, []) → outB β sp.length own k = β b →
      RB I J (outB β sp.length own) (listF (boxesOf sp ys ++ bs)) w k (.var T (fl true t x)) := by
    intro T t x c b k h1 h2 h3
    obtain ⟨blk, vs, h7, h8, h9⟩ := hG.box b _ h1
    obtain ⟨v1, v2, rfl, g1, g2⟩ := unfl_rls h2 h9
    simp only [RLs] at g2
    subst g2
    rw [List.append_nil] at h8
    exact ⟨blk, v1, by rw [h3, h7], h8, fl_indep g1⟩
  refine ⟨?_, ?_, ?_, hG.bnd⟩
  · intro k y hy
    rcases out_from (β := β) hps hp hd hob hy with ⟨h1, ⟨x, s, y0, h2, h2', rfl, hsm⟩, h3⟩ | ⟨h1, o, h2, h3, h4⟩
    · rcases decBox_spec h2' with ⟨T, t, ls, v, rfl, e2, e3⟩ | ⟨t, xs, rfl, e2⟩ | ⟨T, k', rfl, e2, es⟩
      · rw [e2]
        exact hvar h2 e3 h3
      · rw [e2]
        have hb := hG.box k _ h2
        simp only [RB, h3] at hb ⊢
        exact hb
      · rw [e2]
        obtain ⟨blk, vs, g1, g2, u, r, rfl, ⟨ho, x0, gx, gr⟩, g4⟩ := hG.box k _ h2
        -- the box that it leads to is a variable
        subst es
        obtain ⟨m, hm⟩ := hsm
        obtain ⟨T', t', m', ha⟩ := pvs_at (decBoxes_some hd).1 (List.mem_of_getElem? hm)
        have hk' : k' < sp.length := (List.getElem?_eq_some_iff.1 ha).1
        have hkp : k' < ps.length := by omega
        have hxk : ps[k']? = some ps[k'] := by simp [hkp]
        obtain ⟨s1, y1, d1, d2, d3⟩ := (decBoxes_at hd).2 k' _ hxk
        rw [ha] at d1
        injection d1 with d1
        subst d1
        obtain ⟨⟨ls, q1⟩, q2⟩ := decBox_var d2
        have hσ : σ k' = some (.var T' ls) := by rw [← hps k' hk', hxk, q1]
        rw [hσ] at gx
        injection gx with gx
        subst gx
        obtain ⟨bk, w1, w2⟩ := gr
        refine ⟨blk, u :: r, by rw [h3, g1], g2, u, r, rfl, ⟨ho, .var T' (fl true t' y1), ?_, bk, ?_, w2⟩, g4⟩
        · unfold listF
          rw [List.getElem?_append_left (by rw [boxesOf_len]; omega), d3]
          rfl
        · unfold outB
          rw [if_pos hk']
          exact w1
    · cases o with
      | none =>
        obtain ⟨t, rfl⟩ := h3
        exact .inl ⟨rfl, h4⟩
      | some b =>
        have h4' : outB β sp.length own k = β b := h4
        obtain ⟨_, ⟨T, c, t, x, h6, h7, rfl⟩ | ⟨v, t, xs, n, h6, rfl⟩⟩ := h3
        · exact hvar h6 h7 h4'
        · have hb := hG.box b _ h6
          simp only [RB, h4'] at hb ⊢
          rcases hb with ⟨q1, q2⟩ | ⟨blk, o, C, E, q1, q2, q3⟩
          · exact .inl ⟨by rw [q1, List.take_nil], q2⟩
          · refine .inr ⟨blk, o, C, E, q1, q2, fun i y hy => q3 i y ?_⟩
            rw [List.getElem?_take] at hy
            split at hy
            · exact hy
            · cases hy
  · intro k k' blk o o' hk hk' hb hb'
    obtain ⟨b, h1, h2, h3⟩ := out_live (β := β) hps hp hd hob hk hb
    obtain ⟨b', h1', h2', h3'⟩ := out_live (β := β) hps hp hd hob hk' hb'
    have := hG.inj b b' blk o o' h1 h1' h2 h2'
    subst this
    rcases h3 with ⟨g1, g2⟩ | ⟨g1, g2, g3⟩ <;> rcases h3' with ⟨g1', g2'⟩ | ⟨g1', g2', g3'⟩
    · omega
    · omega
    · omega
    · have := nodup_spec hnd g3 g3'
      omega
  · intro k blk o i hk hb
    obtain ⟨b, h1, h2, h3⟩ := out_live (β := β) hps hp hd hob hk hb
    exact hG.sep b blk o i h1 h2

theorem tup_rv : ∀ {l : List (Bool × List Lf)} {us : List Value}, RT I J β σ w l us → RV I J β σ w (tupV l) (if h : us.toArray.size = 1 then us.toArray[0] else .tuple us.toArray)
  | [], us, h => by
    simp only [RT] at h
    subst h
    exact ⟨[], rfl, rfl⟩
  | [(ag, ls)], us, h => by
    obtain ⟨u, r, rfl, h1, h2⟩ := h
    simp only [RT] at h2
    subst h2
    simp only [tupV]
    have : (if h : [u].toArray.size = 1 then [u].toArray[0] else Value.tuple [u].toArray) = u := by simp
    rw [this]
    cases ag with
    | true => exact h1
    | false =>
      match ls, h1 with
      | [], _ => exact trivial
      | [x], h1 => exact h1
      | _ :: _ :: _, _ => exact trivial
  | a :: b :: r, us, h => by
    have h' := h
    obtain ⟨u, r1, rfl, h1, v, r2, rfl, h2, h3⟩ := h
    have : (if h : (u :: v :: r2).toArray.size = 1 then (u :: v :: r2).toArray[0] else Value.tuple (u :: v :: r2).toArray) = .tuple (u :: v :: r2).toArray := by simp
    rw [this]
    exact ⟨_, rfl, h'⟩
end

section
variable {P : Program} {F : Fr} {N fuel : Nat} {C : List Fun} {ty : Nat → Option TyI} {kp : Keep}

theorem finish_sound (hty : TysOk P ty) {bs : List (Bs × Bool)} (hF : ∀ b, bs.length ≤ b → F.σ0 b = none) {fn : Func} {rs : List (Bool × List Rp)} {st : St} {x : rsDen rs} {y : bsDen bs} {a : Act} {w : World}
    (h : finish ty bs.length fn.results.toList rs bs st = some (x, y)) (hR : Repr F N st.get st.box a w) :
    ∃ u, (results fn a.tmps).run P w = .ok u w ∧ ∃ I' β', Inv F I' β' (listF (boxesOf bs y ++ (resAll bs.length rs x).2)) w ∧
      RV I' F.J β' (listF (boxesOf bs y ++ (resAll bs.length rs x).2)) w (tupV (resAll bs.length rs x).1) u := by
  obtain ⟨_, _, I, β, hI, hv⟩ := hR
  unfold finish at h
  simp only at h
  have hget : (fun b => look b st.bx) = st.box := rfl
  rw [hget] at h
  split at h
  · rename_i vs hvs
    split at h
    · rename_i vs' gone him
      split at h
      · rename_i xr own ps hret hps
        split at h
        · rename_i yr hdec
          cases hnd : nodup own with
          | false => rw [hnd, cond_false] at h; cases h
          | true =>
            rw [hnd, cond_true] at h
            simp only [Option.some.injEq, Prod.mk.injEq] at h
            obtain ⟨rfl, rfl⟩ := h
            obtain ⟨us, hrun, hrt⟩ := resVars_sound hty hI hv hvs
            obtain ⟨I1, g1, g2, g3⟩ := immAll_sound him hI hrt
            obtain ⟨hob, hout⟩ := retAll_sound (k := bs.length) hret g3
            obtain ⟨hp, hpa⟩ := paramBoxes_at hps
            have hG := pick_good g1.good hpa hp hdec hob hnd
            refine ⟨_, ?_, I1, outB β bs.length own, ?_, tup_rv (hout (outB β bs.length own) _ (out_low hpa hp hdec) out_high)⟩
            · unfold results
              rw [Array.mapM_eq_mapM_toList]
              simp only [Sem.run_bind, Sem.run_map, Sem.run_pure]
              exact congrArg (fun r : Result (List Value) => (r.andThen fun a w' => Result.ok a.toArray w').andThen fun a w' => Result.ok (if h : a.size = 1 then a[0] else Value.tuple a) w') hrun
            · refine ⟨hG, ⟨g1.ext.grow, g1.ext.stays, ?_, g1.ext.cap⟩, g1.size, g1.keep, g1.iNew, ?_, g1.same⟩
              · intro b x hx
                have hb : b < bs.length := by
                  rcases Nat.lt_or_ge b bs.length with h' | h'
                  · exact h'
                  · rw [hF b h'] at hx; cases hx
                obtain ⟨xe, hx', he⟩ := g1.ext.evo b x hx
                have hk : b < ps.length := by omega
                have hpx : ps[b]? = some ps[b] := by simp [hk]
                obtain ⟨s, y0, q1, q2, q3⟩ := (decBoxes_at hdec).2 b _ hpx
                have e1 := hpa b hb
                rw [hpx] at e1
                have e1 : goneGet gone st.box b = some ps[b] := e1.symm
                rw [hx'] at e1
                injection e1 with e1
                have hl : listF (boxesOf bs yr ++ (resAll bs.length rs xr).2) b = some (boxOf s.1 y0) := by
                  unfold listF
                  rw [List.getElem?_append_left (by rw [boxesOf_len]; omega), q3]
                have hbb : outB β bs.length own b = β b := by simp [outB, hb]
                refine ⟨_, hl, ?_⟩
                rw [← e1] at q2
                rcases decBox_spec q2 with ⟨T, t, ls, v, rfl, e2, e3⟩ | ⟨t, xs, rfl, e2⟩ | ⟨T, k', rfl, e2, _⟩
                · rw [e2]
                  cases x <;> simp only [Evo, hbb] at he ⊢ <;> exact he
                · rw [e2]
                  cases x <;> simp only [Evo, hbb] at he ⊢ <;> exact he
                · rw [e2]
                  cases x <;> simp only [Evo, hbb] at he ⊢ <;> exact he
              · intro k blk o hk hb
                obtain ⟨b, h1, h2, _⟩ := out_live (β := β) hpa hp hdec hob hk hb
                exact g1.bNew b blk o h1 h2
        · cases h
      · cases h
    · cases h
  · cases h

theorem look_enumL : ∀ (l : List PV) (n k : Nat), look k (enumL n l) = if n ≤ k then l[k - n]? else none
  | [], n, k => by simp [enumL, look]
  | x :: r, n, k => by
    simp only [enumL, look]
    by_cases h : k = n
    · subst h; simp
    · have hb : Nat.beq k n = false := by
        cases hb : Nat.beq k n with
        | false => rfl
        | true => exact absurd (Nat.eq_of_beq_eq_true hb) h
      rw [hb, cond_false, look_enumL r (n + 1) k]
      by_cases h2 : n + 1 ≤ k
      · rw [if_pos h2, if_pos (by omega), show k - n = (k - (n + 1)) + 1 by omega]
        rfl
      · rw [if_neg h2, if_neg (by omega)]

theorem rvs_at {I J : Rg} {β : Bt} {σ : Sg} {w : World} : ∀ {ps : List PV} {vs : List Value}, RVs I J β σ w ps vs → ps.length = vs.length ∧ ∀ (k : Nat) (p : PV), ps[k]? = some p → ∃ v, vs[k]? = some v ∧ RV I J β σ w p v
  | [], vs, h => by simp only [RVs] at h; subst h; exact ⟨rfl, fun k p h => by simp at h⟩
  | q :: r, vs, h => by
    obtain ⟨v, rest, rfl, h1, h2⟩ := h
    obtain ⟨h3, h4⟩ := rvs_at h2
    refine ⟨by simp [h3], fun k p hp => ?_⟩
    cases k with
    | zero =>
      simp only [List.getElem?_cons_zero, Option.some.injEq] at hp
      subst hp
      exact ⟨v, rfl, h1⟩
    | succ k =>
      simp only [List.getElem?_cons_succ] at hp ⊢
      exact h4 k p hp

/-- the frame of a call -/
def frOf (w : World) (I J : Rg) (β : Bt) (bx : List Box) : Fr := { w0 := w, I0 := I, J := J, β0 := β, σ0 := listF bx }

theorem frOf_inv {I J : Rg} {β : Bt} {bx : List Box} {w : World} (hG : Good I J β (listF bx) w) : Inv (frOf w I J β bx) I β (listF bx) w :=
  ⟨hG, .refl .., Nat.le_refl _, fun _ _ _ => rfl, fun _ _ h => .inl h, fun b blk o h1 h2 => .inr ⟨b, o, h1, h2⟩, .refl w⟩

theorem frOk_of {P : Program} [Laid P] {I J : Rg} {β : Bt} {bx : List Box} {w : World} (hG : Good I J β (listF bx) w) (hg : ∀ blk i, Laid.g P blk → J blk i) (hL : Laid.L P w) : FrOk P (frOf w I J β bx) :=
  ⟨hg, fun blk hb => ⟨hG.bnd blk 0 (.inr (hg blk 0 hb)), fun ⟨k, o, h1, h2⟩ => (hG.sep k blk o 0 h1 h2).2 (hg blk 0 hb)⟩, hL⟩

theorem body_sound [Laid P] (hm : P.follows .mixedOrders = true) (hty : TysOk P ty) (hC : CallsOk P C) {id : Nat} {fn : Func} {c : Code} (hf : P.funcs[id]? = some fn) (hb : fn.body = some c) (hN : N ≤ fn.ntmps)
    {rs : List (Bool × List Rp)} {sp : List Sp} {bs : List (Bs × Bool)} {x : spDen sp} {y : bsDen bs} {r : rsDen rs} {y' : bsDen bs} (h : runBody C ty N fuel kp c fn.results.toList rs sp bs x y = some (r, y'))
    {w : World} {I J : Rg} {β : Bt} {vs : List Value} (hG : Good I J β (listF (boxesOf bs y)) w) (hg : ∀ blk i, Laid.g P blk → J blk i) (hL : Laid.L P w) (hv : RVs I J β (listF (boxesOf bs y)) w (argsOf sp x) vs) :
    Calls P id vs.toArray w fun ex w' => ∃ u, ex = .returned u ∧ ∃ I' β', Inv (frOf w I J β (boxesOf bs y)) I' β' (listF (boxesOf bs y' ++ (resAll bs.length rs r).2)) w' ∧
      RV I' J β' (listF (boxesOf bs y' ++ (resAll bs.length rs r).2)) w' (tupV (resAll bs.length rs r).1) u := by
  apply calls_of_wp hf hb
  have hF : ∀ b, bs.length ≤ b → (frOf w I J β (boxesOf bs y)).σ0 b = none := by
    intro b hb
    simp [frOf, listF, boxesOf_len, hb]
  unfold runBody at h
  have hbox : St.box (start (argsOf sp x) (boxesOf bs y)) = listF (boxesOf bs y) := box_numbered _
  refine interp_sound (F := frOf w I J β (boxesOf bs y)) (N := N) (fuel := fuel) (kp := kp) hm hty hC (frOk_of hG hg hL) hF c _ _ _ _ w _ h ⟨rfl, ?_, I, β, ?_, ?_⟩ ?_
  · simp; omega
  · rw [hbox]
    exact frOf_inv hG
  · intro t
    rw [hbox]
    obtain ⟨h1, h2⟩ := rvs_at hv
    unfold St.get start
    rw [look_enumL]
    simp only [Nat.zero_le, if_true, Nat.sub_zero]
    cases hp : (argsOf sp x)[t]? with
    | none => exact trivial
    | some p =>
      obtain ⟨u, h3, h4⟩ := h2 t p hp
      have hlt : t < vs.length := (List.getElem?_eq_some_iff.1 h3).1
      have : (vs.toArray ++ Array.replicate (fn.ntmps - vs.toArray.size) undef).getD t undef = u := by
        rw [Array.getD_eq_getD_getElem?, Array.getElem?_append_left (by simpa using hlt)]
        simp [h3]
      rw [this]
      exact h4
  · intro e st' a' w' hK hR
    have fin : finish ty bs.length fn.results.toList rs bs st' = some (r, y') → bodyPost P fn (fun ex w' => ∃ u, ex = .returned u ∧ ∃ I' β', Inv (frOf w I J β (boxesOf bs y)) I' β' (listF (boxesOf bs y' ++ (resAll bs.length rs r).2)) w' ∧
        RV I' J β' (listF (boxesOf bs y' ++ (resAll bs.length rs r).2)) w' (tupV (resAll bs.length rs r).1) u) .normal a' w' := by
      intro hfin
      obtain ⟨u, h1, I', β', h2, h3⟩ := finish_sound hty hF hfin hR
      exact ⟨hR.1, u, h1, u, rfl, I', β', h2, h3⟩
    cases e with
    | normal => exact fin hK
    | ret => exact fin hK
    | _ => cases hK
end
end Go.Abs
