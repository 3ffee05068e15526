/- What a call leaves behind: results and boxes. -/
import Derived.Test.YtpamckmeeamjjaaGreatDoorCode
namespace Go.Abs
set_option linter.unusedSectionVars false
set_option linter.unusedVariables false
set_option linter.unusedSimpArgs false

theorem goneGet_upd (g : List Nat) (σ : Sg) : updF (goneU g) σ = goneGet g σ := by
  funext b
  induction g with
  | nil => rfl
  | cons c g ih =>
    simp only [goneU, List.map_cons, updF, goneGet, mem] at ih ⊢
    by_cases h : b = c
    · subst h; simp [setF]
    · have hb : Nat.beq b c = false := by
        cases hb : Nat.beq b c with
        | false => rfl
        | true => exact absurd (Nat.eq_of_beq_eq_true hb) h
      rw [setF_ne _ _ h, hb, Bool.false_or]
      exact ih

theorem goneGet_append (g g' : List Nat) (σ : Sg) : goneGet (g' ++ g) σ = goneGet g' (goneGet g σ) := by
  rw [← goneGet_upd, ← goneGet_upd, ← goneGet_upd]
  induction g' with
  | nil => rfl
  | cons c g' ih => simp only [goneU, List.cons_append, List.map_cons, updF] at ih ⊢; rw [ih]

theorem run_sure {P : Program} {T : TypeId} {u v : Value} {w : World} (h : (Instr.loadAt T u).run P w = .ok v w) :
    (do loadVar T (← asAddr u) : Sem Value).run P w = .ok v w := by
  unfold Instr.loadAt at h
  cases u with
  | pointer a =>
    cases a with
    | none => simp [Instr.sureAddr] at h
    | some a => simpa [Instr.sureAddr, asAddr] using h
  | _ => simp [Instr.sureAddr] at h

section
variable {P : Program} {F : Fr} {N m : Nat} {ty : Nat → Option TyI} {I : Rg} {β : Bt} {σ : Sg} {w : World}

theorem split_rp {J : Rg} {p : PV} {ag : Bool} {ls : List Lf} {u : Value} (h : splitV p = some (ag, ls)) (hp : RV I J β σ w p u) : RP I J β σ w (ag, ls) u := by
  cases p with
  | one l => simp only [splitV, Option.some.injEq, Prod.mk.injEq] at h; obtain ⟨rfl, rfl⟩ := h; exact hp
  | agg l => simp only [splitV, Option.some.injEq, Prod.mk.injEq] at h; obtain ⟨rfl, rfl⟩ := h; exact hp
  | tup l => cases h

/-- the results, read -/
theorem resVars_sound (hty : TysOk P ty) {st : St} {a : Act} (hI : Inv F I β st.box w) (hv : ∀ t, RV I F.J β st.box w (st.get t) (a.tmps.getD t undef)) :
    ∀ {rv : List ResultVar} {vs : List (Bool × List Lf)}, resVars ty st rv = some vs → ∃ us : List Value,
      (rv.mapM (fun | .tmp t => pure (a.tmps.getD t undef) | .cell x t => do loadVar t (← asAddr (a.tmps.getD x undef)) : ResultVar → Sem Value)).run P w = .ok us w ∧ RT I F.J β st.box w vs us
  | [], vs, h => by
    simp only [resVars, Option.some.injEq] at h
    subst h
    exact ⟨[], by simp, rfl⟩
  | .tmp t :: r, vs, h => by
    simp only [resVars] at h
    split at h
    · rename_i v l hs hr
      simp only [Option.some.injEq] at h
      subst h
      obtain ⟨us, h1, h2⟩ := resVars_sound hty hI hv hr
      obtain ⟨ag, ls⟩ := v
      exact ⟨_ :: us, by simp only [List.mapM_cons, Sem.run_bind, Sem.run_pure, Result.andThen_ok, h1], _, us, rfl, split_rp hs (hv t), h2⟩
    · cases h
  | .cell x T :: r, vs, h => by
    simp only [resVars] at h
    split at h
    · rename_i l hx
      split at h
      · rename_i e he
        split at h
        · rename_i v l' hs hr
          simp only [Option.some.injEq] at h
          subst h
          obtain ⟨us, h1, h2⟩ := resVars_sound hty hI hv hr
          have hvx := hv x
          rw [hx] at hvx
          obtain ⟨_, u, h3, h4⟩ := do_load (get := st.box) hty hI he (fun _ _ => rfl) hvx
          obtain ⟨ag, ls⟩ := v
          have h5 := run_sure h3
          refine ⟨u :: us, ?_, u, us, rfl, split_rp hs h4, h2⟩
          have h6 : (asAddr (a.tmps.getD x undef) >>= fun y => loadVar T y).run P w = .ok u w := h5
          rw [List.mapM_cons, Sem.run_bind]
          rw [h6]
          simp only [Sem.run_bind, Sem.run_pure, Result.andThen_ok, h1]
        · cases h
      · cases h
    · cases h

theorem immR_sound : ∀ {rp : List Rp} {ls ls' : List Lf} {g : List Nat} {us : List Value} {I : Rg} {σ : Sg}, immR σ rp ls = some (ls', g) → Inv F I β σ w → RLs I F.J β σ w ls us →
    ∃ I', Inv F I' β (goneGet g σ) w ∧ Ext F.J I β σ w I' β (goneGet g σ) w ∧ RLs I' F.J β (goneGet g σ) w ls' us
  | [], [], ls', g, us, I, σ, h, hI, hl => by
    simp only [immR, Option.some.injEq, Prod.mk.injEq] at h
    obtain ⟨rfl, rfl⟩ := h
    exact ⟨I, hI, .refl .., hl⟩
  | [], _ :: _, _, _, _, _, _, h, _, _ => by simp [immR] at h
  | .v bor t :: r, ls, ls', g, us, I, σ, h, hI, hl => by
    simp only [immR] at h
    cases ht : takeL t.sz ls with
    | none => simp [ht] at h
    | some hd =>
      simp only [ht] at h
      cases him : immL σ hd with
      | none => simp [him] at h
      | some q =>
        obtain ⟨h', g1⟩ := q
        simp only [him] at h
        cases hr : immR (goneGet g1 σ) r (dropL t.sz ls) with
        | none => simp [hr] at h
        | some q =>
          obtain ⟨l, g2⟩ := q
          simp only [hr, Option.some.injEq, Prod.mk.injEq] at h
          obtain ⟨rfl, rfl⟩ := h
          obtain ⟨h1, h2, h3⟩ := hl.take ht
          have h4 := hl.drop (n := t.sz)
          obtain ⟨I1, h5, h6, h7⟩ := imm_sound him (fun _ _ => rfl) hI h1
          rw [goneGet_upd] at h5 h6 h7
          obtain ⟨I2, h8, h9, h10⟩ := immR_sound hr h5 (h6.rls h4)
          rw [goneGet_append]
          refine ⟨I2, h8, h6.trans h9, ?_⟩
          have := (h9.rls h7).append h10
          rwa [List.take_append_drop] at this
  | .new t :: r, [], _, _, _, _, _, h, _, _ => by simp [immR] at h
  | .new t :: r, l :: ls, ls', g, us, I, σ, h, hI, hl => by
    simp only [immR] at h
    cases hr : immR σ r ls with
    | none => simp [hr] at h
    | some q =>
      obtain ⟨l', g2⟩ := q
      simp only [hr, Option.some.injEq, Prod.mk.injEq] at h
      obtain ⟨rfl, rfl⟩ := h
      obtain ⟨v, rest, rfl, h1, h2⟩ := hl
      obtain ⟨I2, h8, h9, h10⟩ := immR_sound hr hI h2
      exact ⟨I2, h8, h9, v, rest, rfl, h9.rl h1, h10⟩
  | .nvar T t :: r, [], _, _, _, _, _, h, _, _ => by simp [immR] at h
  | .nvar T t :: r, l :: ls, ls', g, us, I, σ, h, hI, hl => by
    simp only [immR] at h
    cases hr : immR σ r ls with
    | none => simp [hr] at h
    | some q =>
      obtain ⟨l', g2⟩ := q
      simp only [hr, Option.some.injEq, Prod.mk.injEq] at h
      obtain ⟨rfl, rfl⟩ := h
      obtain ⟨v, rest, rfl, h1, h2⟩ := hl
      obtain ⟨I2, h8, h9, h10⟩ := immR_sound hr hI h2
      exact ⟨I2, h8, h9, v, rest, rfl, h9.rl h1, h10⟩
  | .pre k :: r, [], _, _, _, _, _, h, _, _ => by simp [immR] at h
  | .pre k :: r, l :: ls, ls', g, us, I, σ, h, hI, hl => by
    simp only [immR] at h
    cases hr : immR σ r ls with
    | none => simp [hr] at h
    | some q =>
      obtain ⟨l', g2⟩ := q
      simp only [hr, Option.some.injEq, Prod.mk.injEq] at h
      obtain ⟨rfl, rfl⟩ := h
      obtain ⟨v, rest, rfl, h1, h2⟩ := hl
      obtain ⟨I2, h8, h9, h10⟩ := immR_sound hr hI h2
      exact ⟨I2, h8, h9, v, rest, rfl, h9.rl h1, h10⟩

theorem immAll_sound : ∀ {rs : List (Bool × List Rp)} {vs vs' : List (Bool × List Lf)} {g : List Nat} {us : List Value} {I : Rg} {σ : Sg}, immAll σ rs vs = some (vs', g) → Inv F I β σ w → RT I F.J β σ w vs us →
    ∃ I', Inv F I' β (goneGet g σ) w ∧ Ext F.J I β σ w I' β (goneGet g σ) w ∧ RT I' F.J β (goneGet g σ) w vs' us
  | [], [], ls', g, us, I, σ, h, hI, hl => by
    simp only [immAll, Option.some.injEq, Prod.mk.injEq] at h
    obtain ⟨rfl, rfl⟩ := h
    exact ⟨I, hI, .refl .., hl⟩
  | [], _ :: _, _, _, _, _, _, h, _, _ => by simp [immAll] at h
  | _ :: _, [], _, _, _, _, _, h, _, _ => by simp [immAll] at h
  | (ag, rp) :: r, (ag', ls) :: q, vs', g, us, I, σ, h, hI, hl => by
    simp only [immAll] at h
    cases hag : ag == ag' && wellL ag ls with
    | false => simp [hag] at h
    | true =>
      simp only [hag, cond_true] at h
      rw [Bool.and_eq_true] at hag
      obtain ⟨hag, hwl⟩ := hag
      have hag := eq_of_beq hag
      subst hag
      cases him : immR σ rp ls with
      | none => simp [him] at h
      | some q1 =>
        obtain ⟨l, g1⟩ := q1
        simp only [him] at h
        cases hr : immAll (goneGet g1 σ) r q with
        | none => simp [hr] at h
        | some q2 =>
          obtain ⟨rest, g2⟩ := q2
          simp only [hr, Option.some.injEq, Prod.mk.injEq] at h
          obtain ⟨rfl, rfl⟩ := h
          obtain ⟨u, us', rfl, h1, h2⟩ := hl
          -- one result's cells
          have key : ∃ I1, Inv F I1 β (goneGet g1 σ) w ∧ Ext F.J I β σ w I1 β (goneGet g1 σ) w ∧ RP I1 F.J β (goneGet g1 σ) w (ag, l) u := by
            cases ag with
            | true =>
              obtain ⟨vs, rfl, h3⟩ := h1
              obtain ⟨I1, h4, h5, h6⟩ := immR_sound him hI h3
              exact ⟨I1, h4, h5, vs, rfl, h6⟩
            | false =>
              match ls, h1, him, hwl with
              | [x], h1, him, hwl =>
                obtain ⟨I1, h4, h5, h6⟩ := immR_sound (us := [u]) him hI ⟨u, [], rfl, h1, rfl⟩
                refine ⟨I1, h4, h5, ?_⟩
                match l, h6 with
                | [], h6 => exact trivial
                | [y], h6 => obtain ⟨v, rest, e, h7, _⟩ := h6; injection e with e _; subst e; exact h7
                | _ :: _ :: _, h6 => exact trivial
              | [], h1, him, hwl => simp [wellL] at hwl
              | x :: y :: z, h1, him, hwl => simp [wellL] at hwl
          obtain ⟨I1, h4, h5, h6⟩ := key
          obtain ⟨I2, h8, h9, h10⟩ := immAll_sound hr h4 (h5.rt h2)
          rw [goneGet_append]
          exact ⟨I2, h8, h5.trans h9, _, us', rfl, h9.rp h6, h10⟩
end

theorem lt_of_blt {b m : Nat} (h : Nat.blt b m = true) : b < m := Nat.le_of_ble_eq_true h
theorem le_of_blt {b m : Nat} (h : Nat.blt b m = false) : m ≤ b := by
  rcases Nat.lt_or_ge b m with h' | h'
  · have : Nat.blt b m = true := Nat.ble_eq_true_of_le h'
    rw [this] at h; cases h
  · exact h'

/-! ### the boxes that go out -/
section
variable {I J : Rg} {β β' : Bt} {σ σ' : Sg} {w : World} {m : Nat}

theorem weak_rl {bor : Bool} {l : Lf} {u : Value} (h : RL I J β σ w l u) : RL I J β σ w (weakL bor l) u := by
  cases l with
  | list b t xs =>
    obtain ⟨A, c, h1, h2, h3⟩ := h
    refine ⟨A, c, h1, h2, h3.imp (fun h => h) ?_⟩
    rintro ⟨a, h4, h5, h6⟩
    exact ⟨a, h4, h5, h6.mono (fun _ _ h => h.imp (fun h => h) fun h => ⟨by simp [h.1], h.2⟩) (fun _ _ _ _ h => h) (fun _ _ h => h)⟩
  | _ => exact h

theorem weak_rls {bor : Bool} : ∀ {ls : List Lf} {vs : List Value}, RLs I J β σ w ls vs → RLs I J β σ w (ls.map (weakL bor)) vs
  | [], _, h => h
  | l :: r, vs, h => by
    obtain ⟨v, rest, rfl, h1, h2⟩ := h
    exact ⟨v, rest, rfl, weak_rl h1, weak_rls h2⟩

/-- out of cells a typed value -/
theorem unfl_rls {bor : Bool} : ∀ {t : Tc} {ls : List Lf} {x : t.den} {r : List Lf} {vs : List Value}, unfl bor t ls = some (x, r) → RLs I J β σ w ls vs →
    ∃ v1 v2, vs = v1 ++ v2 ∧ RLs I J β σ w (fl bor t x) v1 ∧ RLs I J β σ w r v2
  | .int k, ls, x, r, vs, h, hl => by
    match ls, h with
    | .sc (.int k' n) :: q, h =>
      simp only [Abs.unfl] at h
      split at h
      · rename_i e
        subst e
        simp only [Option.some.injEq, Prod.mk.injEq] at h
        obtain ⟨v, rest, rfl, h1, h2⟩ := hl
        exact ⟨[v], rest, rfl, ⟨v, [], rfl, by rw [← h.1]; exact h1, rfl⟩, h.2 ▸ h2⟩
      · cases h
  | .bool, ls, x, r, vs, h, hl => by
    match ls, h with
    | .sc (.bool b) :: q, h =>
      simp only [Abs.unfl, Option.some.injEq, Prod.mk.injEq] at h
      obtain ⟨v, rest, rfl, h1, h2⟩ := hl
      exact ⟨[v], rest, rfl, ⟨v, [], rfl, by rw [← h.1]; exact h1, rfl⟩, h.2 ▸ h2⟩
  | .str, ls, x, r, vs, h, hl => by
    match ls, h with
    | .sc (.string b) :: q, h =>
      simp only [Abs.unfl, Option.some.injEq, Prod.mk.injEq] at h
      obtain ⟨v, rest, rfl, h1, h2⟩ := hl
      exact ⟨[v], rest, rfl, ⟨v, [], rfl, by rw [← h.1]; exact h1, rfl⟩, h.2 ▸ h2⟩
  | .nil, ls, x, r, vs, h, hl => by
    match ls, h with
    | .sc (.pointer none) :: q, h =>
      simp only [Abs.unfl, Option.some.injEq, Prod.mk.injEq] at h
      obtain ⟨v, rest, rfl, h1, h2⟩ := hl
      exact ⟨[v], rest, rfl, ⟨v, [], rfl, h1, rfl⟩, h.2 ▸ h2⟩
  | .list t, ls, x, r, vs, h, hl => by
    match ls, h with
    | .list b t' xs :: q, h =>
      simp only [Abs.unfl] at h
      cases hb : b && !bor with
      | true => rw [hb] at h; cases h
      | false =>
      rw [hb, cond_false] at h
      cases hc : castL t' t xs with
      | none => rw [hc] at h; cases h
      | some ys =>
        rw [hc] at h
        simp only [Option.some.injEq, Prod.mk.injEq] at h
        obtain ⟨e, hy⟩ := castL_some hc
        subst e
        simp only at hy
        obtain ⟨v, rest, rfl, h1, h2⟩ := hl
        refine ⟨[v], rest, rfl, ⟨v, [], rfl, ?_, rfl⟩, h.2 ▸ h2⟩
        rw [← h.1, hy]
        have := weak_rl (bor := bor) h1
        have e : (b || bor) = bor := by revert hb; cases b <;> cases bor <;> simp
        simp only [weakL, e] at this
        exact this
    | .sc (.slice none 0 0) :: q, h =>
      simp only [Abs.unfl, Option.some.injEq, Prod.mk.injEq] at h
      obtain ⟨v, rest, rfl, h1, h2⟩ := hl
      refine ⟨[v], rest, rfl, ⟨v, [], rfl, ?_, rfl⟩, h.2 ▸ h2⟩
      rw [← h.1]
      exact ⟨none, 0, h1, Nat.le_refl _, .inl rfl⟩
  | .pair a b, ls, x, r, vs, h, hl => by
    simp only [Abs.unfl] at h
    cases h1 : Abs.unfl bor a ls with
    | none => simp [h1] at h
    | some p =>
      obtain ⟨y, q⟩ := p
      simp only [h1] at h
      cases h2 : Abs.unfl bor b q with
      | none => simp [h2] at h
      | some p =>
        obtain ⟨z, r'⟩ := p
        simp only [h2, Option.some.injEq, Prod.mk.injEq] at h
        obtain ⟨rfl, rfl⟩ := h
        obtain ⟨v1, v2, rfl, h3, h4⟩ := unfl_rls h1 hl
        obtain ⟨v3, v4, rfl, h5, h6⟩ := unfl_rls h2 h4
        exact ⟨v1 ++ v3, v4, by simp, h3.append h5, h6⟩
  | .unit, ls, x, r, vs, h, hl => by
    simp only [Abs.unfl, Option.some.injEq, Prod.mk.injEq] at h
    exact ⟨[], vs, rfl, rfl, h.2 ▸ hl⟩


/-- a typed value's cells name no box -/
theorem fl_indep {bor : Bool} : ∀ {t : Tc} {x : t.den} {vs : List Value}, RLs I J β σ w (fl bor t x) vs → RLs I J β' σ' w (fl bor t x) vs
  | .int _, _, _, h => h
  | .bool, _, _, h => h
  | .str, _, _, h => h
  | .list _, _, _, h => h
  | .pair a b, x, vs, h => by
    obtain ⟨v1, v2, rfl, h1, h2⟩ := RLs.split h
    exact (fl_indep h1).append (fl_indep h2)
  | .unit, _, _, h => h
  | .nil, _, _, h => h
end

def OutBox (m : Nat) (get : Sg) (y : Box) : Option Nat → Prop
  | none => ∃ t, y = .row 0 t []
  | some b => m ≤ b ∧ ((∃ T c t x, get b = some (.var T c) ∧ unfl true t c = some (x, []) ∧ y = .var T (fl true t x)) ∨ ∃ v t xs n, get b = some (.row v t xs) ∧ y = .row 0 t (xs.take n))

def OutBoxes (m : Nat) (get : Sg) : List Box → List (Option Nat) → Prop
  | [], [] => True
  | y :: bs, o :: own => OutBox m get y o ∧ OutBoxes m get bs own
  | _, _ => False

theorem OutBoxes.len {m : Nat} {get : Sg} : ∀ {bs : List Box} {own : List (Option Nat)}, OutBoxes m get bs own → bs.length = own.length
  | [], [], _ => rfl
  | _ :: _, _ :: _, h => by simp [h.2.len]
  | [], _ :: _, h => h.elim
  | _ :: _, [], h => h.elim

theorem OutBoxes.append {m : Nat} {get : Sg} : ∀ {bs bs' : List Box} {own own' : List (Option Nat)}, OutBoxes m get bs own → OutBoxes m get bs' own' → OutBoxes m get (bs ++ bs') (own ++ own')
  | [], _, [], _, _, h' => h'
  | _ :: _, _, _ :: _, _, h, h' => ⟨h.1, h.2.append h'⟩
  | [], _, _ :: _, _, h, _ => h.elim
  | _ :: _, _, [], _, h, _ => h.elim

theorem OutBoxes.at {m : Nat} {get : Sg} : ∀ {bs : List Box} {own : List (Option Nat)}, OutBoxes m get bs own → ∀ (j : Nat) (y : Box), bs[j]? = some y → ∃ o, own[j]? = some o ∧ OutBox m get y o
  | [], [], _, j, y, hy => by simp at hy
  | b :: bs, o :: own, h, j, y, hy => by
    cases j with
    | zero =>
      simp only [List.getElem?_cons_zero, Option.some.injEq] at hy
      subst hy
      exact ⟨o, rfl, h.1⟩
    | succ j =>
      simp only [List.getElem?_cons_succ] at hy ⊢
      exact h.2.at j y hy
  | [], _ :: _, h, _, _, _ => h.elim
  | _ :: _, [], h, _, _, _ => h.elim

section
variable {I J : Rg} {β β' : Bt} {σ σ' : Sg} {w : World} {m : Nat}

def ownB (β : Bt) (own : List (Option Nat)) (j : Nat) : Option (Nat × Nat) := ((own[j]?).getD none).bind β

theorem ownRow_sound {t : Tc} {l : Lf} {x : List t.den} {o : Option Nat} {u : Value} (h : ownRow σ m t l = some (x, o)) (hl : RL I J β σ w l u) :
    OutBox m σ (.row 0 t x) o ∧ ∀ (β' : Bt) (σ' : Sg) (k : Nat), σ' k = some (.row 0 t x) → β' k = o.bind β → RL I J β' σ' w (.slice k 0 none) u := by
  unfold ownRow at h
  split at h
  · simp only [Option.some.injEq, Prod.mk.injEq] at h
    obtain ⟨rfl, rfl⟩ := h
    refine ⟨⟨t, rfl⟩, fun β' σ' k hk hb => ⟨_, hk, Nat.le_refl 0, fun _ => ⟨none, 0, hl, .inl ⟨rfl, rfl⟩⟩⟩⟩
  · rename_i b ver
    cases hbm : Nat.blt b m with
    | true => simp [hbm] at h
    | false =>
      simp only [hbm, cond_false] at h
      split at h
      · rename_i ver' t' xs hx
        cases hv : Nat.beq ver ver' with
        | false => simp [hv] at h
        | true =>
          simp only [hv, cond_true] at h
          split at h
          · rename_i xs' hc
            simp only [Option.some.injEq, Prod.mk.injEq] at h
            obtain ⟨rfl, rfl⟩ := h
            obtain ⟨e, hxs⟩ := castL_some hc
            subst e
            simp only at hxs
            subst hxs
            have hv := Nat.eq_of_beq_eq_true hv
            subst hv
            refine ⟨⟨le_of_blt hbm, .inr ⟨_, _, _, xs'.length, hx, by rw [List.take_length]⟩⟩, fun β' σ' k hk hb => ?_⟩
            obtain ⟨x, hx', h6⟩ := hl
            rw [hx] at hx'
            injection hx' with hx'
            subst hx'
            have hb : β' k = β b := hb
            refine ⟨_, hk, Nat.le_refl 0, fun _ => ?_⟩
            have := h6.2 rfl
            simp only [hb]
            exact this
          · cases h
      · cases h
  · rename_i b ver n
    cases hbm : Nat.blt b m with
    | true => simp [hbm] at h
    | false =>
      simp only [hbm, cond_false] at h
      split at h
      · rename_i ver' t' xs hx
        cases hv : Nat.beq ver ver' with
        | false => simp [hv] at h
        | true =>
          simp only [hv, cond_true] at h
          split at h
          · rename_i xs' hc
            simp only [Option.some.injEq, Prod.mk.injEq] at h
            obtain ⟨rfl, rfl⟩ := h
            obtain ⟨e, hxs⟩ := castL_some hc
            subst e
            simp only at hxs
            subst hxs
            have hv := Nat.eq_of_beq_eq_true hv
            subst hv
            refine ⟨⟨le_of_blt hbm, .inr ⟨_, _, _, n, hx, rfl⟩⟩, fun β' σ' k hk hb => ?_⟩
            obtain ⟨x, hx', h6⟩ := hl
            rw [hx] at hx'
            injection hx' with hx'
            subst hx'
            have hb : β' k = β b := hb
            refine ⟨_, hk, Nat.le_refl 0, fun _ => ?_⟩
            obtain ⟨A, c, g1, g2, _, g3, g4⟩ := h6.2 rfl
            simp only [List.drop_zero] at g1 g2
            refine ⟨A, c, g1, ?_⟩
            rcases g4 with g4 | ⟨blk, o, q1, q2, q3⟩
            · refine .inl ⟨?_, g4⟩
              have : xs'.length = 0 := by omega
              rw [List.length_eq_zero_iff.1 this, List.take_nil]
            · exact .inr ⟨blk, o, by rw [hb, q1], by simpa using q2, g2, by simpa using q3⟩
          · cases h
      · cases h
  · cases h

theorem preOf_sound {k n : Nat} {l : Lf} {u : Value} (h : preOf σ m k l = some n) (hl : RL I J β σ w l u) :
    k < m ∧ ∃ t xs, σ k = some (.row 0 t xs) ∧ ∀ (β' : Bt) (σ' : Sg), σ' k = some (.row 0 t xs) → β' k = β k → RL I J β' σ' w (.slice k 0 (some (0, n))) u := by
  unfold preOf at h
  split at h
  · rename_i b
    cases hc : Nat.beq b k && Nat.blt k m with
    | false => simp [hc] at h
    | true =>
      simp only [hc, cond_true] at h
      rw [Bool.and_eq_true] at hc
      have hb := Nat.eq_of_beq_eq_true hc.1
      subst hb
      split at h
      · rename_i t xs hx
        simp only [Option.some.injEq] at h
        subst h
        refine ⟨lt_of_blt hc.2, t, xs, hx, fun β' σ' hk hb => ⟨_, hk, Nat.le_refl 0, fun _ => ?_⟩⟩
        obtain ⟨x, hx', h6⟩ := hl
        rw [hx] at hx'
        injection hx' with hx'
        subst hx'
        obtain ⟨A, c, g1, g2⟩ := h6.2 rfl
        have e : (xs.drop 0).take xs.length = xs := by simp
        rcases g2 with ⟨q1, q2⟩ | ⟨blk, o, q1, q2, q3, q4⟩
        · subst q1; subst q2
          exact ⟨A, 0, by simpa using g1, by simp, .inl (by simp), by simp, .inl rfl⟩
        · exact ⟨A, c, by rw [e]; exact g1, by rw [e]; exact q3, .inr ⟨blk, o, by rw [hb, q1], by simpa using q2⟩, by omega, .inr ⟨blk, o, by rw [hb, q1], by simpa using q2, by simpa using q4⟩⟩
      · cases h
  · rename_i b n'
    cases hc : Nat.beq b k && Nat.blt k m with
    | false => simp [hc] at h
    | true =>
      simp only [hc, cond_true] at h
      rw [Bool.and_eq_true] at hc
      have hb := Nat.eq_of_beq_eq_true hc.1
      subst hb
      split at h
      · rename_i t xs hx
        simp only [Option.some.injEq] at h
        subst h
        refine ⟨lt_of_blt hc.2, t, xs, hx, fun β' σ' hk hb => ⟨_, hk, Nat.le_refl 0, fun _ => ?_⟩⟩
        obtain ⟨x, hx', h6⟩ := hl
        rw [hx] at hx'
        injection hx' with hx'
        subst hx'
        have h7 := h6.2 rfl
        simp only [hb]
        exact h7
      · cases h
  · cases h

theorem ownVar_sound {T : Nat} {t : Tc} {l : Lf} {x : t.den} {o : Option Nat} {u : Value} (h : ownVar σ m T t l = some (x, o)) (hl : RL I J β σ w l u) :
    OutBox m σ (.var T (fl true t x)) o ∧ ∀ (β' : Bt) (σ' : Sg) (k : Nat), σ' k = some (.var T (fl true t x)) → β' k = o.bind β → RL I J β' σ' w (.ref k 0 0 0 0 0) u := by
  unfold ownVar at h
  split at h
  · rename_i b
    cases hbm : Nat.blt b m with
    | true => simp [hbm] at h
    | false =>
      simp only [hbm, cond_false] at h
      split at h
      · rename_i T' cells hx
        cases hT : Nat.beq T T' with
        | false => simp [hT] at h
        | true =>
          simp only [hT, cond_true] at h
          have hT := Nat.eq_of_beq_eq_true hT
          subst hT
          split at h
          · rename_i y hu
            simp only [Option.some.injEq, Prod.mk.injEq] at h
            obtain ⟨rfl, rfl⟩ := h
            refine ⟨⟨le_of_blt hbm, .inl ⟨_, _, _, _, hx, hu, rfl⟩⟩, fun β' σ' k hk hb => ?_⟩
            obtain ⟨_, x, hx', h6⟩ := hl
            rw [hx] at hx'
            injection hx' with hx'
            subst hx'
            have hb : β' k = β b := hb
            obtain ⟨blk, h7, h8⟩ := h6
            exact ⟨.inl ⟨rfl, rfl⟩, _, hk, blk, by rw [hb, h7], h8⟩
          · cases h
      · cases h
  · cases h

/-- the boxes that came in are as they were -/
def Low (m : Nat) (β : Bt) (σ : Sg) (β' : Bt) (σ' : Sg) : Prop := ∀ b t xs, b < m → σ b = some (.row 0 t xs) → σ' b = some (.row 0 t xs) ∧ β' b = β b

theorem retL_sound : ∀ {rp : List Rp} {ls : List Lf} {k : Nat} {x : rpDen rp} {own : List (Option Nat)} {us : List Value}, retL σ m rp ls = some (x, own) → RLs I J β σ w ls us →
    OutBoxes m σ (resL k rp x).2 own ∧ ∀ (β' : Bt) (σ' : Sg), Low m β σ β' σ' → (∀ j y, (resL k rp x).2[j]? = some y → σ' (k + j) = some y ∧ β' (k + j) = ownB β own j) → RLs I J β' σ' w (resL k rp x).1 us
  | [], [], k, x, own, us, h, hl => by
    simp only [retL, Option.some.injEq, Prod.mk.injEq] at h
    obtain ⟨_, rfl⟩ := h
    exact ⟨trivial, fun _ _ _ _ => hl⟩
  | [], _ :: _, _, _, _, _, h, _ => by simp [retL] at h
  | .v bor t :: r, ls, k, x, own, us, h, hl => by
    simp only [retL] at h
    cases ht : takeL t.sz ls with
    | none => simp [ht] at h
    | some hh =>
      simp only [ht] at h
      split at h
      · rename_i y hu
        cases hr : retL σ m r (dropL t.sz ls) with
        | none => simp [hr] at h
        | some q =>
          obtain ⟨z, own'⟩ := q
          simp only [hr, Option.some.injEq, Prod.mk.injEq] at h
          obtain ⟨rfl, rfl⟩ := h
          obtain ⟨h1, h2, h3⟩ := hl.take ht
          obtain ⟨h4, h5⟩ := retL_sound (k := k) hr (hl.drop (n := t.sz))
          refine ⟨h4, fun β' σ' hlow hb => ?_⟩
          obtain ⟨v1, v2, e, g1, g2⟩ := unfl_rls hu h1
          simp only [RLs] at g2
          subst g2
          rw [List.append_nil] at e
          have := (fl_indep (β' := β') (σ' := σ') g1).append (h5 β' σ' hlow hb)
          rw [← e, List.take_append_drop] at this
          exact this
      · cases h
  | .new t :: r, [], _, _, _, _, h, _ => by simp [retL] at h
  | .new t :: r, l :: ls, k, x, own, us, h, hl => by
    simp only [retL] at h
    cases ho : ownRow σ m t l with
    | none => simp [ho] at h
    | some q =>
      obtain ⟨a, o⟩ := q
      simp only [ho] at h
      cases hr : retL σ m r ls with
      | none => simp [hr] at h
      | some q =>
        obtain ⟨z, own'⟩ := q
        simp only [hr, Option.some.injEq, Prod.mk.injEq] at h
        obtain ⟨rfl, rfl⟩ := h
        obtain ⟨v, rest, rfl, h1, h2⟩ := hl
        obtain ⟨g1, g2⟩ := ownRow_sound ho h1
        obtain ⟨h4, h5⟩ := retL_sound (k := k + 1) hr h2
        refine ⟨⟨g1, h4⟩, fun β' σ' hlow hb => ?_⟩
        have h0 := hb 0 _ rfl
        refine ⟨v, rest, rfl, g2 β' σ' k h0.1 h0.2, h5 β' σ' hlow ?_⟩
        intro j y hy
        have := hb (j + 1) y (by simpa [resL] using hy)
        rw [show k + 1 + j = k + (j + 1) by omega]
        simpa [ownB] using this
  | .nvar T t :: r, [], _, _, _, _, h, _ => by simp [retL] at h
  | .nvar T t :: r, l :: ls, k, x, own, us, h, hl => by
    simp only [retL] at h
    cases ho : ownVar σ m T t l with
    | none => simp [ho] at h
    | some q =>
      obtain ⟨a, o⟩ := q
      simp only [ho] at h
      cases hr : retL σ m r ls with
      | none => simp [hr] at h
      | some q =>
        obtain ⟨z, own'⟩ := q
        simp only [hr, Option.some.injEq, Prod.mk.injEq] at h
        obtain ⟨rfl, rfl⟩ := h
        obtain ⟨v, rest, rfl, h1, h2⟩ := hl
        obtain ⟨g1, g2⟩ := ownVar_sound ho h1
        obtain ⟨h4, h5⟩ := retL_sound (k := k + 1) hr h2
        refine ⟨⟨g1, h4⟩, fun β' σ' hlow hb => ?_⟩
        have h0 := hb 0 _ rfl
        refine ⟨v, rest, rfl, g2 β' σ' k h0.1 h0.2, h5 β' σ' hlow ?_⟩
        intro j y hy
        have := hb (j + 1) y (by simpa [resL] using hy)
        rw [show k + 1 + j = k + (j + 1) by omega]
        simpa [ownB] using this
  | .pre p :: r, [], _, _, _, _, h, _ => by simp [retL] at h
  | .pre p :: r, l :: ls, k, x, own, us, h, hl => by
    simp only [retL] at h
    cases ho : preOf σ m p l with
    | none => simp [ho] at h
    | some n =>
      simp only [ho] at h
      cases hr : retL σ m r ls with
      | none => simp [hr] at h
      | some q =>
        obtain ⟨z, own'⟩ := q
        simp only [hr, Option.some.injEq, Prod.mk.injEq] at h
        obtain ⟨rfl, rfl⟩ := h
        obtain ⟨v, rest, rfl, h1, h2⟩ := hl
        obtain ⟨g1, t, xs, g2, g3⟩ := preOf_sound ho h1
        obtain ⟨h4, h5⟩ := retL_sound (k := k) hr h2
        refine ⟨h4, fun β' σ' hlow hb => ?_⟩
        obtain ⟨q1, q2⟩ := hlow p t xs g1 g2
        exact ⟨v, rest, rfl, g3 β' σ' q1 q2, h5 β' σ' hlow hb⟩

theorem resL_news : ∀ {rp : List Rp} {k : Nat} {x : rpDen rp}, (resL k rp x).2.length = newsOf rp
  | [], _, _ => rfl
  | .v _ _ :: r, k, x => by simp only [resL, newsOf]; exact resL_news
  | .pre _ :: r, k, x => by simp only [resL, newsOf]; exact resL_news
  | .new _ :: r, k, x => by simp only [resL, newsOf, List.length_cons]; rw [resL_news]
  | .nvar _ _ :: r, k, x => by simp only [resL, newsOf, List.length_cons]; rw [resL_news]

theorem retAll_sound : ∀ {rs : List (Bool × List Rp)} {vs : List (Bool × List Lf)} {k : Nat} {x : rsDen rs} {own : List (Option Nat)} {us : List Value}, retAll σ m rs vs = some (x, own) → RT I J β σ w vs us →
    OutBoxes m σ (resAll k rs x).2 own ∧ ∀ (β' : Bt) (σ' : Sg), Low m β σ β' σ' → (∀ j y, (resAll k rs x).2[j]? = some y → σ' (k + j) = some y ∧ β' (k + j) = ownB β own j) → RT I J β' σ' w (resAll k rs x).1 us
  | [], [], k, x, own, us, h, hl => by
    simp only [retAll, Option.some.injEq, Prod.mk.injEq] at h
    obtain ⟨_, rfl⟩ := h
    exact ⟨trivial, fun _ _ _ _ => hl⟩
  | [], _ :: _, _, _, _, _, h, _ => by simp [retAll] at h
  | _ :: _, [], _, _, _, _, h, _ => by simp [retAll] at h
  | (ag, rp) :: r, (ag', ls) :: q, k, x, own, us, h, hl => by
    simp only [retAll] at h
    cases hag : ag == ag' && wellL ag' ls with
    | false => simp [hag] at h
    | true =>
    simp only [hag, cond_true] at h
    rw [Bool.and_eq_true] at hag
    obtain ⟨hag, hwl⟩ := hag
    have hag := eq_of_beq hag
    subst hag
    cases h1 : retL σ m rp ls with
    | none => simp [h1] at h
    | some p =>
      obtain ⟨x1, own1⟩ := p
      simp only [h1] at h
      cases h2 : retAll σ m r q with
      | none => simp [h2] at h
      | some p =>
        obtain ⟨x2, own2⟩ := p
        simp only [h2, Option.some.injEq, Prod.mk.injEq] at h
        obtain ⟨rfl, rfl⟩ := h
        obtain ⟨u, us', rfl, h3, h4⟩ := hl
        obtain ⟨h5, h6⟩ := retAll_sound (k := k + newsOf rp) h2 h4
        have key : OutBoxes m σ (resL k rp x1).2 own1 ∧ ∀ (β' : Bt) (σ' : Sg), Low m β σ β' σ' → (∀ j y, (resL k rp x1).2[j]? = some y → σ' (k + j) = some y ∧ β' (k + j) = ownB β own1 j) → RP I J β' σ' w (ag, (resL k rp x1).1) u := by
          cases ag with
          | true =>
            obtain ⟨vs, rfl, h7⟩ := h3
            obtain ⟨h8, h9⟩ := retL_sound (k := k) h1 h7
            exact ⟨h8, fun β' σ' hlow hb => ⟨vs, rfl, h9 β' σ' hlow hb⟩⟩
          | false =>
            match ls, h3, h1, hwl with
            | [x], h3, h1, hwl =>
              obtain ⟨h8, h9⟩ := retL_sound (k := k) (us := [u]) h1 ⟨u, [], rfl, h3, rfl⟩
              refine ⟨h8, fun β' σ' hlow hb => ?_⟩
              have := h9 β' σ' hlow hb
              match (resL k rp x1).1, this with
              | [], _ => exact trivial
              | [y], this => obtain ⟨v, rest, e, h7, _⟩ := this; injection e with e _; subst e; exact h7
              | _ :: _ :: _, _ => exact trivial
            | [], _, _, hwl => simp [wellL] at hwl
            | _ :: _ :: _, _, _, hwl => simp [wellL] at hwl
        obtain ⟨h7, h8⟩ := key
        have hlen := h7.len
        have hnw : (resL k rp x1).2.length = newsOf rp := resL_news
        refine ⟨h7.append h5, fun β' σ' hlow hb => ⟨u, us', rfl, h8 β' σ' hlow ?_, h6 β' σ' hlow ?_⟩⟩
        · intro j y hy
          have hj : j < (resL k rp x1).2.length := (List.getElem?_eq_some_iff.1 hy).1
          have := hb j y (by simp only [resAll]; rw [List.getElem?_append_left hj]; exact hy)
          rwa [show ownB β (own1 ++ own2) j = ownB β own1 j by
            unfold ownB; rw [List.getElem?_append_left (by omega)]] at this
        · intro j y hy
          have := hb ((resL k rp x1).2.length + j) y (by simp only [resAll]; rw [List.getElem?_append_right (by omega)]; simpa using hy)
          rw [hnw] at this
          rw [show k + newsOf rp + j = k + (newsOf rp + j) by omega]
          rwa [show ownB β (own1 ++ own2) (newsOf rp + j) = ownB β own2 j by
            unfold ownB; rw [List.getElem?_append_right (by omega), ← hlen, hnw, Nat.add_sub_cancel_left]] at this

theorem nodup_spec : ∀ {own : List (Option Nat)}, nodup own = true → ∀ {i j b : Nat}, own[i]? = some (some b) → own[j]? = some (some b) → i = j
  | [], _, i, j, b, hi, _ => by simp at hi
  | o :: r, h, i, j, b, hi, hj => by
    have hr : nodup r = true := by
      cases o with
      | none => exact h
      | some c => simp only [nodup, Bool.and_eq_true] at h; exact h.2
    have hno : o = some b → ∀ k : Nat, r[k]? = some (some b) → False := by
      rintro rfl k hk
      simp only [nodup, Bool.and_eq_true, Bool.not_eq_true'] at h
      have := List.any_eq_false.1 h.1 (some b) (List.mem_of_getElem? hk)
      simp [Nat.beq_refl] at this
    cases i with
    | zero =>
      cases j with
      | zero => rfl
      | succ j =>
        simp only [List.getElem?_cons_zero, List.getElem?_cons_succ, Option.some.injEq] at hi hj
        exact (hno hi j hj).elim
    | succ i =>
      cases j with
      | zero =>
        simp only [List.getElem?_cons_zero, List.getElem?_cons_succ, Option.some.injEq] at hi hj
        exact (hno hj i hi).elim
      | succ j =>
        simp only [List.getElem?_cons_succ] at hi hj
        rw [nodup_spec hr hi hj]

end
end Go.Abs
