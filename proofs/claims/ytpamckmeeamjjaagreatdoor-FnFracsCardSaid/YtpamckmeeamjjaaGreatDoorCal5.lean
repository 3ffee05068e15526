/- Calls of known functions: the theorem that the interpreter needs. -/
import Derived.Test.YtpamckmeeamjjaaGreatDoorCal4
namespace Go.Abs
set_option linter.unusedVariables false
set_option linter.unusedSimpArgs false
set_option linter.unusedSectionVars false

section
variable {Fr0 : Fr} {I I' J' : Rg} {β β' : Bt} {σ : Sg} {w w' : World} {get : Sg} {ids lent : List Nat} {fresh : Nat} {l bx σl : List Box}
variable {bs : List (Bs × Bool)} (H : Back Fr0 I I' J' β β' σ w w' get ids lent fresh l bx σl bs)
include H

/-- a box behind the call: the callee's, or as it was -/
theorem Back.cases (b : Nat) : (∃ k x, listF σl k = some x ∧ backF ids fresh k = some b) ∨ (b ∉ ids ∧ (backB β β' ids fresh σl.length) b = β b ∧ (updF (backBoxes (backRen get ids fresh) bs 0 σl) σ) b = σ b) := by
  by_cases h : ∃ k, k < σl.length ∧ backF ids fresh k = some b
  · obtain ⟨k, hk, hb⟩ := h
    exact .inl ⟨k, σl[k], by simp [listF, hk], hb⟩
  · have h' : ∀ k, k < σl.length → backF ids fresh k ≠ some b := fun k hk e => h ⟨k, hk, e⟩
    obtain ⟨h1, h2⟩ := H.b_out h'
    exact .inr ⟨h1, h2, H.out h'⟩

theorem Back.mine {blk : Nat} (h : (frOf w I J' (atIds β ids) bx).mine blk) : ∃ b o, b ∈ ids ∧ liveB (σ b) ∧ β b = some (blk, o) := by
  obtain ⟨k, o, h1, h2⟩ := h
  have h2 : atIds β ids k = some (blk, o) := h2
  unfold atIds at h2
  cases hk : ids[k]? with
  | none => rw [hk] at h2; cases h2
  | some b =>
    rw [hk] at h2
    obtain ⟨x, z, s, y0, g1, g2, g3, g4, g5, g6, g7⟩ := H.get_ids hk
    refine ⟨b, o, List.mem_of_getElem? hk, ?_, h2⟩
    rw [g1]
    apply (live_ren g3).1
    rcases decBox_spec g6 with ⟨T, t, ls, v, rfl, e2, e3⟩ | ⟨t, xs, rfl, e2⟩ | ⟨T, k', rfl, e2, _⟩ <;> trivial

theorem Back.ext : Ext Fr0.J I β σ w I' (backB β β' ids fresh σl.length) (updF (backBoxes (backRen get ids fresh) bs 0 σl) σ) w' := by
  refine ⟨H.call.ext.grow, ?_, ?_, H.call.ext.cap⟩
  · intro b i v hk hc
    exact H.call.ext.stays b i v (hk.imp (fun h => h) fun h => ⟨h.1, H.jJ _ _ h.2⟩) hc
  · intro b x hx
    rcases H.cases b with ⟨k, x', hk, hf⟩ | ⟨h1, h2, h3⟩
    · have hlt : k < σl.length := (List.getElem?_eq_some_iff.1 hk).1
      obtain ⟨b', z, e1, e2, e3, e4⟩ := H.box hk
      rw [hf] at e1; injection e1 with e1; subst e1
      refine ⟨z, e3, ?_⟩
      obtain ⟨b1, f1, c1⟩ := H.f_some hlt
      rw [hf] at f1; injection f1 with f1; subst f1
      rcases c1 with ⟨g1, hid⟩ | ⟨g1, g2⟩
      · obtain ⟨x0, z0, s, y0, q1, q2, q3, q4, q5, q6, q7⟩ := H.get_ids hid
        rw [hx] at q1; injection q1 with q1; subst q1
        have hbase := H.base hid
        rw [q2] at hbase
        have hev := H.call.ext.evo k (boxOf s.1 y0) q7
        obtain ⟨x'', hx'', hev⟩ := hev
        rw [hk] at hx''; injection hx'' with hx''; subst hx''
        have hat : (frOf w I J' (atIds β ids) bx).β0 k = β b := by simp [frOf, atIds, hid]
        rcases decBox_spec q6 with ⟨T, t, ls, v, rfl, p2, p3⟩ | ⟨t, xs, rfl, p2⟩ | ⟨T, k', rfl, p2, _⟩
        · rw [p2] at hev
          cases x with
          | var T0 c0 =>
            simp only [renB, Option.some.injEq, Box.var.injEq] at q3
            cases x' with
            | var T1 c1 =>
              simp only [renB, Option.some.injEq] at e2
              subst e2
              simp only [Evo, hat] at hev ⊢
              exact ⟨q3.1.trans hev.1, by rw [e4, hev.2]⟩
            | row v1 t1 xs1 => simp [Evo] at hev
            | gone => simp [Evo] at hev
          | row cur t0 xs0 => simp only [renB] at q3; split at q3 <;> cases q3
          | gone => simp [renB] at q3
        · rw [p2] at hev
          cases x with
          | var T0 c0 => simp [renB] at q3
          | row cur t0 xs0 =>
            simp only [renB] at q3
            split at q3
            · simp only [Option.some.injEq, Box.row.injEq] at q3
              obtain ⟨rfl, rfl, q3⟩ := q3
              simp only [heq_eq_eq] at q3
              subst q3
              simp only at hbase
              cases x' with
              | var T1 c1 => simp [Evo] at hev
              | row v1 t1 xs1 =>
                simp only [renB, backRen, hbase, Option.some.injEq] at e2
                subst e2
                simp only [Evo, hat] at hev ⊢
                rcases hev with ⟨h1, h2, h3, h4⟩ | h1
                · exact .inl ⟨by omega, h2, h3, by rw [e4, h4]⟩
                · exact .inr (by omega)
              | gone =>
                simp only [renB, Option.some.injEq] at e2
                subst e2
                simp [Evo]
            · cases q3
          | gone => simp [renB] at q3
        · rw [p2] at hev
          cases x with
          | var T0 c0 =>
            simp only [renB, Option.some.injEq, Box.var.injEq] at q3
            cases x' with
            | var T1 c1 =>
              simp only [renB, Option.some.injEq] at e2
              subst e2
              simp only [Evo, hat] at hev ⊢
              exact ⟨q3.1.trans hev.1, by rw [e4, hev.2]⟩
            | row v1 t1 xs1 => simp [Evo] at hev
            | gone => simp [Evo] at hev
          | row cur t0 xs0 => simp only [renB] at q3; split at q3 <;> cases q3
          | gone => simp [renB] at q3
      · rw [H.fresh_none (b := b) (by omega) (by omega)] at hx
        cases hx
    · refine ⟨x, by rw [h3, hx], ?_⟩
      cases x with
      | var T c => exact ⟨rfl, h2⟩
      | row v t xs => exact .inl ⟨rfl, rfl, rfl, h2⟩
      | gone => trivial

theorem Back.live {b : Nat} (hl : liveB ((updF (backBoxes (backRen get ids fresh) bs 0 σl) σ) b)) {q : Nat × Nat} (hb : (backB β β' ids fresh σl.length) b = some q) :
    (∃ k, backF ids fresh k = some b ∧ liveB (listF σl k) ∧ β' k = some q) ∨ (b ∉ ids ∧ liveB (σ b) ∧ β b = some q) := by
  rcases H.cases b with ⟨k, x', hk, hf⟩ | ⟨h1, h2, h3⟩
  · obtain ⟨b', z, e1, e2, e3, e4⟩ := H.box hk
    rw [hf] at e1; injection e1 with e1; subst e1
    rw [e3] at hl
    rw [e4] at hb
    exact .inl ⟨k, hf, by rw [hk]; exact (live_ren e2).1 hl, hb⟩
  · rw [h3] at hl
    rw [h2] at hb
    exact .inr ⟨h1, hl, hb⟩

/-- a block of a box that was not handed over -/
theorem Back.other {b blk o : Nat} (h1 : b ∉ ids) (h2 : liveB (σ b)) (h3 : β b = some (blk, o)) : blk < w.heap.size ∧ ¬ (frOf w I J' (atIds β ids) bx).mine blk := by
  refine ⟨H.inv.good.lt h2 h3, fun hm => ?_⟩
  obtain ⟨b', o', g1, g2, g3⟩ := H.mine hm
  have := H.inv.good.inj b b' blk o o' h2 g2 h3 g3
  subst this
  exact h1 g1

theorem Back.good : Good I' Fr0.J (backB β β' ids fresh σl.length) (updF (backBoxes (backRen get ids fresh) bs 0 σl) σ) w' := by
  have hE := H.ext
  have hG := H.inv.good
  have hC := H.call.good
  refine ⟨?_, ?_, ?_, ?_⟩
  · intro b x hx
    rcases H.cases b with ⟨k, x', hk, hf⟩ | ⟨h1, h2, h3⟩
    · obtain ⟨b', z, e1, e2, e3, e4⟩ := H.box hk
      rw [hf] at e1; injection e1 with e1; subst e1
      rw [e3] at hx; injection hx with hx; subst hx
      have hb := hC.box k x' hk
      have hb' : RB I' Fr0.J β' (listF σl) w' k x' := by
        refine chJ_rb (fun hbor => ?_) hb
        rcases H.bor with h | h
        · exact h
        · have := List.any_eq_false.1 h x' (List.mem_of_getElem? hk)
          exact absurd hbor this
      exact H.ren.rb hf hk e2 hb'
    · rw [h3] at hx
      have hb := hG.box b x hx
      have hheap : ∀ blk o, liveB (some x) → β b = some (blk, o) → w'.heap[blk]? = w.heap[blk]? := by
        intro blk o hl hbb
        obtain ⟨q1, q2⟩ := H.other h1 (by rw [hx]; exact hl) hbb
        exact H.call.keep blk q1 q2
      cases x with
      | var T cells =>
        obtain ⟨blk, vs, g1, g2, g3⟩ := hb
        exact ⟨blk, vs, by rw [h2, g1], by rw [hheap blk 0 trivial g1]; exact g2, hE.rls g3⟩
      | row v t xs =>
        rcases hb with ⟨g1, g2⟩ | ⟨blk, o, C, E, g1, g2, g3⟩
        · exact .inl ⟨g1, by rw [h2]; exact g2⟩
        · refine .inr ⟨blk, o, C, E, by rw [h2]; exact g1, by rw [hheap blk o trivial g1]; exact g2, ?_⟩
          intro i y hy
          obtain ⟨vs, g4, g5⟩ := g3 i y hy
          exact ⟨vs, hE.rd g4, g5⟩
      | gone => trivial
  · intro b b' blk o o' hl hl' hb hb'
    rcases H.live hl hb with ⟨k, f1, l1, c1⟩ | ⟨n1, l1, c1⟩ <;> rcases H.live hl' hb' with ⟨k', f2, l2, c2⟩ | ⟨n2, l2, c2⟩
    · have := hC.inj k k' blk o o' l1 l2 c1 c2
      subst this
      rw [f1] at f2; injection f2
    · obtain ⟨q1, q2⟩ := H.other n2 l2 c2
      rcases H.call.bNew k blk o l1 c1 with g | g
      · have : w.heap.size ≤ blk := g
        omega
      · exact absurd g q2
    · obtain ⟨q1, q2⟩ := H.other n1 l1 c1
      rcases H.call.bNew k' blk o' l2 c2 with g | g
      · have : w.heap.size ≤ blk := g
        omega
      · exact absurd g q2
    · exact hG.inj b b' blk o o' l1 l2 c1 c2
  · intro b blk o i hl hb
    rcases H.live hl hb with ⟨k, f1, l1, c1⟩ | ⟨n1, l1, c1⟩
    · have := hC.sep k blk o i l1 c1
      exact ⟨this.1, fun hj => this.2 (H.jJ _ _ hj)⟩
    · have := hG.sep b blk o i l1 c1
      obtain ⟨q1, q2⟩ := H.other n1 l1 c1
      refine ⟨fun hi => ?_, this.2⟩
      rcases H.call.iNew blk i hi with g | g | g
      · exact this.1 g
      · have : w.heap.size ≤ blk := g
        omega
      · exact q2 g
  · intro blk i hk
    exact hC.bnd blk i (hk.imp (fun h => h) (H.jJ _ _))

theorem Back.done : Inv Fr0 I' (backB β β' ids fresh σl.length) (updF (backBoxes (backRen get ids fresh) bs 0 σl) σ) w' := by
  have hE := H.ext
  have hmine : ∀ {blk}, (frOf w I J' (atIds β ids) bx).mine blk → Fr0.w0.heap.size ≤ blk ∨ Fr0.mine blk := by
    intro blk h
    obtain ⟨b, o, _, g2, g3⟩ := H.mine h
    exact H.inv.bNew b blk o g2 g3
  have hnew : ∀ {blk}, w.heap.size ≤ blk ∨ (frOf w I J' (atIds β ids) bx).mine blk → Fr0.w0.heap.size ≤ blk ∨ Fr0.mine blk := by
    intro blk h
    rcases h with h | h
    · exact .inl (Nat.le_trans H.inv.size h)
    · exact hmine h
  refine ⟨H.good, H.inv.ext.trans hE, Nat.le_trans H.inv.size H.call.size, ?_, ?_, ?_, H.inv.same.trans H.call.same⟩
  · intro blk hb hm
    have h1 : w'.heap[blk]? = w.heap[blk]? := by
      refine H.call.keep blk (Nat.lt_of_lt_of_le hb H.inv.size) fun h => ?_
      rcases hmine h with h | h
      · omega
      · exact hm h
    rw [h1, H.inv.keep blk hb hm]
  · intro blk i hi
    rcases H.call.iNew blk i hi with g | g
    · exact H.inv.iNew blk i g
    · exact .inr (hnew g)
  · intro b blk o hl hb
    rcases H.live hl hb with ⟨k, f1, l1, c1⟩ | ⟨n1, l1, c1⟩
    · exact hnew (H.call.bNew k blk o l1 c1)
    · exact H.inv.bNew b blk o l1 c1
end

theorem findF_some {get : Nat → Option Box} {g : Nat} {args : List PV} : ∀ {C : List Fun} {F : Fun}, findF get g args C = some F → F ∈ C ∧ F.id = g
  | [], F, h => by simp [findF] at h
  | G :: C, F, h => by
    simp only [findF] at h
    cases hb : Nat.beq G.id g && fitsSp get G.sp args with
    | true =>
      simp only [hb, cond_true, Option.some.injEq] at h
      subst h
      rw [Bool.and_eq_true] at hb
      exact ⟨by simp, Nat.eq_of_beq_eq_true hb.1⟩
    | false =>
      simp only [hb, cond_false] at h
      obtain ⟨h1, h2⟩ := findF_some h
      exact ⟨by simp [h1], h2⟩

theorem calls1 {P : Program} [Laid P] {C : List Fun} (hC : ∀ F ∈ C, FunOk P F) : Calls1 P C := by
  intro X get fresh g args K x h
  unfold runCall at h
  split at h
  · cases h
  · rename_i F hF
    obtain ⟨hmem, rfl⟩ := findF_some hF
    obtain ⟨hfn, hcall⟩ := hC F hmem
    split at h
    · cases h
    · rename_i args' lent hprep
      simp only at h
      generalize hids : reach get (reach get (addIds (args'.flatMap refsV) [])) = ids at h
      have hn : ids.Nodup := by
        rw [← hids]
        exact reach_nodup (reach_nodup (addIds_nodup (by simp)))
      split at h
      · cases h
      · rename_i l hl
        split at h
        · rename_i xx yy hxx hyy
          cases hc1 : disjoint lent ids && natsEq (reach get ids) ids with
          | false => simp [hc1] at h
          | true =>
            rw [hc1, cond_true] at h
            rw [Bool.and_eq_true] at hc1
            have hdis := disjoint_spec hc1.1
            cases hr : F.f xx yy with
            | none => simp [hr] at h
            | some r =>
              rw [hr] at h
              simp only [Option.bind_some] at h
              generalize henc : encR F yy r = q at h
              obtain ⟨v, σl⟩ := q
              simp only at h
              cases hc2 : Nat.ble σl.length (ids.length + width) && freeFrom get fresh (σl.length - ids.length) && (natsEq lent [] || (!(borV v) && !(σl.any borB))) with
              | false => rw [hc2, cond_false] at h; cases h
              | true =>
                rw [hc2, cond_true] at h
                simp only [Bool.and_eq_true, Bool.or_eq_true, Bool.not_eq_true'] at hc2
                obtain ⟨⟨_, hfree⟩, hbor⟩ := hc2
                refine ⟨_, h, ?_⟩
                intro Fr0 I β σ w vs hfl hI hrd hv
                simp only at hrd
                have hJ : ∀ b i, Fr0.J b i → lentJ Fr0.J β σ lent b i := fun _ _ h => .inl h
                have hlent : ∀ b ∈ lent, σ b = get b ∧ ∀ blk o, liveB (σ b) → β b = some (blk, o) → ∀ i, lentJ Fr0.J β σ lent blk i := by
                  intro b hb
                  exact ⟨hrd b (by simp [hb]), fun blk o h1 h2 i => .inr ⟨b, hb, o, h1, h2⟩⟩
                have hg : ∀ b ∈ ids, σ b = get b := fun b hb => hrd b (by simp [hb])
                have hv' := prep_sound hI.good hJ hprep hlent hv
                have hRen : RenOk (canonRen 0 ids get) β σ (atIds β ids) (listF l) := down_ren hg hl
                have hG0 : Good I (lentJ Fr0.J β σ lent) (atIds β ids) (listF l) w := by
                  have h0 := down_good (m := 0) hI.good hn hg hl
                  refine ⟨?_, h0.inj, ?_, ?_⟩
                  · intro b x hx
                    exact chJ_rb (fun _ => hJ) (h0.box b x hx)
                  · intro k blk o i hk hb
                    obtain ⟨s1, s2⟩ := h0.sep k blk o i hk hb
                    refine ⟨s1, ?_⟩
                    rintro (hj | ⟨b, hb1, o', hb2, hb3⟩)
                    · exact s2 hj
                    · unfold atIds at hb
                      cases hid : ids[k]? with
                      | none => rw [hid] at hb; cases hb
                      | some b' =>
                        rw [hid] at hb
                        obtain ⟨z, hz⟩ := liveB_some hk
                        obtain ⟨x0, z0, e1, e2, e3⟩ := (localBoxes_at hl).2 k b' hid
                        have : listF l k = some z0 := e3
                        have hl' : liveB (σ b') := by
                          rw [hg b' (List.mem_of_getElem? hid), e1]
                          exact (live_ren e2).1 (this ▸ hk)
                        have := hI.good.inj b b' blk o' o hb2 hl' hb3 hb
                        subst this
                        exact hdis b hb1 (List.mem_of_getElem? hid)
                  · rintro blk i (hi | hj | ⟨b, hb1, o', hb2, hb3⟩)
                    · exact hI.good.bnd blk i (.inl hi)
                    · exact hI.good.bnd blk i (.inr hj)
                    · exact hI.good.lt hb2 hb3
                obtain ⟨hG1, hE1⟩ := dec_good hyy hG0
                have hargs : RVs I (lentJ Fr0.J β σ lent) (atIds β ids) (listF (boxesOf F.bs yy)) w (argsOf F.sp xx) vs := decArgs_rvs hxx (hE1.rvs (hRen.rvs hv'))
                refine ⟨hfn, (hcall xx yy r hr w I _ _ vs hG1 (fun blk i hb => hJ blk i (hfl.inJ blk i hb)) (hI.laid hfl) hargs).mono ?_⟩
                rintro ex w' ⟨u, rfl, I', β', hInv, hu⟩
                rw [henc] at hInv hu
                obtain ⟨hdl, hdat⟩ := decBoxes_at hyy
                have H : Back Fr0 I I' (lentJ Fr0.J β σ lent) β β' σ w w' get ids lent fresh l (boxesOf F.bs yy) σl F.bs := by
                  refine ⟨hI, hn, hrd, hl, ?_, hdat, ?_, ?_, hfree, hJ, ?_, hInv⟩
                  · rw [← hdl, (localBoxes_at hl).1]
                  · rw [boxesOf_len, ← hdl, (localBoxes_at hl).1]
                  · intro k s hk
                    have := encR_low (x := yy) (r := r) hk
                    rw [henc] at this
                    exact this
                  · rcases hbor with hb | hb
                    · have := natsEq_eq hb
                      subst this
                      refine .inl ?_
                      rintro b i (hj | ⟨b', hb', _⟩)
                      · exact hj
                      · cases hb'
                    · exact .inr hb.2
                refine ⟨u, rfl, I', _, H.done, H.ext, ?_⟩
                refine H.ren.rv (chJ_rv ?_ hu)
                intro hb
                rcases hbor with hb' | hb'
                · have := natsEq_eq hb'
                  subst this
                  rintro b i (hj | ⟨b', hb', _⟩)
                  · exact hj
                  · cases hb'
                · rw [hb'.1] at hb; cases hb
        · cases h

theorem callsOk {P : Program} [Laid P] {C : List Fun} (hC : ∀ F ∈ C, FunOk P F) : CallsOk P C :=
  ⟨calls1 hC, calls1 fun F h => by
    rcases List.mem_append.1 h with h | h
    · exact hC F (List.mem_filter.1 h).1
    · exact hC F h⟩
end Go.Abs
