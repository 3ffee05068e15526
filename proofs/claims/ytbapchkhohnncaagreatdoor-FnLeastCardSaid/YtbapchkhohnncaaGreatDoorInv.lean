import Derived.Test.YtbapchkhohnncaaGreatDoorRep
import Derived.Laws.Rows
import Derived.Laws.CopyRow
import Derived.Laws.Append
import Derived.Laws.MakeOwn
import Derived.Laws.IdiomCopy
import Derived.ChangeKeysEq
set_option linter.unusedSimpArgs false
set_option linter.unusedSectionVars false
set_option linter.unusedVariables false
namespace Go.Abs
def setF (σ:Sg) (b:Nat) (x:Box):Sg:=fun c=>if c=b then some x else σ c
def setB (β:Bt) (b:Nat) (v:Option (Nat×Nat)):Bt:=fun c=>if c=b then v else β c
@[simp] theorem Z367 (σ:Sg) (b:Nat) (x:Box):setF σ b x b=some x:=by simp [setF]
theorem Z712 (σ:Sg) {b c:Nat} (x:Box) (h:c≠b):setF σ b x c=σ c:=by simp [setF,h]
@[simp] theorem Z365 (β:Bt) (b:Nat) (v:Option (Nat×Nat)):setB β b v b=v:=by simp [setB]
theorem Z711 (β:Bt) {b c:Nat} (v:Option (Nat×Nat)) (h:c≠b):setB β b v c=β c:=by simp [setB,h]
theorem Z586 {w w':World} {b:Nat} (h:w'.heap[b]?=w.heap[b]?) (i:Nat):w'.cell? ⟨b,i,none⟩=w.cell? ⟨b,i,none⟩:=by
 simp [World.cell?,h]
theorem Z584 {w:World} {b:Nat} {C:Array Value} {E:TypeId} {fr:Nat×Nat} (h:w.heap[b]?=some (Obj.cells C E fr)) (i:Nat):w.cell? ⟨b,i,none⟩=C[i]?:=by
 simp [World.cell?,h]
theorem Z222 {w:World} {b:Nat} {o:Obj} (h:w.heap[b]?=some o):b < w.heap.size:=by
 rcases Nat.lt_or_ge b w.heap.size with h' | h'
 ·exact h'
 ·simp [Array.getElem?_eq_none h'] at h
structure Same (w w':World):Prop where
 os:w'.os=w.os
 tape:w'.tape=w.tape
 output:w'.output=w.output
theorem Same.refl (w:World):Same w w:=⟨rfl,rfl,rfl⟩
theorem Same.trans {w w' w'':World} (h:Same w w') (h':Same w' w''):Same w w'':=⟨h'.os.trans h.os,h'.tape.trans h.tape,h'.output.trans h.output⟩
structure WStep (own:Nat→Prop) (w w':World):Prop where
 size:w.heap.size≤w'.heap.size
 keep:∀ blk,blk < w.heap.size→¬ own blk→w'.heap[blk]?=w.heap[blk]?
 cap:Z563 w w'
 same:Same w w'
theorem WStep.refl (own:Nat→Prop) (w:World):WStep own w w:=⟨Nat.le_refl _,fun _ _ _=>rfl,.refl w,⟨rfl,rfl,rfl⟩⟩
theorem WStep.drew (own:Nat→Prop) (w:World) (n:Nat):WStep own w { w with drawn:=n }:=⟨Nat.le_refl _,fun _ _ _=>rfl,.refl w,⟨rfl,rfl,rfl⟩⟩
theorem WStep.trans {own:Nat→Prop} {w w' w'':World} (h:WStep own w w') (h':WStep own w' w''):WStep own w w'' :=
 ⟨Nat.le_trans h.size h'.size,fun blk hb hn=>(h'.keep blk (Nat.lt_of_lt_of_le hb h.size) hn).trans (h.keep blk hb hn),h.cap.trans h'.cap,h.same.trans h'.same⟩
theorem WStep.alloc (own:Nat→Prop) (w:World) (o:Obj):WStep own w (w.alloc o):=by
 refine ⟨by simp,fun blk hb _=>heap_alloc_old w o blk hb,?_,⟨rfl,rfl,rfl⟩⟩
 intro blk C E fr h
 exact ⟨C,by rw [heap_alloc_old w o blk (Z222 h)]; exact h,rfl⟩
theorem WStep.setRow {own:Nat→Prop} {w:World} {g:Nat} {C C':Array Value} {E:TypeId} {fr:Nat×Nat} (hg:w.heap[g]?=some (Obj.cells C E fr)) (ho:own g) (hs:C'.size=C.size) :
  WStep own w (w.setRow g C'):=by
 refine ⟨by simp,fun blk hb hn=>setRow_other w g blk C' (fun e=>hn (e ▸ ho)),?_,⟨rfl,rfl,rfl⟩⟩
 intro blk D E' fr' h
 by_cases e:blk=g
 ·subst e
  rw [hg] at h
  injection h with h
  injection h with h1 h2 h3
  subst h1; subst h2; subst h3
  exact ⟨C',setRow_heap w blk C C' E fr hg,hs⟩
 ·exact ⟨D,by rw [setRow_other w g blk C' e]; exact h,rfl⟩
section
variable {J I:Rg} {β:Bt} {σ:Sg} {w w':World}
theorem RB.lt {b:Nat} {x:Box} (h:RB I J β σ w b x) (hl:liveB (some x)) {blk o:Nat} (hb:β b=some (blk,o)):blk < w.heap.size:=by
 cases x with
 | var T cells =>
  obtain ⟨blk',vs,h1,h2,_⟩:=h
  rw [hb] at h1; injection h1 with h1; injection h1 with h1 _; subst h1
  exact Z222 h2
 | row ver t xs =>
  rcases h with ⟨_,h⟩ | ⟨blk',o',C,E,h1,h2,_⟩
  ·rw [hb] at h; cases h
  ·rw [hb] at h1; injection h1 with h1; injection h1 with h1 _; subst h1
   exact Z222 h2
 | pool ver t pos inn =>
  rcases h with ⟨_,h⟩ | ⟨blk',o',C,E,h1,h2,_⟩
  ·rw [hb] at h; cases h
  ·rw [hb] at h1; injection h1 with h1; injection h1 with h1 _; subst h1
   exact Z222 h2
 | gone=>exact hl.elim
theorem Z218 {o:Option Box} (h:liveB o):∃ x,o=some x:=by
 cases o with
 | none=>exact h.elim
 | some x=>exact ⟨x,rfl⟩
theorem Good.lt (h:Good I J β σ w) {b blk o:Nat} (hl:liveB (σ b)) (hb:β b=some (blk,o)):blk < w.heap.size:=by
 obtain ⟨x,hx⟩:=Z218 hl
 exact (h.box b x hx).lt (hx ▸ hl) hb
theorem Good.stays (h:Good I J β σ w) {own:Nat→Prop} (hs:WStep own w w') (ho:∀ blk,own blk→∃ b o,liveB (σ b)∧β b=some (blk,o)):Stays (both I J true) w w':=by
 intro blk i v hk hc
 have hk':I blk i∨J blk i:=hk.imp id (·.2)
 have hn:¬ own blk:=by
  intro hown
  obtain ⟨b,o,hl,hb⟩:=ho blk hown
  have:=h.sep b blk o i hl hb
  exact hk'.elim this.1 this.2
 rw [Z586 (hs.keep blk (h.bnd blk i hk') hn)]
 exact hc
theorem Good.change (h:Good I J β σ w) {b:Nat} {x':Box} {bv:Option (Nat×Nat)} {own:Nat→Prop} (hs:WStep own w w')
  (ho:∀ blk,own blk→liveB (σ b)∧∃ o,β b=some (blk,o))
  (hevo:∀ x,σ b=some x→Evo β (setB β b bv) b x x')
  (hbv:∀ blk o,bv=some (blk,o)→w.heap.size≤blk∨(liveB (σ b)∧∃ o',β b=some (blk,o')))
  (hrb:Ext J I β σ w I (setB β b bv) (setF σ b x') w'→RB I J (setB β b bv) (setF σ b x') w' b x') :
  Good I J (setB β b bv) (setF σ b x') w'∧Ext J I β σ w I (setB β b bv) (setF σ b x') w':=by
 have hE:Ext J I β σ w I (setB β b bv) (setF σ b x') w':=by
  refine ⟨fun _ _ h=>h,h.stays hs (fun blk ho'=>⟨b,(ho blk ho').2.elim fun o e=>⟨o,(ho blk ho').1,e⟩⟩),?_,hs.cap⟩
  intro c x hx
  by_cases e:c=b
  ·subst e; exact ⟨x',by simp,hevo x hx⟩
  ·refine ⟨x,by rw [Z712 _ _ e]; exact hx,?_⟩
   cases x <;> simp [Evo,Z711 _ _ e]
 have hlt:∀ c blk o,c≠b→liveB (setF σ b x' c)→setB β b bv c=some (blk,o)→liveB (σ c)∧β c=some (blk,o)∧blk < w.heap.size:=by
  intro c blk o e hl hb
  rw [Z712 _ _ e] at hl
  rw [Z711 _ _ e] at hb
  exact ⟨hl,hb,h.lt hl hb⟩
 have hapart:∀ c blk o o',c≠b→liveB (σ c)→β c=some (blk,o)→bv=some (blk,o')→False:=by
  intro c blk o o' e hl hb hv
  rcases hbv blk o' hv with h1 | ⟨h1,o'',h2⟩
  ·exact absurd (h.lt hl hb) (by omega)
  ·exact e (h.inj c b blk o o'' hl h1 hb h2)
 refine ⟨⟨?_,?_,?_,?_⟩,hE⟩
 ·intro c x hx
  by_cases e:c=b
  ·subst e
   simp at hx; subst hx
   exact hrb hE
  ·rw [Z712 _ _ e] at hx
   have hb0:=h.box c x hx
   have hheap:∀ blk o,liveB (some x)→β c=some (blk,o)→w'.heap[blk]?=w.heap[blk]?:=by
    intro blk o hl hb
    refine hs.keep blk (h.lt (hx ▸ hl) hb) ?_
    intro hown
    obtain ⟨hl',o',hb'⟩:=ho blk hown
    exact e (h.inj c b blk o o' (hx ▸ hl) hl' hb hb')
   cases x with
   | var T cells =>
    obtain ⟨blk,vs,h1,h2,h3⟩:=hb0
    exact ⟨blk,vs,by rw [Z711 _ _ e]; exact h1,by rw [hheap blk 0 trivial h1]; exact h2,hE.rls h3⟩
   | row ver t xs =>
    rcases hb0 with ⟨h1,h2⟩ | ⟨blk,o,C,E,h1,h2,h3⟩
    ·exact .inl ⟨h1,by rw [Z711 _ _ e]; exact h2⟩
    ·refine .inr ⟨blk,o,C,E,by rw [Z711 _ _ e]; exact h1,by rw [hheap blk o trivial h1]; exact h2,?_⟩
     intro i y hy
     obtain ⟨vs,h4,h5⟩:=h3 i y hy
     exact ⟨vs,hE.rd h4,h5⟩
   | pool ver t pos inn =>
    rcases hb0 with ⟨h1,h2⟩ | ⟨blk,o,C,E,h1,h2,h3⟩
    ·exact .inl ⟨h1,by rw [Z711 _ _ e]; exact h2⟩
    ·refine .inr ⟨blk,o,C,E,by rw [Z711 _ _ e]; exact h1,by rw [hheap blk o trivial h1]; exact h2,?_⟩
     intro i p hp
     obtain ⟨v,h4,h5⟩:=h3 i p hp
     exact ⟨v,h4,hE.rl h5⟩
   | gone=>trivial
 ·intro c c' blk o o' hl hl' hb hb'
  by_cases e:c=b
  ·by_cases e':c'=b
   ·rw [e,e']
   ·subst e
    obtain ⟨h1,h2,_⟩:=hlt c' blk o' e' hl' hb'
    simp at hb
    exact (hapart c' blk o' o e' h1 h2 hb).elim
  ·obtain ⟨h1,h2,_⟩:=hlt c blk o e hl hb
   by_cases e':c'=b
   ·subst e'
    simp at hb'
    exact (hapart c blk o o' e h1 h2 hb').elim
   ·obtain ⟨h3,h4,_⟩:=hlt c' blk o' e' hl' hb'
    exact h.inj c c' blk o o' h1 h3 h2 h4
 ·intro c blk o i hl hb
  by_cases e:c=b
  ·subst e
   simp at hb
   rcases hbv blk o hb with h1 | ⟨h1,o',h2⟩
   ·exact ⟨fun hi=>absurd (h.bnd blk i (.inl hi)) (by omega),fun hj=>absurd (h.bnd blk i (.inr hj)) (by omega)⟩
   ·exact h.sep c blk o' i h1 h2
  ·obtain ⟨h1,h2,_⟩:=hlt c blk o e hl hb
   exact h.sep c blk o i h1 h2
 ·intro blk i hk
  exact Nat.lt_of_lt_of_le (h.bnd blk i hk) hs.size
theorem Good.step (h:Good I J β σ w) (hs:WStep (fun _=>False) w w'):Good I J β σ w'∧Ext J I β σ w I β σ w':=by
 have hE:Ext J I β σ w I β σ w' :=
  ⟨fun _ _ h=>h,h.stays hs (fun _ h=>h.elim),fun b x hx=>⟨x,hx,.refl β b x⟩,hs.cap⟩
 refine ⟨⟨?_,h.inj,h.sep,fun blk i hk=>Nat.lt_of_lt_of_le (h.bnd blk i hk) hs.size⟩,hE⟩
 intro c x hx
 have hb0:=h.box c x hx
 cases x with
 | var T cells =>
  obtain ⟨blk,vs,h1,h2,h3⟩:=hb0
  exact ⟨blk,vs,h1,by rw [hs.keep blk (Z222 h2) (fun h=>h)]; exact h2,hE.rls h3⟩
 | row ver t xs =>
  rcases hb0 with h1 | ⟨blk,o,C,E,h1,h2,h3⟩
  ·exact .inl h1
  ·refine .inr ⟨blk,o,C,E,h1,by rw [hs.keep blk (Z222 h2) (fun h=>h)]; exact h2,?_⟩
   intro i y hy
   obtain ⟨vs,h4,h5⟩:=h3 i y hy
   exact ⟨vs,hE.rd h4,h5⟩
 | pool ver t pos inn =>
  rcases hb0 with h1 | ⟨blk,o,C,E,h1,h2,h3⟩
  ·exact .inl h1
  ·refine .inr ⟨blk,o,C,E,h1,by rw [hs.keep blk (Z222 h2) (fun h=>h)]; exact h2,?_⟩
   intro i p hp
   obtain ⟨v,h4,h5⟩:=h3 i p hp
   exact ⟨v,h4,hE.rl h5⟩
 | gone=>trivial
def rowRg (β:Bt) (b n:Nat):Rg:=fun blk i=>∃ o,β b=some (blk,o)∧o≤i∧i < o+n
theorem Good.freeze (h:Good I J β σ w) {b ver:Nat} {t:Tc} {xs:List t.den} (hb:σ b=some (.row ver t xs)) :
  Good (fun blk i=>I blk i∨rowRg β b (xs.length*t.sz) blk i) J β (setF σ b .gone) w ∧
  Ext J I β σ w (fun blk i=>I blk i∨rowRg β b (xs.length*t.sz) blk i) β (setF σ b .gone) w:=by
 have hlb:liveB (σ b):=by rw [hb]; trivial
 have hE:Ext J I β σ w (fun blk i=>I blk i∨rowRg β b (xs.length*t.sz) blk i) β (setF σ b .gone) w:=by
  refine ⟨fun _ _ h=>.inl h,fun _ _ _ _ h=>h,?_,.refl w⟩
  intro c x hx
  by_cases e:c=b
  ·subst e
   refine ⟨.gone,by simp,?_⟩
   rw [hb] at hx; injection hx with hx; subst hx; trivial
  ·exact ⟨x,by rw [Z712 _ _ e]; exact hx,.refl β c x⟩
 have hlive:∀ c,liveB (setF σ b .gone c)→c≠b∧liveB (σ c):=by
  intro c hl
  by_cases e:c=b
  ·subst e; simp at hl; exact hl.elim
  ·rw [Z712 _ _ e] at hl; exact ⟨e,hl⟩
 refine ⟨⟨?_,?_,?_,?_⟩,hE⟩
 ·intro c x hx
  by_cases e:c=b
  ·subst e; simp at hx; subst hx; trivial
  ·rw [Z712 _ _ e] at hx
   have hb0:=h.box c x hx
   cases x with
   | var T cells =>
    obtain ⟨blk,vs,h1,h2,h3⟩:=hb0
    exact ⟨blk,vs,h1,h2,hE.rls h3⟩
   | row ver t xs =>
    rcases hb0 with h1 | ⟨blk,o,C,E,h1,h2,h3⟩
    ·exact .inl h1
    ·refine .inr ⟨blk,o,C,E,h1,h2,?_⟩
     intro i y hy
     obtain ⟨vs,h4,h5⟩:=h3 i y hy
     exact ⟨vs,hE.rd h4,h5⟩
   | pool ver t pos inn =>
    rcases hb0 with h1 | ⟨blk,o,C,E,h1,h2,h3⟩
    ·exact .inl h1
    ·refine .inr ⟨blk,o,C,E,h1,h2,?_⟩
     intro i p hp
     obtain ⟨v,h4,h5⟩:=h3 i p hp
     exact ⟨v,h4,hE.rl h5⟩
   | gone=>trivial
 ·intro c c' blk o o' hl hl' hc hc'
  exact h.inj c c' blk o o' (hlive c hl).2 (hlive c' hl').2 hc hc'
 ·intro c blk o i hl hc
  obtain ⟨e,hl'⟩:=hlive c hl
  refine ⟨?_,(h.sep c blk o i hl' hc).2⟩
  rintro (hi | ⟨o',h1,_⟩)
  ·exact (h.sep c blk o i hl' hc).1 hi
  ·exact e (h.inj c b blk o o' hl' hlb hc h1)
 ·rintro blk i ((hi | ⟨o,h1,_⟩) | hj)
  ·exact h.bnd blk i (.inl hi)
  ·exact h.lt hlb h1
  ·exact h.bnd blk i (.inr hj)
theorem Good.rowAt (h:Good I J β σ w) {b ver:Nat} {t:Tc} {xs:List t.den} (hb:σ b=some (.row ver t xs)) {blk o:Nat} (hbb:β b=some (blk,o)) {K:Rg}
  (hK:∀ i,o≤i→i < o+xs.length*t.sz→K blk i):RowAt K t.sz (RD I w t) w xs ⟨blk,o,none⟩:=by
 intro i x hx
 rcases h.box b _ hb with ⟨h1,h2⟩ | ⟨blk',o',C,E,h1,h2,h3⟩
 ·rw [h2] at hbb; cases hbb
 ·rw [hbb] at h1; injection h1 with h1; injection h1 with e1 e2; subst e1; subst e2
  obtain ⟨vs,h4,h5⟩:=h3 i x hx
  refine ⟨vs,h4,h4.len,?_⟩
  intro j v hv
  have hj:j < t.sz:=by
   rw [← h4.len]
   rcases Nat.lt_or_ge j vs.length with h' | h'
   ·exact h'
   ·simp [List.getElem?_eq_none h'] at hv
  have hi:i < xs.length:=by
   rcases Nat.lt_or_ge i xs.length with h' | h'
   ·exact h'
   ·simp [List.getElem?_eq_none h'] at hx
  refine ⟨hK _ (by simp; omega) ?_,by rw [Z584 h2]; exact h5 j v hv⟩
  have:(i+1)*t.sz≤xs.length*t.sz:=Nat.mul_le_mul_right _ hi
  rw [Nat.succ_mul] at this
  simp only
  omega
theorem RowAt.view {α:Type} {K:Rg} {n:Nat} {rd:α→List Value→Prop} {w:World} {xs:List α} {a:Addr} (h:RowAt K n rd w xs a) (off m:Nat) :
  RowAt K n rd w ((xs.drop off).take m) ⟨a.block,a.off+off*n,none⟩:=by
 intro i x hx
 rw [List.getElem?_take] at hx
 split at hx
 ·rw [List.getElem?_drop] at hx
  obtain ⟨vs,h1,h2,h3⟩:=h (off+i) x hx
  refine ⟨vs,h1,h2,fun j v hv=>?_⟩
  have:=h3 j v hv
  rw [show a.off+(off+i)*n+j=a.off+off*n+i*n+j by rw [Nat.add_mul]; omega] at this
  exact this
 ·cases hx
end
end Go.Abs
