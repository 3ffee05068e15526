import Derived.Test.YtbapchkhohnncaaGreatDoorTab
import Derived.ChangeArms
import Derived.OpenShut
set_option linter.unusedSimpArgs false
set_option linter.unusedSectionVars false
set_option linter.unusedVariables false
namespace Go.Abs
def WfD:(t:Tc)→t.den→Prop
 | .int k,n=>(Lit.int k n).wf=true
 | .bool,_=>True
 | .str,s=>s.size≤maxLen
 | .list t,xs=>xs.length≤maxLen∧∀ x∈xs,WfD t x
 | .pair a b,x=>WfD a x.1∧WfD b x.2
 | .unit,_=>True
 | .nil,_=>False
def allRg (w:World):Rg:=fun b _=>b < w.heap.size
section
variable {H:Type} {enc:TypeId×Value→H} {P:Program} {w:World} {base:Nat} {spare:Nat→Bool} {held:Bool}
theorem Z658 {α β:Type} {f:α→Option β}:∀ {l:List α} {r:List β},l.mapM f=some r→r.length=l.length∧∀ (i:Nat) (x:α),l[i]?=some x→∃ y,r[i]?=some y∧f x=some y
 | [],r,h=>by simp at h; subst h; exact ⟨rfl,fun i x h=>by simp at h⟩
 | a :: l,r,h=>by
  rw [List.mapM_cons] at h
  cases h1:f a with
  | none=>simp [h1] at h
  | some b =>
   cases h2:l.mapM f with
   | none=>simp [h1,h2] at h
   | some s =>
    simp [h1,h2] at h
    subst h
    obtain ⟨h3,h4⟩:=Z658 h2
    refine ⟨by simp [h3],fun i x hx=>?_⟩
    cases i with
    | zero=>simp at hx; subst hx; exact ⟨b,rfl,h1⟩
    | succ i=>simp at hx; simpa using h4 i x hx
theorem Z420 {a:Addr} {n:Nat} {vs:List Value} (h:w.cells? base a n=some vs):vs.length=n∧∀ (j:Nat) (v:Value),vs[j]?=some v→w.cell? (a.add j)=some v:=by
 unfold World.cells? at h
 split at h
 ·obtain ⟨h1,h2⟩:=Z658 h
  refine ⟨by simpa using h1,fun j v hv=>?_⟩
  have hj:j < n:=by
   have:=(List.getElem?_eq_some_iff.1 hv).1
   simp at h1
   omega
  obtain ⟨y,h3,h4⟩:=h2 j j (by simp [hj])
  rw [hv] at h3
  injection h3 with h3
  subst h3
  exact h4
 ·cases h
theorem Z281 {a:Addr} {v:Value} (h:w.cell? a=some v):a.spot=none∧a.block < w.heap.size:=by
 unfold World.cell? at h
 split at h
 ·rename_i c _ _ hh
  cases hs:a.spot with
  | none=>exact ⟨rfl,Z222 hh⟩
  | some s=>simp [hs] at h
 ·cases h
theorem Z405 {a:Addr} (h:a.spot=none) (j:Nat):a.add j=⟨a.block,a.off+j,none⟩:=by
 unfold Addr.add
 split
 ·cases a; simp_all
 ·rfl
theorem Z117 {α:Type} {Q:Nat→α→Prop}:∀ {n:Nat},(∀ i,i < n→∃ x,Q i x)→∃ xs:List α,xs.length=n∧∀ i x,xs[i]?=some x→Q i x
 | 0,_=>⟨[],rfl,fun i x h=>by simp at h⟩
 | n+1,h=>by
  obtain ⟨xs,h1,h2⟩:=Z117 (n:=n) fun i hi=>h i (by omega)
  obtain ⟨x,hx⟩:=h n (by omega)
  refine ⟨xs++[x],by simp [h1],fun i y hy=>?_⟩
  by_cases e:i < n
  ·rw [List.getElem?_append_left (by omega)] at hy
   exact h2 i y hy
  ·have hlt:=(List.getElem?_eq_some_iff.1 hy).1
   simp [h1] at hlt
   have:i=n:=by omega
   subst this
   rw [List.getElem?_append_right (by omega),h1] at hy
   simp at hy
   subst hy
   exact hx
theorem Z721 {I:Rg} {f:TypeId→Option Tc} {cells:TypeId→Nat} {cs:List Value}:∀ {fs:List (Nat×TypeId)} {off:Nat} {tc:Tc},
  (∀ (i o:Nat) (t:TypeId),fs[i]?=some (o,t)→∀ tc,f t=some tc→∃ x,RD I w tc x ((cs.drop o).take (cells t))∧WfD tc x)→tcFs f cells cs.length off fs=some tc →
  ∃ x,RD I w tc x (cs.drop off)∧WfD tc x
 | [],off,tc,_,h=>by
  simp only [tcFs] at h
  cases hb:Nat.beq off cs.length with
  | false=>simp [hb] at h
  | true =>
   simp only [hb,cond_true,Option.some.injEq] at h
   subst h
   have:=Nat.eq_of_beq_eq_true hb
   exact ⟨(),by show _=_; rw [this]; simp,trivial⟩
 | [(o,t)],off,tc,hf,h=>by
  simp only [tcFs] at h
  cases hb:Nat.beq o off&&Nat.beq (off+cells t) cs.length with
  | false=>rw [hb,cond_false] at h; cases h
  | true =>
   rw [hb,cond_true] at h
   rw [Bool.and_eq_true] at hb
   have h1:=Nat.eq_of_beq_eq_true hb.1
   have h2:=Nat.eq_of_beq_eq_true hb.2
   subst h1
   obtain ⟨x,h3,h4⟩:=hf 0 o t rfl tc h
   rw [List.take_of_length_le (by simp; omega)] at h3
   exact ⟨x,h3,h4⟩
 | (o,t) :: q :: r,off,tc,hf,h=>by
  simp only [tcFs] at h
  cases hb:Nat.beq o off with
  | false=>rw [hb,cond_false] at h; cases h
  | true =>
   rw [hb,cond_true] at h
   have h1:=Nat.eq_of_beq_eq_true hb
   subst h1
   split at h
   ·rename_i a b ha hr
    simp only [Option.some.injEq] at h
    subst h
    obtain ⟨x1,g1,g2⟩:=hf 0 o t rfl a ha
    obtain ⟨x2,g3,g4⟩:=Z721 (fs:=q :: r) (off:=o+cells t) (fun i o' t' hi=>hf (i+1) o' t' (by simpa using hi)) hr
    refine ⟨(x1,x2),⟨_,_,?_,g1,g3⟩,g2,g4⟩
    rw [← List.drop_drop,List.take_append_drop]
   ·cases h
theorem Z446 {c:Nat} {e:TypeId}:∀ {n i k:Nat} {o:Nat} {t:TypeId},(elems c e i n)[k]?=some (o,t)→t=e∧o=(i+k)*c∧k < n
 | 0,i,k,o,t,h=>by simp [elems] at h
 | n+1,i,0,o,t,h=>by
  simp only [elems,List.getElem?_cons_zero,Option.some.injEq,Prod.mk.injEq] at h
  exact ⟨h.2.symm,by rw [Nat.add_zero]; exact h.1.symm,by omega⟩
 | n+1,i,k+1,o,t,h=>by
  simp only [elems,List.getElem?_cons_succ] at h
  obtain ⟨h1,h2,h3⟩:=Z446 h
  exact ⟨h1,by rw [h2]; congr 1; omega,by omega⟩
theorem Z725:∀ {n:Nat} {t:TypeId} {tc:Tc} {fuel:Nat} {cs:List Value} {y:DataW H×List MemPlace},tcOf P n t=some tc→DataW.trod enc P w base spare held fuel t cs=some y →
  ∃ x,RD (allRg w) w tc x cs∧WfD tc x
 | 0,t,tc,fuel,cs,y,h,_=>by simp [tcOf] at h
 | n+1,t,tc,fuel,cs,y,h,hy=>by
  unfold tcOf at h
  split at h
  ·rename_i k hu
   simp only [Option.some.injEq] at h
   subst h
   obtain ⟨m,rfl,_,hw⟩:=DataW.trod_int hu hy
   exact ⟨m,rfl,hw⟩
  ·rename_i hu
   simp only [Option.some.injEq] at h
   subst h
   obtain ⟨b,rfl,_⟩:=DataW.trod_bool hu hy
   exact ⟨b,rfl,trivial⟩
  ·rename_i hu
   simp only [Option.some.injEq] at h
   subst h
   obtain ⟨s,rfl,_,hs⟩:=DataW.trod_string hu hy
   exact ⟨s,rfl,hs⟩
  ·rename_i e hu
   split at h
   ·rename_i c hc
    cases hb:Nat.beq c.sz (P.cellsOf e)&&Nat.blt 0 c.sz with
    | false=>rw [hb,cond_false] at h; cases h
    | true =>
     rw [hb,cond_true] at h
     simp only [Option.some.injEq] at h
     subst h
     rw [Bool.and_eq_true] at hb
     have hsz:=Nat.eq_of_beq_eq_true hb.1
     have hpos:=Z327 hb.2
     rcases DataW.trod_slice hu hy with ⟨rfl,_⟩ | ⟨a,len,cap,els,rest,m,_,rfl,_,hba,hl,hm,hlen,hel,_,_⟩
     ·exact ⟨[],⟨none,0,rfl,Nat.le_refl _,.inl rfl⟩,by show _∧_; exact ⟨by simp,fun x hx=>by cases hx⟩⟩
     ·obtain ⟨xs,h1,h2⟩:=Z117 (n:=len) (Q:=fun i x=>∃ vs,w.cells? base (a.add (i*P.cellsOf e)) (P.cellsOf e)=some vs∧RD (allRg w) w c x vs∧WfD c x) (by
       intro i hi
       have h1:=hel i hi
       have h2:i < els.length:=by omega
       rw [List.getElem?_eq_getElem h2] at h1
       rw [Option.bind_eq_some_iff] at h1
       obtain ⟨vs,h3,h4⟩:=h1
       obtain ⟨x,h5,h6⟩:=Z725 hc h4
       exact ⟨x,vs,h3,h5,h6⟩)
      refine ⟨xs,⟨some a,cap,by rw [h1],by omega,?_⟩,⟨by omega,fun x hx=>?_⟩⟩
      ·cases hxs:xs with
       | nil=>exact .inl rfl
       | cons x0 xr =>
        right
        have hsp:a.spot=none:=by
         obtain ⟨vs,h3,_,_⟩:=h2 0 x0 (by simp [hxs])
         obtain ⟨h4,h5⟩:=Z420 h3
         have h6:vs[0]?=some vs[0]:=by simp
         have:=(Z281 (h5 0 _ h6)).1
         simpa [Addr.add] using this
        refine ⟨a,rfl,hsp,?_⟩
        rw [← hxs]
        intro i x hi
        obtain ⟨vs,h3,h4,_⟩:=h2 i x hi
        obtain ⟨h5,h6⟩:=Z420 h3
        refine ⟨vs,h4,h4.len,fun j v hv=>?_⟩
        have h7:=h6 j v hv
        rw [Z405 hsp,Z405 rfl,← hsz] at h7
        exact ⟨(Z281 h7).2,h7⟩
      ·obtain ⟨i,hi⟩:=List.mem_iff_getElem?.1 hx
       obtain ⟨vs,_,_,h3⟩:=h2 i x hi
       exact h3
   ·cases h
  ·rename_i fields hu
   obtain ⟨xs,m,_,_,hl,hxl,hat⟩:=DataW.trod_struct hu hy
   rw [← hl] at h
   have:=Z721 (cs:=cs) (off:=0) (w:=w) (I:=allRg w) (fun i o t' hi tc' hc'=>by
    rw [List.getElem?_map] at hi
    cases hfi:fields.toList[i]? with
    | none=>simp [hfi] at hi
    | some f =>
     simp only [hfi,Option.map_some,Option.some.injEq,Prod.mk.injEq] at hi
     obtain ⟨rfl,rfl⟩:=hi
     have h1:=hat i f (by simpa using hfi)
     have h2:i < xs.length:=by
      have:=(List.getElem?_eq_some_iff.1 hfi).1
      simp at this
      omega
     rw [List.getElem?_eq_getElem h2] at h1
     exact Z725 hc' h1) h
   simpa using this
  ·rename_i len e hu
   obtain ⟨xs,m,_,_,hl,hxl,hat⟩:=DataW.trod_array hu hy
   rw [← hl] at h
   have:=Z721 (cs:=cs) (off:=0) (w:=w) (I:=allRg w) (fun i o t' hi tc' hc'=>by
    obtain ⟨rfl,rfl,hk⟩:=Z446 hi
    rw [Nat.zero_add]
    have h1:=hat i hk
    have h2:i < xs.length:=by omega
    rw [List.getElem?_eq_getElem h2] at h1
    exact Z725 hc' h1) h
   simpa using this
  ·cases h
end
end Go.Abs
