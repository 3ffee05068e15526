import Derived.Test.YtbapchkhohnncaaGreatDoorCall
set_option linter.unusedSimpArgs false
set_option linter.unusedSectionVars false
set_option linter.unusedVariables false
namespace Go.Abs
section
variable {I J:Rg} {β:Bt} {σ:Sg} {w:World}
theorem Z428 {l:List (Bs×Bool)} {zs:List Box} {y:bsDen l} (hmax:l.length≤1000000) (hd:Z427 l zs=some y) (hG:Good I J β (ex (listF zs)) w) :
  Good I J β (ex (listF (Z578 l y))) w∧Ext J I β (ex (listF zs)) w I β (ex (listF (Z578 l y))) w:=by
 obtain ⟨hlen,hat⟩:=Z123 hd
 have hback:∀ k b,listF (Z578 l y) k=some b→∃ z s y0,listF zs k=some z∧decBox s z=some y0∧b=boxOf s y0:=by
  intro k b hb
  have hk:k < zs.length:=by
   have:=(List.getElem?_eq_some_iff.1 hb).1
   rw [Z114] at this
   omega
  have hz:zs[k]?=some zs[k]:=by simp [hk]
  obtain ⟨s,y0,h1,h2,h3⟩:=hat k _ hz
  have:listF (Z578 l y) k=some (boxOf s.1 y0):=h3
  rw [hb] at this
  injection this with this
  exact ⟨_,_,_,hz,h2,this⟩
 have hkey:∀ k r,ex (listF (Z578 l y)) (key k r)=ex (listF zs) (key k r):=by
  intro k r
  rw [ex_key,ex_key]
  cases hb:listF (Z578 l y) k with
  | some b =>
   obtain ⟨z,s,y0,h1,h2,rfl⟩:=hback k b hb
   rw [h1]
   rcases Z122 h2 with ⟨T1,t1,ls,x1,rfl,e2,e3⟩ | ⟨t1,xs,rfl,e2⟩ | ⟨T1,k1,rfl,e2,e3⟩ | ⟨t1,p1,i1,rfl,e2⟩ | ⟨T1,l1,ls,x1,e0,rfl,e2,e3⟩ <;> rw [e2] <;> rfl
  | none =>
   have:listF zs k=none:=by
    unfold listF at hb ⊢
    rw [List.getElem?_eq_none_iff,Z114] at hb
    rw [List.getElem?_eq_none_iff]
    omega
   rw [this]
 have hE:Ext J I β (ex (listF zs)) w I β (ex (listF (Z578 l y))) w:=by
  refine ⟨fun _ _ h=>h,fun _ _ _ _ h=>h,?_,.refl w⟩
  intro k z hz
  cases hu:unkey k with
  | some p =>
   obtain ⟨k',r⟩:=p
   have e:=Z266 hu
   subst e
   exact ⟨z,by rw [hkey,hz],.refl β _ z⟩
  | none =>
   have e1:∀ g:Sg,ex g k=g k:=fun g=>by unfold ex; rw [hu]
   rw [e1] at hz
   obtain ⟨s,y0,h1,h2,h3⟩:=hat k z hz
   refine ⟨_,(e1 _).trans h3,?_⟩
   rcases Z122 h2 with ⟨T1,t1,ls,x1,rfl,e2,e3⟩ | ⟨t1,xs,rfl,e2⟩ | ⟨T1,k1,rfl,e2,e3⟩ | ⟨t1,p1,i1,rfl,e2⟩ | ⟨T1,l1,ls,x1,e0,rfl,e2,e3⟩ <;> rw [e2] <;> simp [Evo]
 have hlive:∀ k,liveB (ex (listF (Z578 l y)) k)→liveB (ex (listF zs) k):=by
  intro k hk
  cases hu:unkey k with
  | some p =>
   obtain ⟨k',r⟩:=p
   have e:=Z266 hu
   subst e
   rw [← hkey]; exact hk
  | none =>
   have e1:∀ g:Sg,ex g k=g k:=fun g=>by unfold ex; rw [hu]
   rw [e1] at hk ⊢
   obtain ⟨b,hb⟩:=Z218 hk
   obtain ⟨z,s,y0,h1,h2,h3⟩:=hback k b hb
   rw [h1]
   rcases Z122 h2 with ⟨T1,t1,ls,x1,rfl,e2,e3⟩ | ⟨t1,xs,rfl,e2⟩ | ⟨T1,k1,rfl,e2,e3⟩ | ⟨t1,p1,i1,rfl,e2⟩ | ⟨T1,l1,ls,x1,e0,rfl,e2,e3⟩ <;> trivial
 refine ⟨⟨?_,?_,?_,hG.bnd⟩,hE⟩
 ·intro k b hb
  cases hu:unkey k with
  | some p =>
   obtain ⟨k',r⟩:=p
   have e:=Z266 hu
   subst e
   have hb':=hb
   rw [hkey] at hb
   have hz:=hG.box _ _ hb
   rw [ex_key] at hb
   cases hzz:listF zs k' with
   | none=>rw [hzz] at hb; cases hb
   | some z =>
    rw [hzz] at hb
    cases z with
    | pool v t pos inn =>
     simp only [innB,Option.map_eq_some_iff] at hb
     obtain ⟨xs,_,rfl⟩:=hb
     exact hz
    | gone=>simp only [innB,Option.some.injEq] at hb; subst hb; trivial
    | var T c=>cases hb
    | row v t xs=>cases hb
  | none =>
   have e1:∀ g:Sg,ex g k=g k:=fun g=>by unfold ex; rw [hu]
   rw [e1] at hb
   obtain ⟨z,s,y0,h1,h2,rfl⟩:=hback k b hb
   have hz:=hG.box k z ((e1 _).trans h1)
   rcases Z122 h2 with ⟨T1,t1,ls,x1,rfl,h4,h5⟩ | ⟨t1,xs,rfl,h4⟩ | ⟨T1,k1,rfl,h4,e3⟩ | ⟨t1,p1,i1,rfl,h4⟩ | ⟨T1,l1,ls,x1,e0,rfl,h4,h5⟩
   ·rw [h4]
    obtain ⟨blk,vs,h6,h7,h8⟩:=hz
    obtain ⟨v1,v2,rfl,h9,h10⟩:=Z551 h5 h8
    simp only [RLs] at h10
    subst h10
    rw [List.append_nil] at h7
    exact ⟨blk,v1,h6,h7,hE.rls h9⟩
   ·rw [h4]; exact hz
   ·rw [h4]
    obtain ⟨blk,vs,h6,h7,h8⟩:=hz
    exact ⟨blk,vs,h6,h7,hE.rls h8⟩
   ·rw [h4]
    rcases hz with hz | ⟨blk,o,C,E,h6,h7,h8⟩
    ·exact .inl hz
    ·refine .inr ⟨blk,o,C,E,h6,h7,fun i p hp=>?_⟩
     obtain ⟨v,h9,h10⟩:=h8 i p hp
     exact ⟨v,h9,hE.rl h10⟩
   ·rw [h4]
    obtain ⟨blk,vs,h6,h7,h8⟩:=hz
    exact ⟨blk,vs,h6,h7,hE.rls (Z290 h5 h8)⟩
 ·intro k k' blk o o' hk hk' hb hb'
  exact hG.inj k k' blk o o' (hlive k hk) (hlive k' hk') hb hb'
 ·intro k blk o i hk hb
  exact hG.sep k blk o i (hlive k hk) hb
def lentJ (J:Rg) (β:Bt) (σ:Sg) (lent:List Nat):Rg:=fun blk i=>J blk i∨∃ b∈lent,∃ c,(c=b∨∃ r,c=key b r)∧∃ o,liveB (σ c)∧β c=some (blk,o)
def LentOk (σ get:Sg) (β:Bt) (J':Rg) (b:Nat):Prop:=σ b=get b∧(∀ blk o,liveB (σ b)→β b=some (blk,o)→∀ i,J' blk i) ∧
 (∀ r blk o,liveB (σ (key b r))→β (key b r)=some (blk,o)→∀ i,J' blk i)∧∀ r,σ (key b r)=innB (σ b) r
theorem Z333 {J':Rg} {ls:List Lf} {vs:List Value} (hJ:∀ b i,J b i→J' b i) (h:RLs I J β σ w ls vs):RLs I J' β σ w ls vs:=Z588 (fun _=>hJ) h
theorem Z217 {J':Rg} (hG:Good I J β σ w) {b ver:Nat} {rng:Option (Nat×Nat)} {t:Tc} {xs:List t.den} {u:Value} (hc:Z596 σ (.slice b ver rng)=some ⟨t,xs⟩)
  (hJ:∀ blk o,liveB (σ b)→β b=some (blk,o)→∀ i,J' blk i) (h:RL I J β σ w (.slice b ver rng) u):RL I J' β σ w (.list true t xs) u:=by
 obtain ⟨x,hx,hs⟩:=h
 simp only [Z596,hx] at hc
 cases x with
 | row cur t0 ys =>
  simp only at hc
  cases hv:Nat.beq ver cur with
  | false=>simp [hv] at hc
  | true =>
   simp only [hv,cond_true,Option.some.injEq,Sigma.mk.injEq] at hc
   obtain ⟨rfl,hxs⟩:=hc
   simp only [heq_eq_eq] at hxs
   subst hxs
   have hs:=hs.2 (Nat.eq_of_beq_eq_true hv)
   have hlb:liveB (σ b):=by rw [hx]; trivial
   have hrow:∀ {blk o:Nat},β b=some (blk,o)→RowAt (both I J' true) t0.sz (RD (both I J' true) w t0) w ys ⟨blk,o,none⟩ :=
    fun hb=>(hG.rowAt hx hb (K:=both I J' true) fun i _ _=>.inr ⟨rfl,hJ _ _ hlb hb i⟩).mono (fun _ _ h=>h) (fun _ _ _ _ h=>h) (fun _ _ h=>h.ofI)
   cases rng with
   | none =>
    obtain ⟨A,c,rfl,hk⟩:=hs
    rcases hk with ⟨hk,hc0⟩ | ⟨blk,o,hb,hA,hl,_⟩
    ·exact ⟨A,c,rfl,by simp [view,hk],.inl (by simp [view,hk])⟩
    ·exact ⟨A,c,rfl,hl,.inr ⟨⟨blk,o,none⟩,hA,rfl,hrow hb⟩⟩
   | some p =>
    obtain ⟨off,n⟩:=p
    obtain ⟨A,c,rfl,hl,hk,_⟩:=hs
    rcases hk with hk | ⟨blk,o,hb,hA⟩
    ·exact ⟨A,c,rfl,hl,.inl hk⟩
    ·exact ⟨A,c,rfl,hl,.inr ⟨⟨blk,o+off*t0.sz,none⟩,hA,rfl,(hrow hb).view off n⟩⟩
 | var T c=>simp at hc
 | pool v t pos inn=>simp at hc
 | gone=>simp at hc
theorem inn_at {b p:Nat} (hcl:∀ r,σ (key b r)=innB (σ b) r) {v:Nat} {t:Tc} {pos:List Nat} {inn:List (List t.den)} (hb:σ b=some (.pool v t pos inn)) {x:Box} (hx:σ (key b p)=some x):x=.row 0 t (inn.getD p []):=by
 rw [hcl,hb] at hx
 simp only [innB,Option.map_eq_some_iff] at hx
 obtain ⟨xs,h1,rfl⟩:=hx
 rw [List.getD_eq_getElem?_getD,h1]
 rfl
theorem Z133 {get:Sg} {J':Rg} (hG:Good I J β σ w) {l:Lf} {b:Nat} {u:Value} (hl:(∃ ver rng,l=.slice b ver rng)∨∃ p,l=.inn b p) (hb:∀ c∈(lendP get l b).2,LentOk σ get β J' c) (h:RL I J β σ w l u):RL I J' β σ w (lendP get l b).1 u:=by
 unfold lendP at hb ⊢
 split
 ·rename_i t' xs hc
  simp only [hc] at hb
  obtain ⟨hg,hJ1,hJ2,hcl⟩:=hb b (by simp)
  unfold Z423 at hc
  split at hc
  ·rename_i b' ver
   have hbb:b'=b:=by
    rcases hl with ⟨v,r,e⟩ | ⟨p,e⟩
    ·injection e
    ·cases e
   subst hbb
   split at hc
   ·rename_i ver' t pos inn hgb
    cases hv:Nat.beq ver ver' with
    | false=>simp [hv] at hc
    | true =>
     simp only [hv,cond_true,Option.some.injEq,Sigma.mk.injEq] at hc
     obtain ⟨rfl,hxs⟩:=hc
     have hxs:=eq_of_heq hxs
     subst hxs
     have hσ:σ b'=some (.pool ver' t pos inn):=by rw [hg,hgb]
     obtain ⟨x,hx,hs⟩:=h
     rw [hσ] at hx; injection hx with hx; subst hx
     obtain ⟨A,c,rfl,hk⟩:=hs.2 (Nat.eq_of_beq_eq_true hv) rfl
     rcases hk with ⟨hk,hc0⟩ | ⟨blk,o,hbb,rfl,hle,_⟩
     ·exact ⟨A,c,by simp [rowsAt],by simp [rowsAt,hk],.inl (by simp [rowsAt,hk])⟩
     ·refine ⟨_,c,by simp [rowsAt],by simpa [rowsAt] using hle,.inr ⟨⟨blk,o,none⟩,rfl,rfl,?_⟩⟩
      rcases hG.box b' _ hσ with ⟨h1,h2⟩ | ⟨blk',o',C,E,h1,h2,h3⟩
      ·rw [h2] at hbb; cases hbb
      ·rw [hbb] at h1; injection h1 with h1; injection h1 with e1 e2; subst e1; subst e2
       intro i xs hi
       simp only [rowsAt,List.getElem?_map,Option.map_eq_some_iff] at hi
       obtain ⟨p,hp,rfl⟩:=hi
       obtain ⟨v,h4,h5⟩:=h3 i p hp
       obtain ⟨xk,hxk,hsk⟩:=h5
       have hxe:=inn_at hcl hσ hxk
       subst hxe
       have hl5:RL I J' β σ w (.list true t (inn.getD p [])) v:=Z217 hG (b:=key b' p) (ver:=0) (rng:=none) (by simp [Z596,hxk,view]) (hJ2 p) ⟨_,hxk,hsk⟩
       obtain ⟨A1,c1,rfl,h6,h7⟩:=hl5
       refine ⟨[_],⟨A1,c1,rfl,h6,h7.imp (fun h=>h) fun ⟨a,q1,q2,q3⟩=>⟨a,q1,q2,q3⟩⟩,rfl,fun j u hj=>⟨.inr ⟨rfl,hJ1 blk o (by rw [hσ]; trivial) hbb _⟩,?_⟩⟩
       match j,hj with
       | 0,hj =>
        simp only [List.getElem?_cons_zero,Option.some.injEq] at hj
        subst hj
        rw [Z584 h2]
        simpa [Tc.sz] using h4
       | j+1,hj=>simp at hj
   ·cases hc
  ·rename_i b' p
   have hbb:b'=b:=by
    rcases hl with ⟨v,r,e⟩ | ⟨p,e⟩
    ·cases e
    ·injection e
   subst hbb
   split at hc
   ·rename_i ver' t pos inn hgb
    simp only [Option.some.injEq,Sigma.mk.injEq] at hc
    obtain ⟨rfl,hxs⟩:=hc
    have hxs:=eq_of_heq hxs
    subst hxs
    have hσ:σ b'=some (.pool ver' t pos inn):=by rw [hg,hgb]
    obtain ⟨_,x,hx,hs⟩:=h
    have hxe:=inn_at hcl hσ hx
    subst hxe
    exact Z217 hG (b:=key b' p) (ver:=0) (rng:=none) (by simp [Z596,hx,view]) (hJ2 p) ⟨_,hx,hs⟩
   ·cases hc
  ·cases hc
 ·trivial
theorem Z48 {get:Sg} {J':Rg} (hG:Good I J β σ w) (hJ:∀ b i,J b i→J' b i) {t:Tc} {l:Lf} {u:Value}
  (hb:∀ b∈(Z650 get t l).2,LentOk σ get β J' b) (h:RL I J β σ w l u):RL I J' β σ w (Z650 get t l).1 u:=by
 unfold Z650 at hb ⊢
 split
 ·have:=Z734 (bor:=true) h
  simp only [weakL,Bool.or_true] at this
  exact chJ_rl (fun _=>hJ) this
 ·rename_i b ver rng
  split
  ·rename_i t' xs hc
   simp only [hc] at hb
   obtain ⟨hg,hb,_⟩:=hb b (by simp)
   have hc':Z596 σ (.slice b ver rng)=some ⟨t',xs⟩:=by simp only [Z596,hg] at hc ⊢; exact hc
   exact Z217 hG hc' hb h
  ·rename_i hc
   simp only [hc] at hb
   exact Z133 hG (.inl ⟨ver,rng,rfl⟩) hb h
 ·rename_i b p
  exact Z133 hG (.inr ⟨p,rfl⟩) hb h
 ·exact ⟨none,0,h,Nat.le_refl _,.inl rfl⟩
 ·exact chJ_rl (fun _=>hJ) h
theorem Z132 {get:Sg} {J':Rg} (hG:Good I J β σ w) (hJ:∀ b i,J b i→J' b i):∀ {t:Tc} {ls ls' r:List Lf} {lent:List Nat} {us:List Value},lendL get t ls=some (ls',lent,r) →
  (∀ b∈lent,LentOk σ get β J' b)→RLs I J β σ w ls us→∃ u1 u2,us=u1++u2∧RLs I J' β σ w ls' u1∧RLs I J β σ w r u2
 | .list t,ls,ls',r,lent,us,h,hb,hl=>by
  cases ls with
  | nil=>simp [lendL] at h
  | cons l q =>
   simp only [lendL,Option.some.injEq,Prod.mk.injEq] at h
   obtain ⟨rfl,rfl,rfl⟩:=h
   obtain ⟨v,rest,rfl,h1,h2⟩:=hl
   exact ⟨[v],rest,rfl,⟨v,[],rfl,Z48 hG hJ hb h1,rfl⟩,h2⟩
 | .pair a b,ls,ls',r,lent,us,h,hb,hl=>by
  simp only [lendL] at h
  cases h1:lendL get a ls with
  | none=>simp [h1] at h
  | some p =>
   obtain ⟨x,i,q⟩:=p
   simp only [h1] at h
   cases h2:lendL get b q with
   | none=>simp [h2] at h
   | some p =>
    obtain ⟨y,j,r'⟩:=p
    simp only [h2,Option.some.injEq,Prod.mk.injEq] at h
    obtain ⟨rfl,rfl,rfl⟩:=h
    obtain ⟨v1,v2,rfl,h3,h4⟩:=Z132 hG hJ h1 (fun c hc=>hb c (by simp [hc])) hl
    obtain ⟨v3,v4,rfl,h5,h6⟩:=Z132 hG hJ h2 (fun c hc=>hb c (by simp [hc])) h4
    exact ⟨v1++v3,v4,by simp,h3.append h5,h6⟩
 | .unit,ls,ls',r,lent,us,h,hb,hl=>by
  simp only [lendL,Option.some.injEq,Prod.mk.injEq] at h
  obtain ⟨rfl,rfl,rfl⟩:=h
  exact ⟨[],us,rfl,rfl,hl⟩
 | .int k,ls,ls',r,lent,us,h,hb,hl=>by
  cases ls with
  | nil=>simp [lendL] at h
  | cons l q =>
   simp only [lendL,Option.some.injEq,Prod.mk.injEq] at h
   obtain ⟨rfl,rfl,rfl⟩:=h
   obtain ⟨v,rest,rfl,h1,h2⟩:=hl
   exact ⟨[v],rest,rfl,Z333 hJ ⟨v,[],rfl,h1,rfl⟩,h2⟩
 | .bool,ls,ls',r,lent,us,h,hb,hl=>by
  cases ls with
  | nil=>simp [lendL] at h
  | cons l q =>
   simp only [lendL,Option.some.injEq,Prod.mk.injEq] at h
   obtain ⟨rfl,rfl,rfl⟩:=h
   obtain ⟨v,rest,rfl,h1,h2⟩:=hl
   exact ⟨[v],rest,rfl,Z333 hJ ⟨v,[],rfl,h1,rfl⟩,h2⟩
 | .nil,ls,ls',r,lent,us,h,hb,hl=>by
  cases ls with
  | nil=>simp [lendL] at h
  | cons l q =>
   simp only [lendL,Option.some.injEq,Prod.mk.injEq] at h
   obtain ⟨rfl,rfl,rfl⟩:=h
   obtain ⟨v,rest,rfl,h1,h2⟩:=hl
   exact ⟨[v],rest,rfl,Z333 hJ ⟨v,[],rfl,h1,rfl⟩,h2⟩
 | .str,ls,ls',r,lent,us,h,hb,hl=>by
  cases ls with
  | nil=>simp [lendL] at h
  | cons l q =>
   simp only [lendL,Option.some.injEq,Prod.mk.injEq] at h
   obtain ⟨rfl,rfl,rfl⟩:=h
   obtain ⟨v,rest,rfl,h1,h2⟩:=hl
   exact ⟨[v],rest,rfl,Z333 hJ ⟨v,[],rfl,h1,rfl⟩,h2⟩
theorem Z164 {t:Tc} {base:Nat} {ls:List Lf} {x:t.den} {vs:List Value} (h:Z539 t base ls=some x) (hl:RLs I J β σ w ls vs) :
  ∃ v1,RD I w t x v1∧v1.length=t.sz∧∀ (j:Nat) (v:Value),v1[j]?=some v→vs[base+j]?=some v:=by
 unfold Z539 at h
 split at h
 ·rename_i l hs
  split at h
  ·rename_i y hu
   simp only [Option.some.injEq] at h
   subst h
   obtain ⟨h1,h2,_⟩:=hl.sub hs
   obtain ⟨v1,v2,e,h3,h4⟩:=RLs.unfl hu h1
   simp only [RLs] at h4
   subst h4
   rw [List.append_nil] at e
   refine ⟨v1,h3,h3.len,?_⟩
   intro j v hv
   rw [← e,List.getElem?_take] at hv
   split at hv
   ·rw [List.getElem?_drop] at hv; exact hv
   ·cases hv
  ·cases h
 ·cases h
theorem Z49 {get:Sg} {J':Rg} (hG:Good I J β σ w) (hJ:∀ b i,J b i→J' b i) {t:Tc} {p p':PV} {lent:List Nat} {u:Value} (h:Z651 get t p=some (p',lent))
  (hb:∀ b∈lent,LentOk σ get β J' b) (hv:RV I J β σ w p u):RV I J' β σ w p' u:=by
 unfold Z651 at h
 split at h
 ·rename_i bor t0 xs ix base
  split at h
  ·rename_i x hx
   simp only [Option.some.injEq,Prod.mk.injEq] at h
   obtain ⟨rfl,_⟩:=h
   obtain ⟨_,hi,a,rfl,hr⟩:=hv
   refine ⟨.inl ⟨rfl,rfl⟩,by simp,⟨a.block,a.off+ix*t0.sz+base,none⟩,by simp,?_⟩
   have hg:xs[ix]?=some xs[ix]:=by simp [hi]
   obtain ⟨vs,h1,h2,h3⟩:=hr ix _ hg
   have hd:xs.getD ix t0.dflt=xs[ix]:=by simp [List.getD,hi]
   rw [hd] at hx
   obtain ⟨v1,g1,g2,g3⟩:=Z164 hx (.of_rd h1:RLs (both I J bor) J β σ w (fl false t0 xs[ix]) vs)
   intro k y hy
   match k,hy with
   | 0,hy =>
    simp only [List.getElem?_cons_zero,Option.some.injEq] at hy
    subst hy
    refine ⟨v1,g1.mono (fun b i hk=>hk.imp (fun h=>h) fun h=>⟨rfl,hJ _ _ h.2⟩) (fun _ _ _ _ h=>h),g2,fun j v hj=>?_⟩
    obtain ⟨k1,k2⟩:=h3 _ _ (g3 j v hj)
    simp only [Nat.zero_mul,Nat.add_zero]
    rw [Nat.add_assoc]
    exact ⟨k1.imp (fun h=>h) fun h=>⟨rfl,hJ _ _ h.2⟩,k2⟩
   | k+1,hy=>simp at hy
  ·cases h
 ·rename_i b ver ix base
  split at h
  ·rename_i T cells hget
   split at h
   ·rename_i x hx
    simp only [Option.some.injEq,Prod.mk.injEq] at h
    obtain ⟨rfl,rfl⟩:=h
    obtain ⟨hsg,hbb,_⟩:=hb b (by simp)
    obtain ⟨_,bx,hbx,hra⟩:=hv
    rw [hsg,hget] at hbx
    injection hbx with hbx
    subst hbx
    obtain ⟨blk,hβ,rfl⟩:=hra
    have hlb:liveB (σ b):=by rw [hsg,hget]; trivial
    obtain ⟨blk',vs,e1,e2,e3⟩:=hG.box b _ (by rw [hsg,hget]:σ b=some (.var T cells))
    rw [hβ] at e1
    injection e1 with e1
    injection e1 with e1 _
    subst e1
    obtain ⟨v1,g1,g2,g3⟩:=Z164 hx e3
    refine ⟨.inl ⟨rfl,rfl⟩,by simp,⟨blk,base,none⟩,by simp,?_⟩
    intro k y hy
    match k,hy with
    | 0,hy =>
     simp only [List.getElem?_cons_zero,Option.some.injEq] at hy
     subst hy
     refine ⟨v1,g1.ofI,g2,fun j v hj=>⟨.inr ⟨rfl,hbb _ _ hlb hβ _⟩,?_⟩⟩
     simp only [Nat.zero_mul,Nat.add_zero]
     have:=g3 j v hj
     simp [World.cell?,e2,this]
    | k+1,hy=>simp at hy
   ·cases h
  ·rename_i ver' t0 xs hget
   cases hvv:Nat.beq ver ver' with
   | false=>rw [hvv,cond_false] at h; cases h
   | true =>
    rw [hvv,cond_true] at h
    split at h
    ·rename_i x hx
     simp only [Option.some.injEq,Prod.mk.injEq] at h
     obtain ⟨rfl,rfl⟩:=h
     obtain ⟨hsg,hbb,_⟩:=hb b (by simp)
     obtain ⟨_,bx,hbx,hra⟩:=hv
     rw [hsg,hget] at hbx
     injection hbx with hbx
     subst hbx
     obtain ⟨hi,blk,o,hβ,rfl⟩:=hra.2 (Nat.eq_of_beq_eq_true hvv)
     have hlb:liveB (σ b):=by rw [hsg,hget]; trivial
     have hrow:=hG.rowAt (by rw [hsg,hget]:σ b=some (.row ver' t0 xs)) hβ (K:=both I J' true) fun i _ _=>.inr ⟨rfl,hbb _ _ hlb hβ i⟩
     have hg:xs[ix]?=some xs[ix]:=by simp [hi]
     obtain ⟨vs,h1,h2,h3⟩:=hrow ix _ hg
     have hd:xs.getD ix t0.dflt=xs[ix]:=by simp [List.getD,hi]
     rw [hd] at hx
     obtain ⟨v1,g1,g2,g3⟩:=Z164 hx (.of_rd h1:RLs I J β σ w (fl false t0 xs[ix]) vs)
     refine ⟨.inl ⟨rfl,rfl⟩,by simp,⟨blk,o+ix*t0.sz+base,none⟩,by simp,?_⟩
     intro k y hy
     match k,hy with
     | 0,hy =>
      simp only [List.getElem?_cons_zero,Option.some.injEq] at hy
      subst hy
      refine ⟨v1,g1.ofI,g2,fun j v hj=>?_⟩
      obtain ⟨k1,k2⟩:=h3 _ _ (g3 j v hj)
      simp only [Nat.zero_mul,Nat.add_zero]
      rw [Nat.add_assoc]
      exact ⟨k1,k2⟩
     | k+1,hy=>simp at hy
    ·cases h
  ·cases h
 ·cases h
theorem Z81 {get:Sg} {J':Rg} (hG:Good I J β σ w) (hJ:∀ b i,J b i→J' b i):∀ {l:List Pt} {ls ls':List Lf} {lent:List Nat} {us:List Value},lendPt get l ls=some (ls',lent) →
  (∀ b∈lent,LentOk σ get β J' b)→RLs I J β σ w ls us→RLs I J' β σ w ls' us
 | [],[],ls',lent,us,h,_,hv=>by
  simp only [lendPt,Option.some.injEq,Prod.mk.injEq] at h
  obtain ⟨rfl,rfl⟩:=h
  exact hv
 | [],_ :: _,_,_,_,h,_,_=>by simp [lendPt] at h
 | .sl b :: r,[],_,_,_,h,_,_=>by simp [lendPt] at h
 | .sl b :: r,x :: q,ls',lent,us,h,hb,hv=>by
  simp only [lendPt] at h
  split at h
  ·rename_i ys l1 hl
   simp only [Option.some.injEq,Prod.mk.injEq] at h
   obtain ⟨rfl,rfl⟩:=h
   obtain ⟨v,rest,rfl,h1,h2⟩:=hv
   exact ⟨v,rest,rfl,chJ_rl (fun _=>hJ) h1,Z81 hG hJ hl hb h2⟩
  ·cases h
 | .v t :: r,ls,ls',lent,us,h,hb,hv=>by
  simp only [lendPt] at h
  split at h
  ·rename_i a l1 q hl
   split at h
   ·rename_i ys l2 hq
    simp only [Option.some.injEq,Prod.mk.injEq] at h
    obtain ⟨rfl,rfl⟩:=h
    obtain ⟨v1,v2,rfl,h4,h5⟩:=Z132 hG hJ hl (fun b hb'=>hb b (by simp [hb'])) hv
    exact h4.append (Z81 hG hJ hq (fun b hb'=>hb b (by simp [hb'])) h5)
   ·cases h
  ·cases h
theorem Z242 {get:Sg} {J':Rg} (hG:Good I J β σ w) (hJ:∀ b i,J b i→J' b i):∀ {sp:List Sp} {ps ps':List PV} {lent:List Nat} {us:List Value},Z513 get sp ps=some (ps',lent) →
  (∀ b∈lent,LentOk σ get β J' b)→RVs I J β σ w ps us→RVs I J' β σ w ps' us
 | [],[],ps',lent,us,h,_,hv=>by
  simp only [Z513,Option.some.injEq,Prod.mk.injEq] at h
  obtain ⟨rfl,rfl⟩:=h
  exact hv
 | [],_ :: _,_,_,_,h,_,_=>by simp [Z513] at h
 | _ :: _,[],_,_,_,h,_,_=>by cases ‹Sp› <;> simp [Z513] at h
 | .v ag t :: r,p :: q,ps',lent,us,h,hb,hv=>by
  simp only [Z513] at h
  cases hf:flatV ag p with
  | none=>simp [hf] at h
  | some pl =>
   simp only [hf] at h
   split at h
   ·rename_i ls l1 hl
    split at h
    ·rename_i qs l2 hq
     simp only [Option.some.injEq,Prod.mk.injEq] at h
     obtain ⟨rfl,rfl⟩:=h
     obtain ⟨u,rest,rfl,h1,h2⟩:=hv
     refine ⟨u,rest,rfl,?_,Z242 hG hJ hq (fun b hb'=>hb b (by simp [hb'])) h2⟩
     cases ag with
     | true =>
      cases p with
      | agg ls0 =>
       simp only [flatV,Option.some.injEq] at hf
       subst hf
       obtain ⟨vs,rfl,h3⟩:=h1
       obtain ⟨v1,v2,rfl,h4,h5⟩:=Z132 hG hJ hl (fun b hb'=>hb b (by simp [hb'])) h3
       simp only [RLs] at h5
       subst h5
       exact ⟨v1,by simp,h4⟩
      | one l=>simp [flatV] at hf
      | tup l=>simp [flatV] at hf
     | false =>
      cases p with
      | one l =>
       simp only [flatV,Option.some.injEq] at hf
       subst hf
       obtain ⟨v1,v2,e,h4,h5⟩:=Z132 hG hJ hl (fun b hb'=>hb b (by simp [hb'])) (⟨u,[],rfl,h1,rfl⟩:RLs I J β σ w [l] [u])
       simp only [RLs] at h5
       subst h5
       rw [List.append_nil] at e
       subst e
       exact Z698 h4
      | agg l=>simp [flatV] at hf
      | tup l=>simp [flatV] at hf
    ·cases h
   ·cases h
 | .er t :: r,p :: q,ps',lent,us,h,hb,hv=>by
  simp only [Z513] at h
  split at h
  ·rename_i p' l1 hl
   split at h
   ·rename_i qs l2 hq
    simp only [Option.some.injEq,Prod.mk.injEq] at h
    obtain ⟨rfl,rfl⟩:=h
    obtain ⟨u,rest,rfl,h1,h2⟩:=hv
    exact ⟨u,rest,rfl,Z49 hG hJ hl (fun b hb'=>hb b (by simp [hb'])) h1,Z242 hG hJ hq (fun b hb'=>hb b (by simp [hb'])) h2⟩
   ·cases h
  ·cases h
 | .rc t :: r,p :: q,ps',lent,us,h,hb,hv=>by
  simp only [Z513] at h
  split at h
  ·rename_i p' l1 hl
   split at h
   ·rename_i qs l2 hq
    simp only [Option.some.injEq,Prod.mk.injEq] at h
    obtain ⟨rfl,rfl⟩:=h
    obtain ⟨u,rest,rfl,h1,h2⟩:=hv
    refine ⟨u,rest,rfl,?_,Z242 hG hJ hq (fun b hb'=>hb b (by simp [hb'])) h2⟩
    cases p with
    | agg ls =>
     simp only [lendRc] at hl
     split at hl
     ·rename_i ys l3 hy
      simp only [Option.some.injEq,Prod.mk.injEq] at hl
      obtain ⟨rfl,rfl⟩:=hl
      obtain ⟨vs,rfl,h3⟩:=h1
      exact ⟨vs,rfl,Z81 hG hJ hy (fun b hb'=>hb b (by simp [hb'])) h3⟩
     ·cases hl
    | one l=>cases hl
    | tup l=>cases hl
   ·cases h
  ·cases h
 | .ref b :: r,p :: q,ps',lent,us,h,hb,hv=>by
  simp only [Z513] at h
  split at h
  ·rename_i qs l2 hq
   simp only [Option.some.injEq,Prod.mk.injEq] at h
   obtain ⟨rfl,rfl⟩:=h
   obtain ⟨u,rest,rfl,h1,h2⟩:=hv
   exact ⟨u,rest,rfl,chJ_rv (fun _=>hJ) h1,Z242 hG hJ hq hb h2⟩
  ·cases h
 | .sl b :: r,p :: q,ps',lent,us,h,hb,hv=>by
  simp only [Z513] at h
  split at h
  ·rename_i qs l2 hq
   simp only [Option.some.injEq,Prod.mk.injEq] at h
   obtain ⟨rfl,rfl⟩:=h
   obtain ⟨u,rest,rfl,h1,h2⟩:=hv
   exact ⟨u,rest,rfl,chJ_rv (fun _=>hJ) h1,Z242 hG hJ hq hb h2⟩
  ·cases h
 | .inn b :: r,p :: q,ps',lent,us,h,hb,hv=>by
  simp only [Z513] at h
  split at h
  ·rename_i qs l2 hq
   simp only [Option.some.injEq,Prod.mk.injEq] at h
   obtain ⟨rfl,rfl⟩:=h
   obtain ⟨u,rest,rfl,h1,h2⟩:=hv
   exact ⟨u,rest,rfl,chJ_rv (fun _=>hJ) h1,Z242 hG hJ hq hb h2⟩
  ·cases h
 | .cl f c :: r,p :: q,ps',lent,us,h,hb,hv=>by
  simp only [Z513] at h
  split at h
  ·rename_i qs l2 hq
   simp only [Option.some.injEq,Prod.mk.injEq] at h
   obtain ⟨rfl,rfl⟩:=h
   obtain ⟨u,rest,rfl,h1,h2⟩:=hv
   exact ⟨u,rest,rfl,chJ_rv (fun _=>hJ) h1,Z242 hG hJ hq hb h2⟩
  ·cases h
end
end Go.Abs
