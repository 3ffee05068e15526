import Derived.Test.YtbapchkhohnncaaGreatDoorReg
set_option linter.unusedSimpArgs false
set_option linter.unusedSectionVars false
set_option linter.unusedVariables false
namespace Go.Abs
def St.box (st:St):Sg:=fun b=>look b st.bx
def Z402 (P:Program) (F:Fr) (σ':Sg) (v:PV) (I:Rg) (β:Bt) (σ:Sg) (w:World) (g:Nat) (args:List Value):Prop :=
 (∃ fn c,P.funcs[g]?=some fn∧(fn.name== "runtime.NumGoroutine")=false∧fn.body=some c) ∧
 Calls P g args.toArray w fun ex w'=>∃ u,ex=.returned u∧∃ I' β',Inv F I' β' σ' w'∧Ext F.J I β σ w I' β' σ' w'∧RV I' F.J β' σ' w' v u
def Calls1 (P:Program) [Laid P] (C:List Fun):Prop:=∀ (X:Type) (get:Sg) (fresh g:Nat) (args:List PV) (K:Eff→Option X) (x:X),Z703 C get fresh g args K=some x →
 ∃ e,K e=some x∧(ltK e.rd=true→∀ F I β σ w vs,FrOk P F→Inv F I β (ex σ) w→(∀ b∈e.rd,σ b=get b)→RVs I F.J β (ex σ) w args vs→Z402 P F (ex (updF e.upd σ)) e.v I β (ex σ) w g vs)
def Z559 (P:Program) [Laid P] (C:List Fun):Prop:=Calls1 P C∧Calls1 P (Z611 C)
theorem Z629 (st:St) (d:Nat) (v:PV):(st.set d v).get=setE st.get (some d) v:=by
 funext t
 simp only [St.set,St.get,look,setE]
 by_cases h:t=d
 ·subst h; simp
 ·have:Nat.beq t d=false:=by
   cases hb:Nat.beq t d with
   | false=>rfl
   | true=>exact absurd (Nat.eq_of_beq_eq_true hb) h
  simp [this,h]
theorem Z205 (st:St) (d:Option Tmp) (v:PV):(dstSet st d v).get=setE st.get d v:=by
 cases d with
 | none=>rfl
 | some d=>exact Z629 st d v
theorem Z180 (st:St) (d:Option Tmp) (v:PV):(dstSet st d v).box=st.box∧(dstSet st d v).nx=st.nx:=by
 cases d <;> exact ⟨rfl,rfl⟩
theorem Z52 (u l:List (Nat×Box)):(fun b=>look b (Z413 u l))=updF u (fun b=>look b l):=by
 funext b
 induction u with
 | nil=>rfl
 | cons p u ih =>
  obtain ⟨c,x⟩:=p
  simp only [Z413,look,updF]
  by_cases h:b=c
  ·subst h; simp [setF]
  ·have:Nat.beq b c=false:=by
    cases hb:Nat.beq b c with
    | false=>rfl
    | true=>exact absurd (Nat.eq_of_beq_eq_true hb) h
   rw [Z712 _ _ h]; simp [this,ih]
theorem Z145 (st:St) (d:Option Tmp) (e:Eff):(putEff st d e).get=setE st.get d e.v∧(putEff st d e).box=updF e.upd st.box∧(putEff st d e).nx=st.nx:=by
 refine ⟨?_,?_,?_⟩
 ·rw [← Z205]; rfl
 ·exact Z52 _ _
 ·simp only [putEff]; cases d <;> rfl
theorem Z468 (st:St) (t:Nat) (v:PV) (h:st.get t=v):(st.set t v).get=st.get:=by
 rw [Z629]
 funext t'
 simp only [setE]
 split
 ·rename_i e; rw [e,h]
 ·rfl
section
variable {P:Program} {F:Fr} {N:Nat} {ops:Array Oper} {Q:Exit→Act→World→Prop} {C:List Fun} {ty:Nat→Option TyI}
theorem Repr.put {env:Nat→PV} {σ':Sg} {a:Act} {w':World} {I':Rg} {β':Bt} {dst:Option Tmp} {v:PV} {u:Value} (h1:a.defers=[]) (h2:N≤a.tmps.size) (h3:Inv F I' β' (ex σ') w')
  (h4:∀ t,RV I' F.J β' (ex σ') w' (env t) (a.tmps.getD t undef)) (hd:okDst N dst=true) (hv:RV I' F.J β' (ex σ') w' v u):Repr F N (setE env dst v) σ' (a.put dst u) w':=by
 cases dst with
 | none=>exact ⟨h1,h2,I',β',h3,h4⟩
 | some d =>
  have hd:d < N:=by simpa [okDst] using hd
  refine ⟨h1,by simpa [Act.put] using h2,I',β',h3,?_⟩
  intro t
  have hlt:d < a.tmps.size:=Nat.lt_of_lt_of_le hd h2
  by_cases e:t=d
  ·subst e
   have:((a.put (some t) u).tmps.getD t undef)=u:=by simp [Act.put,hlt]
   rw [this]
   simpa [setE] using hv
  ·have:((a.put (some d) u).tmps.getD t undef)=a.tmps.getD t undef:=by
    simp [Act.put,Array.getElem?_setIfInBounds_ne (fun h=>e h.symm)]
   rw [this]
   simpa [setE,e] using h4 t
theorem Z286 {I J:Rg} {β:Bt} {σ:Sg} {w:World} (v:Value):RV I J β σ w (constV v) v:=by
 have hscs:∀ cs:List Value,RLs I J β σ w (cs.map .sc) cs:=by
  intro cs
  induction cs with
  | nil=>rfl
  | cons c r ih=>exact ⟨c,r,rfl,rfl,ih⟩
 unfold constV
 split
 ·rename_i cs
  exact ⟨cs.toList,by simp,hscs _⟩
 ·exact ⟨[],rfl,rfl⟩
 ·rfl
theorem val_rv {I J:Rg} {β:Bt} {σ:Sg} {w:World} {st:St} {a:Act} {x:Operand} (h:∀ t,x=.tmp t→RV I J β σ w (st.get t) (a.tmps.getD t undef)):RV I J β σ w (st.val x) (a.eval x):=by
 cases x with
 | tmp t=>exact h t rfl
 | const v=>exact Z286 v
 | func f=>exact ⟨[],rfl,rfl⟩
 | «global» g=>trivial
theorem Z486 {o:Oper} {t:Tmp} (h:Operand.tmp t∈o.op.operands):t∈o.looksAt ops :=
 List.mem_append_left _ (List.mem_filterMap.2 ⟨.tmp t,by simpa using h,rfl⟩)
theorem Z136 {o:Oper} {j:Nat} {want:Bool} {t:Tmp} (hg:o.guard=some (j,want)) (ht:(ops[j]?).bind (·.dst)=some t):t∈o.looksAt ops :=
 List.mem_append_right _ (by simp [hg,ht])
theorem Z127 {j:Nat} {t:Tmp} (h:Z469 ops.toList j=some t):(ops[j]?).bind (·.dst)=some t:=by
 simp only [Z469,nth_eq] at h
 rw [Array.getElem?_toList] at h
 cases ho:ops[j]? with
 | none=>simp [ho] at h
 | some o=>simpa [ho] using h
theorem Z169 {o:Oper} {j:Nat} {want b:Bool} {t:Tmp} {a:Act} (hg:o.guard=some (j,want)) (ht:(ops[j]?).bind (·.dst)=some t) (hv:a.tmps.getD t undef=.bool b) :
  Region.wanted o (yielded ops a.tmps)=(b==want):=by
 have h2:a.tmps[t]?=some (.bool b):=by
  cases h:a.tmps[t]? with
  | none=>simp [h,undef] at hv
  | some v=>simp [h] at hv; rw [hv]
 simp [Region.wanted,hg,yielded,ht,h2]
theorem Z104 {o:Oper} {j:Nat} {want:Bool} {t:Tmp} {a:Act} (hg:o.guard=some (j,want)) (ht:(ops[j]?).bind (·.dst)=some t) (hv:a.tmps.getD t undef=.tuple ⟨[]⟩) :
  Region.wanted o (yielded ops a.tmps)=false:=by
 cases h:a.tmps[t]? with
 | none=>simp [Region.wanted,hg,yielded,ht,h]
 | some v =>
  simp [h] at hv
  simp [Region.wanted,hg,yielded,ht,h,hv]
theorem Z330 {b:Nat}:∀ {l:List Nat},mem b l=true→b∈l
 | [],h=>by simp [mem] at h
 | c :: r,h=>by
  simp only [mem,Bool.or_eq_true] at h
  rcases h with h | h
  ·rw [Nat.eq_of_beq_eq_true h]; simp
  ·exact List.mem_cons_of_mem _ (Z330 h)
theorem Z143 {get:Sg} {rd:List Nat}:∀ {u:List (Nat×Box)},plainU get rd u=true→∀ p∈u,p.1∈rd∧Z673 (some p.2)=true∧plainO (get p.1)=true
 | [],_,p,h=>by cases h
 | (b,x) :: r,hu,p,h=>by
  simp only [plainU,Bool.and_eq_true] at hu
  rcases List.mem_cons.1 h with rfl | h
  ·exact ⟨Z330 hu.1.1.1,hu.1.1.2,hu.1.2⟩
  ·exact Z143 hu.2 p h
theorem Z212 {x:Option Box} (h:plainO x=true) (r:Nat):innB x r=none:=by
 unfold innB
 split
 ·simp [plainO] at h
 ·simp [plainO] at h
 ·rfl
theorem Z394 {u:List (Nat×Box)} {σ:Sg} {b:Nat} (h:b∈u.map (·.1)):∃ p∈u,p.1=b∧updF u σ b=some p.2:=by
 rw [Z727]
 cases hf:u.find? fun p=>p.1==b with
 | none =>
  obtain ⟨p,hp,rfl⟩:=List.mem_map.1 h
  have:=List.find?_eq_none.1 hf p hp
  simp at this
 | some p=>exact ⟨p,List.mem_of_find?_eq_some hf,by simpa using List.find?_some hf,rfl⟩
theorem ex_upd {u:List (Nat×Box)} {σ:Sg} (hu:∀ p∈u,p.1 < 1000000∧Z673 (some p.2)=true∧plainO (σ p.1)=true) (n:Nat) :
  ex (updF u σ) n=updF u (ex σ) n∨(ex (updF u σ) n=some .gone∧updF u (ex σ) n=none):=by
 cases hk:unkey n with
 | none =>
  have e1:ex (updF u σ) n=updF u σ n:=by unfold ex; rw [hk]
  have e2:ex σ n=σ n:=by unfold ex; rw [hk]
  rw [e1]
  left
  by_cases h:n∈u.map (·.1)
  ·exact Z728 h
  ·rw [Z268 h,Z268 h,e2]
 | some q =>
  obtain ⟨b,r⟩:=q
  have hn:=Z266 hk
  subst hn
  have hno:key b r ∉ u.map (·.1):=by
   intro h
   obtain ⟨p,hp,e⟩:=List.mem_map.1 h
   have h1:=(hu p hp).1
   have h2:=key_ge b r
   omega
  rw [Z268 hno,ex_key,ex_key]
  by_cases h:b∈u.map (·.1)
  ·obtain ⟨p,hp,e,hv⟩:=Z394 (σ:=σ) h
   obtain ⟨h1,h2,h3⟩:=hu p hp
   rw [hv,← e,Z212 h3]
   obtain ⟨pb,px⟩:=p
   cases px with
   | pool v t pos inn=>simp [Z673] at h2
   | gone=>exact .inr ⟨rfl,rfl⟩
   | var T c=>exact .inl rfl
   | row v t xs=>exact .inl rfl
  ·left; rw [Z268 h]
theorem Z230 {st:St} {o:Oper} {i:Nat} {v:PV} {upd:List (Nat×Box)} {rd:List Nat} (hi:ops[i]?=some o) (hdst:okDst N o.dst=true)
  (hw:∀ a:Act,(∀ t∈o.looksAt ops,∀ v,st.get t=.one (.sc v)→a.tmps.getD t undef=v)→Region.wanted o (yielded ops a.tmps)=true)
  (hdo:∀ (I:Rg) (β:Bt) (σ:Sg) (w:World) (a:Act),Inv F I β (ex σ) w→(∀ b∈rd,σ b=st.box b)→(∀ x∈o.op.operands,RV I F.J β (ex σ) w (st.val x) (a.eval x)) →
   ∀ next:Act→World→Prop,(∀ u w' I' β',Inv F I' β' (ex (updF upd σ)) w'→Ext F.J I β (ex σ) w I' β' (ex (updF upd σ)) w'→RV I' F.J β' (ex (updF upd σ)) w' v u→next (a.put o.dst u) w')→o.wp P a w next Q) :
  Rc.ok P F N ops Q i { dst:=o.dst,v:=v,upd:=upd,looks:=o.looksAt ops,rd:=rd,env0:=st.get,σ0:=st.box }:=by
 intro env σ a w K hR hpre hK
 obtain ⟨h1,h2,I,β,h3,h4⟩:=hR
 obtain ⟨hp1,hp2⟩:=hpre
 simp only at hp1 hp2 hK
 have h4':∀ t∈o.looksAt ops,RV I F.J β (ex σ) w (st.get t) (a.tmps.getD t undef):=fun t ht=>by rw [← hp1 t ht]; exact h4 t
 unfold wpOp
 simp only [hi]
 rw [if_pos]
 ·refine .inl (hdo I β σ w a h3 hp2 ?_ K ?_)
  ·intro x hx
   apply val_rv
   rintro t rfl
   exact h4' t (Z486 hx)
  ·intro u w' I' β' h5 h6 h7
   exact hK _ _ (Repr.put h1 h2 h5 (fun t=>h6.rv (h4 t)) hdst h7)
 ·apply hw
  intro t ht b hb
  have:=h4' t ht
  rw [hb] at this
  exact this
theorem Z341 {st:St} {o:Oper} {i:Nat} {v:PV} {upd:List (Nat×Box)} {rd:List Nat} (hi:ops[i]?=some o) (hdst:okDst N o.dst=true)
  (hw:∀ a:Act,(∀ t∈o.looksAt ops,∀ v,st.get t=.one (.sc v)→a.tmps.getD t undef=v)→Region.wanted o (yielded ops a.tmps)=true)
  (hrd:ltK rd=true) (hpl:plainU st.box rd upd=true)
  (hdo:∀ (I:Rg) (β:Bt) (σ:Sg) (w:World) (a:Act),Inv F I β σ w→(∀ b∈rd,σ b=st.box b)→(∀ x∈o.op.operands,RV I F.J β σ w (st.val x) (a.eval x)) →
   ∀ next:Act→World→Prop,(∀ u w' I' β',Inv F I' β' (updF upd σ) w'→Ext F.J I β σ w I' β' (updF upd σ) w'→RV I' F.J β' (updF upd σ) w' v u→next (a.put o.dst u) w')→o.wp P a w next Q) :
  Rc.ok P F N ops Q i { dst:=o.dst,v:=v,upd:=upd,looks:=o.looksAt ops,rd:=rd,env0:=st.get,σ0:=st.box }:=by
 have hlt:=Z487 hrd
 refine Z230 hi hdst hw ?_
 intro I β σ w a hI hp2 hv next hnext
 refine hdo I β (ex σ) w a hI (fun b hb=>by rw [ex_low (hlt b hb)]; exact hp2 b hb) hv next ?_
 intro u w' I' β' h5 h6 h7
 obtain ⟨g1,g2⟩:=h5.pad (ex_upd (fun p hp=>by
  obtain ⟨q1,q2,q3⟩:=Z143 hpl p hp
  exact ⟨hlt _ q1,q2,by rw [hp2 _ q1]; exact q3⟩))
 exact hnext u w' I' β' g1 (h6.trans g2) (g2.rv h7)
theorem Z342 {st:St} {o:Oper} {i:Nat} (hi:ops[i]?=some o) (hdst:okDst N o.dst=true)
  (hw:∀ a:Act,(∀ t∈o.looksAt ops,∀ v,st.get t=.one (.sc v)→a.tmps.getD t undef=v)→Region.wanted o (yielded ops a.tmps)=false) :
  Rc.ok P F N ops Q i { dst:=o.dst,v:=.one (.sc (.tuple ⟨[]⟩)),upd:=[],looks:=o.looksAt ops,rd:=[],env0:=st.get,σ0:=st.box }:=by
 intro env σ a w K hR hpre hK
 obtain ⟨h1,h2,I,β,h3,h4⟩:=hR
 obtain ⟨hp1,hp2⟩:=hpre
 simp only at hp1 hp2 hK
 have h4':∀ t∈o.looksAt ops,RV I F.J β (ex σ) w (st.get t) (a.tmps.getD t undef):=fun t ht=>by rw [← hp1 t ht]; exact h4 t
 unfold wpOp
 simp only [hi]
 rw [if_neg]
 ·exact hK _ _ (Repr.put h1 h2 h3 h4 hdst rfl)
 ·rw [hw a ?_]
  ·simp
  ·intro t ht b hb
   have:=h4' t ht
   rw [hb] at this
   exact this
theorem Z522 {I J:Rg} {β:Bt} {σ:Sg} {w:World} {ρ:Operand→PV} {ev:Operand→Value}:∀ {xs:List Operand},(∀ x∈xs,RV I J β σ w (ρ x) (ev x))→RVs I J β σ w (xs.map ρ) (xs.map ev)
 | [],_=>rfl
 | x :: r,h=>⟨ev x,r.map ev,rfl,h x (by simp),Z522 fun y hy=>h y (by simp [hy])⟩
theorem Z250 {I J:Rg} {β:Bt} {σ:Sg} {w:World}:∀ {ps qs:List PV} {us vs:List Value},RVs I J β σ w ps us→RVs I J β σ w qs vs→RVs I J β σ w (ps++qs) (us++vs)
 | [],qs,us,vs,h,h'=>by simp only [RVs] at h; subst h; exact h'
 | p :: r,qs,us,vs,h,h'=>by
  obtain ⟨v,rest,rfl,h1,h2⟩:=h
  exact ⟨v,rest++vs,rfl,h1,Z250 h2 h'⟩
theorem Z419 {I J:Rg} {β:Bt} {σ:Sg} {w:World}:∀ {caps:List Nat} {vs:List Value},CapsAt β σ caps vs→RVs I J β σ w (caps.map fun b=>.one (.ref b 0 0 0 0 0)) vs
 | [],vs,h=>h
 | b :: r,vs,h=>by
  obtain ⟨v,rest,rfl,⟨x,hx,h1⟩,h2⟩:=h
  exact ⟨v,rest,rfl,⟨.inl ⟨rfl,rfl⟩,x,hx,h1⟩,Z419 h2⟩
theorem Z168 (u v:List (Nat×Box)) (σ:Sg):updF (u++v) σ=updF u (updF v σ):=by
 induction u with
 | nil=>rfl
 | cons p u ih=>obtain ⟨b,x⟩:=p; simp only [List.cons_append,updF,ih]
theorem Z395 (u:List (Nat×Box)) (get:Sg):updG u get=updF u get:=by
 funext b
 induction u with
 | nil=>rfl
 | cons p u ih =>
  obtain ⟨c,x⟩:=p
  simp only [updG,look,updF] at ih ⊢
  by_cases h:b=c
  ·subst h; simp [setF]
  ·have:Nat.beq b c=false:=by
    cases hb:Nat.beq b c with
    | false=>rfl
    | true=>exact absurd (Nat.eq_of_beq_eq_true hb) h
   rw [this,cond_false,Z712 _ _ h]
   exact ih
theorem Z554 {u:List (Nat×Box)} {σ get:Sg} {b:Nat} (h:σ b=get b):updF u σ b=updF u get b:=by
 induction u with
 | nil=>exact h
 | cons p u ih =>
  obtain ⟨c,x⟩:=p
  simp only [updF]
  by_cases e:b=c
  ·subst e; simp
  ·rw [Z712 _ _ e,Z712 _ _ e,ih]
theorem Z75 {get:Sg} {b:Nat} {u:List (Nat×Box)} (hu:frzOne get b=some u) {I:Rg} {β:Bt} {σ:Sg} {w:World} (hI:Inv F I β σ w) (hg:∀ c∈u.map (·.1),σ c=get c) :
  ∃ I',Inv F I' β (updF u σ) w∧Ext F.J I β σ w I' β (updF u σ) w:=by
 unfold frzOne at hu
 split at hu
 ·rename_i T cells hb
  split at hu
  ·rename_i cells' c g him
   cases hm:mem b (c :: g) with
   | true=>rw [hm,cond_true] at hu; cases hu
   | false =>
    rw [hm,cond_false] at hu
    injection hu with hu
    subst hu
    have hbσ:σ b=some (.var T cells):=by rw [hg b (by simp),hb]
    obtain ⟨blk,vs,h1,h2,h3⟩:=hI.good.box b _ hbσ
    obtain ⟨I1,hI1,hE1,hq⟩:=Z316 him (fun d hd=>hg d (by
     have:d∈c :: g:=hd
     simp only [List.map_cons,List.mem_cons]
     refine .inr ?_
     unfold goneU
     rw [List.map_map]
     exact List.mem_map.2 ⟨d,this,rfl⟩)) hI h3
    have hnb:b ∉ c :: g:=fun hx=>by rw [Z659.2 hx] at hm; cases hm
    have hbσ':updF (goneU (c :: g)) σ b=some (.var T cells):=by rw [Z103 hnb,hbσ]
    have hB:setB β b (β b)=β:=by
     funext d; by_cases e:d=b
     ·subst e; simp
     ·rw [Z711 _ _ e]
    obtain ⟨m1,m2⟩:=hI1.change (own:=fun _=>False) (b:=b) (x':=.var T cells') (bv:=β b) (.refl _ w) (fun _ h=>h.elim)
     (fun x hx=>by rw [hbσ'] at hx; injection hx with hx; subst hx; exact ⟨rfl,by simp⟩)
     (fun blk o h=>.inr ⟨by rw [hbσ']; trivial,o,h⟩)
     (fun hx=>⟨blk,vs,by simp [h1],h2,hx.rls hq⟩)
    rw [hB] at m1 m2
    exact ⟨I1,m1,hE1.trans m2⟩
  ·cases hu
 ·cases hu
theorem Z21 {get:Sg}:∀ {l:List Nat} {u:List (Nat×Box)},Z464 get l=some u→∃ b,frzOne get b=some u
 | [],u,h=>by cases h
 | b :: r,u,h=>by
  simp only [Z464] at h
  split at h
  ·rename_i v hv
   injection h with h
   subst h
   exact ⟨b,hv⟩
  ·exact Z21 h
theorem Z221:∀ {l m:List Nat},ltK (l++m)=true→ltK l=true∧ltK m=true
 | [],m,h=>⟨rfl,h⟩
 | b :: l,m,h=>by
  simp only [List.cons_append,ltK,Bool.and_eq_true] at h ⊢
  obtain ⟨h1,h2⟩:=Z221 h.2
  exact ⟨⟨h.1,h1⟩,h2⟩
theorem callsZ {P:Program} [Laid P] {C:List Fun} (hC:Z559 P C) (X:Type) (get:Sg) (fresh g:Nat) (args:List PV) (K:Eff→Option X) (x:X) (h:Z519 C get fresh g args K=some x) :
  ∃ e,K e=some x∧(ltK e.rd=true→∀ F I β σ w vs,FrOk P F→Inv F I β (ex σ) w→(∀ b∈e.rd,σ b=get b)→RVs I F.J β (ex σ) w args vs→Z402 P F (ex (updF e.upd σ)) e.v I β (ex σ) w g vs):=by
 unfold Z519 at h
 split at h
 ·exact hC.1 _ _ _ _ _ _ _ h
 ·rename_i u hu
  obtain ⟨b,hb⟩:=Z21 hu
  cases hpl:plainU get (u.map (·.1)) u with
  | false=>rw [hpl,cond_false] at h; cases h
  | true =>
  rw [hpl,cond_true] at h
  obtain ⟨e,hK,hdo⟩:=hC.2 _ _ _ _ _ _ _ h
  refine ⟨_,hK,?_⟩
  intro hlt F I β σ w vs hl hI hrd hv
  simp only at hrd hlt ⊢
  obtain ⟨hlt1,hlt2⟩:=Z221 hlt
  have hltu:=Z487 hlt1
  obtain ⟨I',g1,g2⟩:=Z75 (F:=F) hb hI (fun c hc=>by rw [ex_low (hltu c hc)]; exact hrd c (List.mem_append_left _ hc))
  obtain ⟨q1,q2⟩:=g1.pad (ex_upd (fun p hp=>by
   obtain ⟨r1,r2,r3⟩:=Z143 hpl p hp
   exact ⟨hltu _ r1,r2,by rw [hrd _ (List.mem_append_left _ r1)]; exact r3⟩))
  have:=hdo hlt2 F I' β (updF u σ) w vs hl q1 (fun c hc=>by rw [Z395]; exact Z554 (hrd c (List.mem_append_right _ hc))) (q2.rvs (g2.rvs hv))
  rw [← Z168] at this
  refine ⟨this.1,this.2.mono ?_⟩
  rintro ex w' ⟨uu,rfl,I2,β2,k1,k2,k3⟩
  exact ⟨uu,rfl,I2,β2,k1,(g2.trans q2).trans k2,k3⟩
theorem Z91 {g:Nat} {args:Array Value} {w:World} (h:∃ fn c,P.funcs[g]?=some fn∧(fn.name== "runtime.NumGoroutine")=false∧fn.body=some c) :
  (callFunc g args).run P w=.ok (.enter g args) w:=by
 obtain ⟨fn,c,h1,h2,h3⟩:=h
 have h2':¬ fn.name= "runtime.NumGoroutine":=by simpa using h2
 simp [callFunc,h1,h2',h3]
theorem Z653 {X:Type} (op:Op) (u:List (Nat×Box)) (f:List (Nat×Box)→Option X):letU op u f=f u:=by
 unfold letU
 split
 ·rename_i t xs r
  cases Nat.ble 5 t.sz <;> rfl
 ·rfl
theorem Z59 [Laid P] (hty:TysOk P ty) (hC:Z559 P C) (hl:FrOk P F) {X:Type} {st:St} {fresh:Nat} {o:Oper} {K:St→Sig→Option X} {x:X} {i:Nat} (hi:ops[i]?=some o)
  (hw:∀ a:Act,(∀ t∈o.looksAt ops,∀ v,st.get t=.one (.sc v)→a.tmps.getD t undef=v)→Region.wanted o (yielded ops a.tmps)=true)
  (h:Z704 C ty N st fresh o K=some x) :
  ∃ (v:PV) (upd:List (Nat×Box)) (rd:List Nat) (st':St),K st' ⟨rd,upd.map (·.1)⟩=some x∧st'.get=setE st.get o.dst v∧st'.box=updF upd st.box∧st'.nx=st.nx ∧
   Rc.ok P F N ops Q i { dst:=o.dst,v:=v,upd:=upd,looks:=o.looksAt ops,rd:=rd,env0:=st.get,σ0:=st.box }:=by
 unfold Z704 at h
 cases hdst:okDst N o.dst with
 | false=>simp [hdst] at h
 | true =>
  simp only [hdst,cond_true] at h
  split at h
  ·rename_i c y z hop
   split at h
   ·rename_i t hc
    have hsel:∀ (q:Operand),(q=if t then y else z)→Rc.ok P F N ops Q i { dst:=o.dst,v:=st.val q,upd:=[],looks:=o.looksAt ops,rd:=[],env0:=st.get,σ0:=st.box }:=by
     intro q hq
     apply Z341 hi hdst hw rfl rfl
     intro I β σ w a hI hrd hv next hnext
     rw [hop] at hv
     have hvc:=hv c (by simp [Op.operands])
     rw [hc] at hvc
     have hvc:a.eval c=.bool t:=hvc
     have hvq:=hv q (by rw [hq]; cases t <;> simp [Op.operands])
     have hrun:(execOp a.eval o).run P w=.ok (.value (a.eval q)) w:=by
      obtain ⟨dst,op,type,pos,after,guard⟩:=o
      simp only at hop
      subst hop
      cases t <;> simp_all [execOp,asBool]
     unfold Oper.wp
     rw [hrun]
     exact hnext _ _ I β hI (.refl ..) hvq
    cases t with
    | true =>
     simp only [cond_true] at h
     refine ⟨_,[],[],_,h,Z205 _ _ _,(Z180 _ _ _).1,(Z180 _ _ _).2,hsel _ rfl⟩
    | false =>
     simp only [cond_false] at h
     refine ⟨_,[],[],_,h,Z205 _ _ _,(Z180 _ _ _).1,(Z180 _ _ _).2,hsel _ rfl⟩
   ·cases h
  ·rename_i f args ats hop
   split at h
   ·rename_i g caps hcal
    obtain ⟨e,hK,hdo⟩:=callsZ hC _ _ _ _ _ _ _ h
    obtain ⟨p1,p2,p3⟩:=Z145 st o.dst e
    cases hck:ltK e.rd with
    | false=>simp [hck] at hK
    | true =>
    simp only [hck,cond_true] at hK
    refine ⟨e.v,e.upd,e.rd,_,hK,p1,p2,p3,Z230 hi hdst hw ?_⟩
    intro I β σ w a hI hrd hv next hnext
    rw [hop] at hv
    have hvf:=hv f (by simp [Op.operands,Call.operands])
    simp only [Z417] at hcal
    split at hcal
    ·rename_i g' caps' hf
     simp only [Option.some.injEq,Prod.mk.injEq] at hcal
     obtain ⟨rfl,rfl⟩:=hcal
     rw [hf] at hvf
     obtain ⟨vs,hfv,hcaps⟩:=hvf
     have hargs:RVs I F.J β (ex σ) w (args.toList.map st.val) (args.toList.map a.eval):=Z522 fun y hy=>hv y (by simp [Op.operands,Call.operands]; exact .inr (by simpa using hy))
     obtain ⟨hfn,hcalls⟩:=hdo hck F I β σ w _ hl hI hrd (Z250 hargs (Z419 hcaps))
     have hrun:(execOp a.eval o).run P w=.ok (.enter g' (args.toList.map a.eval++vs).toArray) w:=by
      obtain ⟨dst,op,type,pos,after,guard⟩:=o
      simp only at hop
      subst hop
      have harr:args.map a.eval++vs.toArray=(args.toList.map a.eval++vs).toArray:=by apply Array.ext'; simp
      simp only [execOp,resolve,hfv,Deferred.ofValue]
      have:=Z91 (args:=args.map a.eval++vs.toArray) (w:=w) hfn
      rw [harr] at this
      simp [invoke,harr,this]
     unfold Oper.wp
     rw [hrun,Oper.upon_enter]
     refine hcalls.mono ?_
     rintro ex w' ⟨u,rfl,I',β',h5,h6,h7⟩
     exact hnext u w' I' β' h5 h6 h7
    ·cases hcal
   ·cases h
  ·rename_i op hnp hnc
   split at h
   ·rename_i e hstep
    cases hfr0:(look fresh st.bx).isNone&&(ltK (fresh :: e.rd)&&updIn (fresh :: e.rd) e.upd) with
    | false=>simp [hfr0] at h
    | true =>
     simp only [hfr0,cond_true] at h
     rw [Bool.and_eq_true,Bool.and_eq_true] at hfr0
     obtain ⟨hfr,hck1,hck2⟩:=hfr0
     cases hg:e.g with
     | false=>simp [hg] at h
     | true =>
      rw [hg,cond_true] at h
      obtain ⟨p1,p2,p3⟩:=Z145 st o.dst e
      refine ⟨e.v,e.upd,fresh :: e.rd,_,h,p1,p2,p3,Z230 hi hdst hw ?_⟩
      intro I β σ w a hI hrd hv next hnext
      have hf0:σ fresh=none:=by
       rw [hrd fresh (by simp)]
       simpa [St.box] using hfr
      obtain ⟨nx,u,w',hrun,hnx,I',β',h5,h6,h7⟩:=Z37 (F:=F) (P:=P) hty hI hstep hg (fun b hb=>hrd b (by simp [hb])) hf0 (Z487 hck1) hv
      unfold Oper.wp
      rw [hrun]
      rcases hnx with rfl | ⟨rfl,rfl⟩
      ·exact hnext _ _ I' β' h5 h6 h7
      ·exact hnext _ _ I' β' h5 h6 h7
   split at h
   ·rename_i e hstep
    cases hfr0:(look fresh st.bx).isNone&&(ltK (fresh :: e.rd)&&plainU (fun b=>look b st.bx) (fresh :: e.rd) e.upd) with
    | false=>simp [hfr0] at h
    | true =>
     simp only [hfr0,cond_true] at h
     rw [Bool.and_eq_true,Bool.and_eq_true] at hfr0
     obtain ⟨hfr,hck1,hck2⟩:=hfr0
     cases hg:e.g with
     | false=>simp [hg] at h
     | true =>
      rw [hg,cond_true,Z653] at h
      obtain ⟨p1,p2,p3⟩:=Z145 st o.dst e
      refine ⟨e.v,e.upd,fresh :: e.rd,_,h,p1,p2,p3,Z341 hi hdst hw hck1 hck2 ?_⟩
      intro I β σ w a hI hrd hv next hnext
      have hf0:σ fresh=none:=by
       rw [hrd fresh (by simp)]
       simpa [St.box] using hfr
      obtain ⟨nx,u,w',hrun,hnx,I',β',h5,h6,h7⟩:=Z99 (F:=F) (P:=P) hty hI hstep hg (fun b hb=>hrd b (by simp [hb])) hf0 hv
      unfold Oper.wp
      rw [hrun]
      rcases hnx with rfl | ⟨rfl,rfl⟩
      ·exact hnext _ _ I' β' h5 h6 h7
      ·exact hnext _ _ I' β' h5 h6 h7
   ·cases h
theorem Z116 {r r':Nat→Rc}:∀ {l:List Nat} {env:Nat→PV} {σ:Sg},(∀ k∈l,r k=r' k)→chain r l env σ→chain r' l env σ
 | [],_,_,_,_=>trivial
 | i :: l,env,σ,h,hc=>by
  have e:=h i (by simp)
  refine ⟨by rw [← e]; exact hc.1,?_⟩
  rw [← e]
  exact Z116 (fun k hk=>h k (by simp [hk])) hc.2
theorem Z199 {r r':Nat→Rc}:∀ {l:List Nat} {env:Nat→PV},(∀ k∈l,r k=r' k)→finE r l env=finE r' l env
 | [],_,_=>rfl
 | i :: l,env,h=>by
  simp only [finE]
  rw [h i (by simp)]
  exact Z199 fun k hk=>h k (by simp [hk])
theorem Z200 {r r':Nat→Rc}:∀ {l:List Nat} {σ:Sg},(∀ k∈l,r k=r' k)→finS r l σ=finS r' l σ
 | [],_,_=>rfl
 | i :: l,σ,h=>by
  simp only [finS]
  rw [h i (by simp)]
  exact Z200 fun k hk=>h k (by simp [hk])
structure Ran (P:Program) (F:Fr) (N:Nat) (ops:Array Oper) (Q:Exit→Act→World→Prop) (i n:Nat) (st st':St) (sigs:List Sig) (r:Nat→Rc):Prop where
 len:sigs.length=n
 nx:st'.nx=st.nx
 ch:chain r (List.range' i n) st.get st.box
 env:finE r (List.range' i n) st.get=st'.get
 box:finS r (List.range' i n) st.box=st'.box
 each:∀ k,k < n→Rc.ok P F N ops Q (i+k) (r (i+k))∧(∃ o,ops[i+k]?=some o∧(r (i+k)).dst=o.dst∧(r (i+k)).looks=o.looksAt ops) ∧
  ∃ s,sigs[k]?=some s∧s.rd=(r (i+k)).rd∧s.wr=(r (i+k)).upd.map (·.1)
theorem Ran.nil (i:Nat) (st:St) (r:Nat→Rc):Ran P F N ops Q i 0 st st [] r:=⟨rfl,rfl,trivial,rfl,rfl,fun k hk=>absurd hk (by omega)⟩
theorem Ran.cons {i n:Nat} {st st1 st':St} {o:Oper} {v:PV} {upd:List (Nat×Box)} {rd:List Nat} {env0:Nat→PV} {sigs:List Sig} {r:Nat→Rc} (hi:ops[i]?=some o)
  (henv:env0=st.get)
  (hok:Rc.ok P F N ops Q i { dst:=o.dst,v:=v,upd:=upd,looks:=o.looksAt ops,rd:=rd,env0:=env0,σ0:=st.box })
  (h1:st1.get=setE st.get o.dst v) (h2:st1.box=updF upd st.box) (h3:st1.nx=st.nx) (hr:Ran P F N ops Q (i+1) n st1 st' sigs r) :
  ∃ r',Ran P F N ops Q i (n+1) st st' (⟨rd,upd.map (·.1)⟩ :: sigs) r':=by
 subst henv
 refine ⟨fun k=>if k=i then { dst:=o.dst,v:=v,upd:=upd,looks:=o.looksAt ops,rd:=rd,env0:=st.get,σ0:=st.box } else r k,?_⟩
 have hsame:∀ k∈List.range' (i+1) n,r k=(fun k=>if k=i then ({ dst:=o.dst,v:=v,upd:=upd,looks:=o.looksAt ops,rd:=rd,env0:=st.get,σ0:=st.box }:Rc) else r k) k:=by
  intro k hk
  have:=List.mem_range'_1.1 hk
  simp only
  rw [if_neg (by omega)]
 refine ⟨by simp [hr.len],by rw [hr.nx,h3],?_,?_,?_,?_⟩
 ·rw [List.range'_succ]
  refine ⟨?_,?_⟩
  ·simp only [if_pos]
   exact ⟨fun _ _=>rfl,fun _ _=>rfl⟩
  ·simp only [if_pos]
   rw [← h1,← h2]
   exact Z116 hsame hr.ch
 ·rw [List.range'_succ,finE]
  simp only [if_pos]
  rw [← h1,← Z199 hsame]
  exact hr.env
 ·rw [List.range'_succ,finS]
  simp only [if_pos]
  rw [← h2,← Z200 hsame]
  exact hr.box
 ·intro k hk
  cases k with
  | zero =>
   simp only [Nat.add_zero,if_pos]
   exact ⟨hok,⟨o,hi,rfl,rfl⟩,_,rfl,rfl,rfl⟩
  | succ k =>
   have:=hr.each k (by omega)
   rw [show i+1+k=i+(k+1) by omega] at this
   rw [if_neg (by omega)]
   simpa using this
theorem Z90 [Laid P] (hty:TysOk P ty) (hC:Z559 P C) (hl:FrOk P F) {X:Type} {nx:Nat} {x:X} :
  ∀ (rest:List Oper) (i:Nat) (st:St) (tr:List Sig) (K:St→List Sig→Option X),ops.toList.drop i=rest→runOps C ty N ops.toList nx rest i st tr K=some x →
   ∃ st' sigs r,K st' (tr++sigs)=some x∧Ran P F N ops Q i rest.length st st' sigs r
 | [],i,st,tr,K,_,h=>⟨st,[],fun _=>{ dst:=none,v:=.one .dead,upd:=[],looks:=[],rd:=[],env0:=st.get,σ0:=st.box },by simpa [runOps] using h,.nil ..⟩
 | o :: rest,i,st,tr,K,hd,h=>by
  have hi:ops[i]?=some o:=by
   have:(ops.toList.drop i)[0]?=some o:=by rw [hd]; rfl
   simpa using this
  have hd':ops.toList.drop (i+1)=rest:=by
   rw [← List.tail_drop,hd]; rfl
  unfold runOps at h
  cases hg:o.guard with
  | none =>
   simp only [hg] at h
   obtain ⟨v,upd,rd,st1,h1,h2,h3,h4,h5⟩:=Z59 (F:=F) (Q:=Q) hty hC hl hi (fun a _=>by simp [Region.wanted,hg]) h
   obtain ⟨st',sigs,r,h6,h7⟩:=Z90 hty hC hl rest (i+1) st1 _ K hd' h1
   obtain ⟨r',h8⟩:=h7.cons hi rfl h5 h2 h3 h4
   exact ⟨st',_,r',by simpa using h6,h8⟩
  | some jw =>
   obtain ⟨j,want⟩:=jw
   simp only [hg] at h
   split at h
   ·rename_i t ht
    have htd:=Z127 ht
    split at h
    ·rename_i b hb
     have key:∀ (c:Bool),b=c→(st.set t (.one (.sc (.bool c)))).get=st.get:=by
      rintro c rfl
      exact Z468 st t _ hb
     have yes:b=want→Z704 C ty N (st.set t (.one (.sc (.bool want)))) (nx+width*i) o (fun st' s=>runOps C ty N ops.toList nx rest (i+1) st' (tr++[s]) K)=some x →
       ∃ st' sigs r,K st' (tr++sigs)=some x∧Ran P F N ops Q i (rest.length+1) st st' sigs r:=by
      intro hbw h
      obtain ⟨v,upd,rd,st1,h1,h2,h3,h4,h5⟩:=Z59 (F:=F) (Q:=Q) hty hC hl hi (fun a ha=>by
       have:=ha t (Z136 hg htd) (.bool want) (by rw [key want hbw]; rw [hb,hbw])
       rw [Z169 hg htd this]
       simp) h
      obtain ⟨st',sigs,r,h6,h7⟩:=Z90 hty hC hl rest (i+1) st1 _ K hd' h1
      obtain ⟨r',h8⟩:=h7.cons (st:=st) hi (key want hbw) h5 (by rw [h2,key want hbw]) h3 h4
      exact ⟨st',_,r',by simpa using h6,h8⟩
     have no:b=!want→runOps C ty N ops.toList nx rest (i+1) (dstSet (st.set t (.one (.sc (.bool (!want))))) o.dst (.one (.sc (.tuple ⟨[]⟩)))) (tr++[⟨[],[]⟩]) K=some x →
       okDst N o.dst=true→∃ st' sigs r,K st' (tr++sigs)=some x∧Ran P F N ops Q i (rest.length+1) st st' sigs r:=by
      intro hbw h hok
      obtain ⟨st',sigs,r,h6,h7⟩:=Z90 hty hC hl rest (i+1) _ _ K hd' h
      have hskip:=Z342 (P:=P) (F:=F) (Q:=Q) (st:=st) hi hok (fun a ha=>by
       have:=ha t (Z136 hg htd) (.bool b) hb
       rw [Z169 hg htd this,hbw]
       simp)
      obtain ⟨r',h8⟩:=h7.cons (st:=st) hi rfl hskip (by rw [Z205,key _ hbw]) (by rw [(Z180 _ _ _).1]; rfl) (by rw [(Z180 _ _ _).2]; rfl)
      exact ⟨st',_,r',by simpa using h6,h8⟩
     have no':b=!want→(bif okDst N o.dst then runOps C ty N ops.toList nx rest (i+1) (dstSet (st.set t (.one (.sc (.bool (!want))))) o.dst (.one (.sc (.tuple ⟨[]⟩)))) (tr++[⟨[],[]⟩]) K else none)=some x →
       ∃ st' sigs r,K st' (tr++sigs)=some x∧Ran P F N ops Q i (rest.length+1) st st' sigs r:=by
      intro hbw h
      cases hok:okDst N o.dst with
      | false=>simp [hok] at h
      | true=>simp only [hok,cond_true] at h; exact no hbw h hok
     cases b <;> cases want <;> simp only [cond_true,cond_false] at h
     ·exact yes rfl h
     ·exact no' rfl h
     ·exact no' rfl h
     ·exact yes rfl h
    ·rename_i hu
     cases hok:okDst N o.dst with
     | false=>simp [hok] at h
     | true =>
      simp only [hok,cond_true] at h
      obtain ⟨st',sigs,r,h6,h7⟩:=Z90 hty hC hl rest (i+1) _ _ K hd' h
      have hskip:=Z342 (P:=P) (F:=F) (Q:=Q) (st:=st) hi hok (fun a ha=>by
       have:=ha t (Z136 hg htd) (.tuple ⟨[]⟩) hu
       exact Z104 hg htd this)
      obtain ⟨r',h8⟩:=h7.cons (st:=st) hi rfl hskip (by rw [Z205]) (by rw [(Z180 _ _ _).1]; rfl) (by rw [(Z180 _ _ _).2])
      exact ⟨st',_,r',by simpa using h6,h8⟩
    ·cases h
   ·cases h
theorem Z42:∀ {l m:List Nat},Z431 l m=true→∀ b∈l,b ∉ m
 | [],m,_=>by simp
 | c :: r,m,h=>by
  simp only [Z431,Bool.and_eq_true,Bool.not_eq_true'] at h
  intro b hb hm
  rcases List.mem_cons.1 hb with rfl | hb
  ·have:mem b m=true:=by
    clear h hb
    induction m with
    | nil=>cases hm
    | cons d m ih =>
     simp only [mem,Bool.or_eq_true]
     rcases List.mem_cons.1 hm with rfl | hm
     ·exact .inl (Nat.beq_refl _)
     ·exact .inr (ih hm)
   rw [this] at h; exact absurd h.1 (by simp)
  ·exact Z42 h.2 b hb hm
theorem Z235 {all:Array Oper} {oj:Oper} {sj:Sig} {bits:Nat}:∀ {l:List Oper} {q:List Sig} {i:Nat},Z686 all oj sj bits i l q=true→∀ k o s,l[k]?=some o→q[k]?=some s →
  Nat.testBit bits (i+k)=true∨(o.apart all oj=true∧apartS s sj=true)
 | [],_,_,_,k,o,s,hk,_=>by simp at hk
 | o :: r,[],_,h,_,_,_,_,hs=>by simp at hs
 | o :: r,s :: q,i,h,k,o',s',hk,hs=>by
  simp only [Z686,Bool.and_eq_true,Bool.or_eq_true] at h
  cases k with
  | zero =>
   simp only [List.getElem?_cons_zero,Option.some.injEq] at hk hs
   subst hk; subst hs
   simpa using h.1
  | succ k =>
   simp only [List.getElem?_cons_succ] at hk hs
   have:=Z235 h.2 k o' s' hk hs
   rwa [show i+1+k=i+(k+1) by omega] at this
theorem Z231 {all:Array Oper} {l:List Oper} {tr:List Sig}:∀ {r:List Oper} {q:List Sig} {bs:List Nat} {n:Nat},Z681 all l tr r q bs=true→n+r.length=l.length →
  ∀ k o s b,r[k]?=some o→q[k]?=some s→bs[k]?=some b→Z686 all o s b 0 (l.take (n+k)) (tr.take (n+k))=true
 | [],_,_,_,_,_,k,o,s,b,hk,_,_=>by simp at hk
 | _ :: _,[],_,_,_,_,k,o,s,b,_,hs,_=>by simp at hs
 | _ :: _,_ :: _,[],_,_,_,k,o,s,b,_,_,hb=>by simp at hb
 | o :: r,s :: q,b :: bs,n,h,hn,k,o',s',b',hk,hs,hb=>by
  simp only [Z681,Bool.and_eq_true] at h
  simp only [List.length_cons] at hn
  cases k with
  | zero =>
   simp only [List.getElem?_cons_zero,Option.some.injEq] at hk hs hb
   subst hk; subst hs; subst hb
   have:=h.1
   rw [show l.length - (r.length+1)=n by omega] at this
   exact this
  | succ k =>
   simp only [List.getElem?_cons_succ] at hk hs hb
   have:=Z231 h.2 (n:=n+1) (by omega) k o' s' b' hk hs hb
   rwa [show n+1+k=n+(k+1) by omega] at this
theorem Z13 [Laid P] (hm:P.follows .mixedOrders=true) (hty:TysOk P ty) (hC:Z559 P C) (hl:FrOk P F) {X:Type} {id:Nat} {draw:Bool} {st:St} {K:St→Option X} {x:X}
  (h:Z362 C ty N ops draw st K=some x) {a:Act} {w:World} (hR:Repr F N st.get st.box a w)
  (hQ:∀ st' a' w',K st'=some x→Repr F N st'.get st'.box a' w'→Q .normal a' w'):(Code.region id ops draw).wp P Q a w:=by
 unfold Z362 at h
 simp only at h
 obtain ⟨st',sigs,r,h1,h2⟩:=Z90 (F:=F) (Q:=Q) hty hC hl ops.toList 0 st [] _ (by simp) h
 simp only [List.nil_append,Array.length_toList] at h1 h2
 cases hcond:(!draw||(Z609 0 ops.toList&&Z681 ops ops.toList sigs ops.toList sigs (Z415 ops.toList []))) with
 | false=>simp [hcond] at h1
 | true =>
  simp only [hcond,cond_true] at h1
  have hr:List.range ops.size=List.range' 0 ops.size:=List.range_eq_range'
  refine Z359 (r:=r) (env:=st.get) (σ:=st.box) hm ?_ ?_ hR ?_ ?_
  ·intro i hi
   have:=(h2.each i hi).1
   simpa using this
  ·intro hdraw
   subst hdraw
   simp only [Bool.not_true,Bool.false_or,Bool.and_eq_true] at hcond
   refine ⟨hcond.1,?_⟩
   intro i j hij hj
   obtain ⟨_,⟨oj,ho,hdj,hlj⟩,sj,hsj,hrdj,hwrj⟩:=h2.each j hj
   obtain ⟨_,⟨oi,hoi,hdi,hli⟩,si,hsi,hrdi,hwri⟩:=h2.each i (by omega)
   simp only [Nat.zero_add] at ho hdj hlj hrdj hwrj hoi hdi hli hrdi hwri
   obtain ⟨rest,hb1,hb2,_⟩:=Z273 ops.toList []
   simp only [List.nil_append] at hb1
   have hbj:(Z415 ops.toList [])[j]?=some ((Z415 ops.toList []).getD j 0):=by
    rw [hb1,List.getD_eq_getElem?_getD]
    have:j < rest.length:=by simpa [hb2] using hj
    simp [this]
   have hp:=Z231 hcond.2 (n:=0) (by omega) j oj sj _ (by simpa using ho) hsj hbj
   rw [Nat.zero_add] at hp
   have:=Z235 hp i oi si (by rw [List.getElem?_take_of_lt hij]; simpa using hoi) (by rw [List.getElem?_take_of_lt hij]; exact hsi)
   rw [Nat.zero_add] at this
   refine this.imp (fun h=>h) ?_
   rintro ⟨h3,h4⟩
   obtain ⟨g1,g2,g3⟩:=Oper.apart_spec h3
   simp only [apartS,Bool.and_eq_true] at h4
   obtain ⟨⟨q1,q2⟩,q3⟩:=h4
   have q1:=Z42 q1
   have q2:=Z42 q2
   have q3:=Z42 q3
   rw [hwri,hwrj] at q1
   rw [hwri,hrdj] at q2
   rw [hrdi,hwrj] at q3
   exact ⟨by rw [hdi,hlj]; exact g1,by rw [hdj,hli]; exact g3,by rw [hdi,hdj]; exact g2,q2,fun b hb hr'=>q3 b hr' hb,q1⟩
  ·rw [hr]; exact h2.ch
  ·intro a' w' hR'
   rw [hr,h2.env,h2.box] at hR'
   exact hQ _ a' w' h1 hR'
end
end Go.Abs
