import Derived.Test.YtbapchkhohnncaaGreatDoorCal4
set_option linter.unusedSimpArgs false
set_option linter.unusedSectionVars false
set_option linter.unusedVariables false
namespace Go.Abs
noncomputable def owner (c:Nat):Nat:=match unkey c with
 | some (b,_)=>b
 | none=>c
theorem Z350 (b r:Nat):owner (key b r)=b:=by unfold owner; rw [Z391]
theorem Z351 {b:Nat} (h:b < 1000000):owner b=b:=by unfold owner; rw [Z392 h]
section
variable {Fr0:Fr} {I I' J':Rg} {β β':Bt} {σ:Sg} {w w':World} {get:Sg} {ids lent:List Nat} {fresh:Nat} {l bx σl:List Box}
variable {bs:List (Bs×Bool)} (H:Back Fr0 I I' J' β β' σ w w' get ids lent fresh l bx σl bs)
include H
theorem Back.cases (b:Nat):(∃ k x,listF σl k=some x∧backF ids fresh k=some b)∨(b ∉ ids∧kOf ids fresh σl.length b=none∧(updF (Z271 (Z576 get ids fresh) bs 0 σl) σ) b=σ b):=by
 by_cases h:∃ k,k < σl.length∧backF ids fresh k=some b
 ·obtain ⟨k,hk,hb⟩:=h
  exact .inl ⟨k,σl[k],by simp [listF,hk],hb⟩
 ·have h':∀ k,k < σl.length→backF ids fresh k≠some b:=fun k hk e=>h ⟨k,hk,e⟩
  obtain ⟨h1,h2⟩:=H.k_out h'
  exact .inr ⟨h1,h2,H.spec.2 b h'⟩
theorem Back.start_box {k b:Nat} (hid:ids[k]?=some b):∃ x s y0,σ b=some x∧bx[k]?=some (boxOf s y0)∧((∃ T c c',x=.var T c∧boxOf s y0=.var T c')∨(∃ v t xs,x=.row v t xs∧boxOf s y0=.row 0 t xs∧baseV get ids k=v)∨∃ v t pos inn,x=.pool v t pos inn∧boxOf s y0=.pool 0 t pos inn∧baseV get ids k=v):=by
 obtain ⟨x0,z0,s,y0,q1,q2,q3,q4,q5,q6,q7⟩:=H.get_ids hid
 have hbase:=H.base hid
 rw [q2] at hbase
 refine ⟨x0,s.1,y0,q1,q7,?_⟩
 rcases Z122 q6 with ⟨T,t,ls,v,rfl,e2,e3⟩ | ⟨t,xs,rfl,e2⟩ | ⟨T,k',rfl,e2,_⟩ | ⟨t,pos,inn,rfl,e2⟩ | ⟨T,pl,ls,v,e0,rfl,e2,e3⟩
 ·cases x0 with
  | var T0 c0 =>
   simp only [renB,Option.some.injEq,Box.var.injEq] at q3
   exact .inl ⟨T0,c0,_,rfl,by rw [e2,q3.1]⟩
  | row cur t0 xs0=>simp only [renB] at q3; split at q3 <;> cases q3
  | pool cur t0 p0 i0=>simp only [renB] at q3; split at q3 <;> cases q3
  | gone=>simp [renB] at q3
 ·cases x0 with
  | var T0 c0=>simp [renB] at q3
  | row cur t0 xs0 =>
   simp only [renB] at q3
   split at q3
   ·simp only [Option.some.injEq,Box.row.injEq] at q3
    obtain ⟨rfl,rfl,q3⟩:=q3
    simp only [heq_eq_eq] at q3
    subst q3
    exact .inr (.inl ⟨cur,_,_,rfl,e2,hbase⟩)
   ·cases q3
  | pool cur t0 p0 i0=>simp only [renB] at q3; split at q3 <;> cases q3
  | gone=>simp [renB] at q3
 ·cases x0 with
  | var T0 c0 =>
   simp only [renB,Option.some.injEq,Box.var.injEq] at q3
   exact .inl ⟨T0,c0,_,rfl,by rw [e2,q3.1]⟩
  | row cur t0 xs0=>simp only [renB] at q3; split at q3 <;> cases q3
  | pool cur t0 p0 i0=>simp only [renB] at q3; split at q3 <;> cases q3
  | gone=>simp [renB] at q3
 ·cases x0 with
  | var T0 c0=>simp [renB] at q3
  | row cur t0 xs0=>simp only [renB] at q3; split at q3 <;> cases q3
  | pool cur t0 p0 i0 =>
   simp only [renB] at q3
   split at q3
   ·simp only [Option.some.injEq,Box.pool.injEq] at q3
    obtain ⟨rfl,rfl,q4',q3⟩:=q3
    simp only [heq_eq_eq] at q3
    subst q3; subst q4'
    exact .inr (.inr ⟨cur,_,_,_,rfl,e2,hbase⟩)
   ·cases q3
  | gone=>simp [renB] at q3
 ·cases x0 with
  | var T0 c0 =>
   simp only [renB,Option.some.injEq,Box.var.injEq] at q3
   exact .inl ⟨T0,c0,_,rfl,by rw [e2,q3.1]⟩
  | row cur t0 xs0=>simp only [renB] at q3; split at q3 <;> cases q3
  | pool cur t0 p0 i0=>simp only [renB] at q3; split at q3 <;> cases q3
  | gone=>simp [renB] at q3
theorem Back.start_key {k b r:Nat} (hid:ids[k]?=some b):(frOf w I J' (atIdsX β ids) bx).σ0 (key k r)=ex σ (key b r)∧(frOf w I J' (atIdsX β ids) bx).β0 (key k r)=β (key b r):=by
 refine ⟨?_,?_⟩
 ·show ex (listF bx) (key k r)=_
  rw [ex_key,ex_key]
  obtain ⟨x,s,y0,h1,h2,h3⟩:=H.start_box hid
  have h2':listF bx k=some (boxOf s y0):=h2
  rw [h1,h2']
  rcases h3 with ⟨T,c,c',rfl,e⟩ | ⟨v,t,xs,rfl,e,_⟩ | ⟨v,t,pos,inn,rfl,e,_⟩ <;> rw [e] <;> rfl
 ·show atIdsX β ids (key k r)=_
  unfold atIdsX srcOf
  rw [Z391]
  show ((ids[k]?).map fun b=>key b r).bind β=_
  rw [hid]
  rfl
theorem Back.low_at {k b:Nat} (hid:ids[k]?=some b):(frOf w I J' (atIdsX β ids) bx).β0 k=β b:=by
 show atIdsX β ids k=_
 have hk:k < ids.length:=(List.getElem?_eq_some_iff.1 hid).1
 have:=H.maxl.1
 unfold atIdsX srcOf
 rw [Z392 (by omega),hid]
 rfl
theorem Back.mine {blk:Nat} (h:(frOf w I J' (atIdsX β ids) bx).mine blk):∃ c o,owner c∈ids∧liveB (ex σ c)∧β c=some (blk,o):=by
 obtain ⟨n,o,h1,h2⟩:=h
 cases hu:unkey n with
 | some p =>
  obtain ⟨k,r⟩:=p
  have e:=Z266 hu
  subst e
  have h2':atIdsX β ids (key k r)=some (blk,o):=h2
  unfold atIdsX srcOf at h2'
  rw [Z391] at h2'
  cases hid:ids[k]? with
  | none=>simp only [hid] at h2'; cases h2'
  | some b =>
   obtain ⟨g1,g2⟩:=H.start_key (r:=r) hid
   rw [g1] at h1
   rw [g2] at h2
   exact ⟨key b r,o,by rw [Z350]; exact List.mem_of_getElem? hid,h1,h2⟩
 | none =>
  have h2':atIdsX β ids n=some (blk,o):=h2
  unfold atIdsX srcOf at h2'
  rw [hu] at h2'
  cases hid:ids[n]? with
  | none=>simp only [hid] at h2'; cases h2'
  | some b =>
   simp only [hid] at h2'
   have hbK:b < 1000000:=H.small b (by simp [List.mem_of_getElem? hid])
   refine ⟨b,o,by rw [Z351 hbK]; exact List.mem_of_getElem? hid,?_,h2'⟩
   rw [ex_low hbK]
   obtain ⟨x,s,y0,q1,q2,q3⟩:=H.start_box hid
   rw [q1]
   rcases q3 with ⟨T,c,c',rfl,e⟩ | ⟨v,t,xs,rfl,e,_⟩ | ⟨v,t,pos,inn,rfl,e,_⟩ <;> trivial
theorem Back.ext:Ext Fr0.J I β (ex σ) w I' (backB β β' ids fresh σl.length) (ex (updF (Z271 (Z576 get ids fresh) bs 0 σl) σ)) w':=by
 refine ⟨H.call.ext.grow,?_,?_,H.call.ext.cap⟩
 ·intro b i v hk hc
  exact H.call.ext.stays b i v (hk.imp (fun h=>h) fun h=>⟨h.1,H.jJ _ _ h.2⟩) hc
 ·intro n x hx
  cases hu:unkey n with
  | some p =>
   obtain ⟨b,r⟩:=p
   have e:=Z266 hu
   subst e
   rcases H.cases b with ⟨k,x',hk,hf⟩ | ⟨h1,h2,h3⟩
   ·have hlt:k < σl.length:=(List.getElem?_eq_some_iff.1 hk).1
    obtain ⟨b1,f1,hbK,c1⟩:=H.f_some hlt
    rw [hf] at f1; injection f1 with f1; subst f1
    rcases c1 with ⟨g1,hid⟩ | ⟨g1,g2⟩
    ·obtain ⟨q1,q2⟩:=H.start_key (r:=r) hid
     obtain ⟨x'',hx'',hev⟩:=H.call.ext.evo (key k r) x (by rw [q1]; exact hx)
     obtain ⟨e1,e2⟩:=H.ren.inner k b r x'' hf hx''
     refine ⟨x'',e1,?_⟩
     have e3:backB β β' ids fresh σl.length (key b r)=β' (key k r):=e2
     cases x <;> cases x'' <;> simp only [Evo,q2] at hev ⊢
     ·exact ⟨hev.1,by rw [e3,hev.2]⟩
     ·rw [e3]; exact hev
     ·rw [e3]; exact hev
    ·rw [ex_key,H.fresh_none (b:=b) (by omega) (by omega)] at hx
     cases hx
   ·rw [ex_key] at hx
    have hβ:backB β β' ids fresh σl.length (key b r)=β (key b r):=by unfold backB; rw [Z391]; simp only; rw [h2]
    refine ⟨x,by rw [ex_key,h3]; exact hx,?_⟩
    cases x <;> simp only [Evo,hβ] <;> simp
  | none =>
   have e1:∀ g:Sg,ex g n=g n:=fun g=>by unfold ex; rw [hu]
   rw [e1] at hx
   rcases H.cases n with ⟨k,x',hk,hf⟩ | ⟨h1,h2,h3⟩
   ·have hlt:k < σl.length:=(List.getElem?_eq_some_iff.1 hk).1
    obtain ⟨b',z,p1,hbK,p2,p3,p4⟩:=H.box hk
    rw [hf] at p1; injection p1 with p1; subst p1
    refine ⟨z,(e1 _).trans p3,?_⟩
    obtain ⟨b1,f1,_,c1⟩:=H.f_some hlt
    rw [hf] at f1; injection f1 with f1; subst f1
    rcases c1 with ⟨g1,hid⟩ | ⟨g1,g2⟩
    ·obtain ⟨x0,s,y0,q1,q2,q3⟩:=H.start_box hid
     rw [hx] at q1; injection q1 with q1; subst q1
     obtain ⟨x'',hx'',hev⟩:=H.call.ext.evo k (boxOf s y0) (by rw [H.start_at g1]; exact q2)
     have hkK:=Z575 H.maxl.1 hf
     rw [ex_low hkK,hk] at hx''; injection hx'' with hx''; subst hx''
     have hat:=H.low_at hid
     rcases q3 with ⟨T,c,c',rfl,e⟩ | ⟨v,t,xs,rfl,e,hbase⟩ | ⟨v,t,pos,inn,rfl,e,hbase⟩
     ·rw [e] at hev
      cases x' with
      | var T1 c1 =>
       simp only [renB,Option.some.injEq] at p2
       subst p2
       simp only [Evo,hat] at hev ⊢
       exact ⟨hev.1,by rw [p4,hev.2]⟩
      | row v1 t1 xs1=>simp [Evo] at hev
      | pool v1 t1 p1 i1=>simp [Evo] at hev
      | gone=>simp [Evo] at hev
     ·rw [e] at hev
      cases x' with
      | var T1 c1=>simp [Evo] at hev
      | pool v1 t1 p1 i1=>simp [Evo] at hev
      | row v1 t1 xs1 =>
       simp only [renB,Z576,hbase,Option.some.injEq] at p2
       subst p2
       simp only [Evo,hat] at hev ⊢
       rcases hev with ⟨h1,h2,h3,h4⟩ | h1
       ·exact .inl ⟨by omega,h2,h3,by rw [p4,h4]⟩
       ·exact .inr (by omega)
      | gone =>
       simp only [renB,Option.some.injEq] at p2
       subst p2
       simp [Evo]
     ·rw [e] at hev
      cases x' with
      | var T1 c1=>simp [Evo] at hev
      | row v1 t1 xs1=>simp [Evo] at hev
      | pool v1 t1 p1 i1 =>
       simp only [renB,Z576,hbase,Option.some.injEq] at p2
       subst p2
       simp only [Evo,hat] at hev ⊢
       rcases hev with ⟨h1,h2,h3,h4⟩ | h1
       ·exact .inl ⟨by omega,h2,h3,by rw [p4,h4]⟩
       ·exact .inr (by omega)
      | gone =>
       simp only [renB,Option.some.injEq] at p2
       subst p2
       simp [Evo]
    ·rw [H.fresh_none (b:=n) (by omega) (by omega)] at hx
     cases hx
   ·have hβ:backB β β' ids fresh σl.length n=β n:=by unfold backB; rw [hu]; simp only; rw [h2]
    refine ⟨x,by rw [e1,h3,hx],?_⟩
    cases x <;> simp only [Evo,hβ] <;> simp
theorem Back.other {b blk o:Nat} (h1:owner b ∉ ids) (h2:liveB (ex σ b)) (h3:β b=some (blk,o)):blk < w.heap.size∧¬ (frOf w I J' (atIdsX β ids) bx).mine blk:=by
 refine ⟨H.inv.good.lt h2 h3,fun hm=>?_⟩
 obtain ⟨b',o',g1,g2,g3⟩:=H.mine hm
 have:=H.inv.good.inj b b' blk o o' h2 g2 h3 g3
 subst this
 exact h1 g1
theorem Back.new {n:Nat} {z:Box} (hz:ex (updF (Z271 (Z576 get ids fresh) bs 0 σl) σ) n=some z) :
  (∃ m x,ex (listF σl) m=some x∧(∃ k b,backF ids fresh k=some b∧((m=k∧n=b)∨∃ r,m=key k r∧n=key b r))∧(liveB (some z)↔liveB (some x))∧backB β β' ids fresh σl.length n=β' m ∧
   (∀ J0:Rg,RB I' J0 β' (ex (listF σl)) w' m x→RB I' J0 (backB β β' ids fresh σl.length) (ex (updF (Z271 (Z576 get ids fresh) bs 0 σl) σ)) w' n z)) ∨
  (owner n ∉ ids∧backB β β' ids fresh σl.length n=β n∧ex σ n=some z):=by
 cases hu:unkey n with
 | some p =>
  obtain ⟨b,r⟩:=p
  have e:=Z266 hu
  subst e
  rcases H.cases b with ⟨k,x',hk,hf⟩ | ⟨h1,h2,h3⟩
  ·have hlt:k < σl.length:=(List.getElem?_eq_some_iff.1 hk).1
   obtain ⟨b',z',p1,hbK,p2,p3,p4⟩:=H.box hk
   rw [hf] at p1; injection p1 with p1; subst p1
   rw [ex_key,p3] at hz
   have hx:ex (listF σl) (key k r)=some z:=by
    rw [ex_key,hk]
    cases x' with
    | var T c=>simp only [renB,Option.some.injEq] at p2; subst p2; cases hz
    | row v t xs=>simp only [renB,Z576,Option.some.injEq] at p2; subst p2; cases hz
    | gone=>simp only [renB,Option.some.injEq] at p2; subst p2; exact hz
    | pool v t pos inn=>simp only [renB,Z576,Option.some.injEq] at p2; subst p2; exact hz
   refine .inl ⟨key k r,z,hx,⟨k,b,hf,.inr ⟨r,rfl,rfl⟩⟩,Iff.rfl,H.b_key hlt hf,fun J0 hb=>?_⟩
   have hβ:=H.b_key (r:=r) hlt hf
   have hrow:(∃ t xs,z=.row 0 t xs)∨z=.gone:=by
    rw [ex_key,hk] at hx
    cases x' with
    | var T c=>cases hx
    | row v t xs=>cases hx
    | gone=>injection hx with hx; exact .inr hx.symm
    | pool v t pos inn =>
     simp only [innB,Option.map_eq_some_iff] at hx
     obtain ⟨xs,_,e⟩:=hx
     exact .inl ⟨t,xs,e.symm⟩
   rcases hrow with ⟨t,xs,rfl⟩ | rfl
   ·simp only [RB,hβ] at hb ⊢
    exact hb
   ·trivial
  ·rw [ex_key,h3] at hz
   exact .inr ⟨by rw [Z350]; exact h1,by unfold backB; rw [Z391]; simp only; rw [h2],by rw [ex_key]; exact hz⟩
 | none =>
  have e1:∀ g:Sg,ex g n=g n:=fun g=>by unfold ex; rw [hu]
  rw [e1] at hz
  rcases H.cases n with ⟨k,x',hk,hf⟩ | ⟨h1,h2,h3⟩
  ·obtain ⟨b',z',p1,hbK,p2,p3,p4⟩:=H.box hk
   rw [hf] at p1; injection p1 with p1; subst p1
   rw [hz] at p3; injection p3 with p3; subst p3
   have hkK:=Z575 H.maxl.1 hf
   have hk':ex (listF σl) k=some x':=by rw [ex_low hkK]; exact hk
   exact .inl ⟨k,x',hk',⟨k,n,hf,.inl ⟨rfl,rfl⟩⟩,Z484 p2,p4,fun J0 hb=>H.ren.rb hf hk' p2 hb⟩
  ·rw [h3] at hz
   exact .inr ⟨by unfold owner; rw [hu]; exact h1,by unfold backB; rw [hu]; simp only; rw [h2],by rw [e1]; exact hz⟩
theorem Back.live {n:Nat} (hl:liveB (ex (updF (Z271 (Z576 get ids fresh) bs 0 σl) σ) n)) {q:Nat×Nat} (hb:(backB β β' ids fresh σl.length) n=some q) :
  (∃ m,(∃ k b,backF ids fresh k=some b∧((m=k∧n=b)∨∃ r,m=key k r∧n=key b r))∧liveB (ex (listF σl) m)∧β' m=some q)∨(owner n ∉ ids∧liveB (ex σ n)∧β n=some q):=by
 obtain ⟨z,hz⟩:=Z218 hl
 rw [hz] at hl
 rcases H.new hz with ⟨m,x,h1,h2,h3,h4,_⟩ | ⟨h1,h2,h3⟩
 ·exact .inl ⟨m,h2,by rw [h1]; exact h3.1 hl,by rw [← h4]; exact hb⟩
 ·exact .inr ⟨h1,by rw [h3]; exact hl,by rw [← h2]; exact hb⟩
theorem Back.good:Good I' Fr0.J (backB β β' ids fresh σl.length) (ex (updF (Z271 (Z576 get ids fresh) bs 0 σl) σ)) w':=by
 have hE:=H.ext
 have hG:=H.inv.good
 have hC:=H.call.good
 refine ⟨?_,?_,?_,?_⟩
 ·intro n z hz
  rcases H.new hz with ⟨m,x,h1,h2,h3,h4,h5⟩ | ⟨h1,h2,h3⟩
  ·have hb:=hC.box m x h1
   refine h5 _ (chJ_rb (fun hbor=>?_) hb)
   rcases H.bor with h | h
   ·exact h
   ·exfalso
    have hno:borB x=false:=by
     cases hu:unkey m with
     | none =>
      have e1:ex (listF σl) m=listF σl m:=by unfold ex; rw [hu]
      rw [e1] at h1
      have:=List.any_eq_false.1 h x (List.mem_of_getElem? h1)
      simpa using this
     | some p =>
      obtain ⟨k,r⟩:=p
      have e:=Z266 hu
      subst e
      rw [ex_key] at h1
      cases hk:listF σl k with
      | none=>rw [hk] at h1; cases h1
      | some y =>
       rw [hk] at h1
       cases y with
       | var T c=>cases h1
       | row v t xs=>cases h1
       | gone=>injection h1 with h1; subst h1; rfl
       | pool v t pos inn =>
        simp only [innB,Option.map_eq_some_iff] at h1
        obtain ⟨xs,_,rfl⟩:=h1
        rfl
    rw [hno] at hbor; cases hbor
  ·have hb:=hG.box n z h3
   have hheap:∀ blk o,liveB (some z)→β n=some (blk,o)→w'.heap[blk]?=w.heap[blk]?:=by
    intro blk o hl hbb
    obtain ⟨q1,q2⟩:=H.other h1 (by rw [h3]; exact hl) hbb
    exact H.call.keep blk q1 q2
   cases z with
   | var T cells =>
    obtain ⟨blk,vs,g1,g2,g3⟩:=hb
    exact ⟨blk,vs,by rw [h2,g1],by rw [hheap blk 0 trivial g1]; exact g2,hE.rls g3⟩
   | row v t xs =>
    rcases hb with ⟨g1,g2⟩ | ⟨blk,o,C,E,g1,g2,g3⟩
    ·exact .inl ⟨g1,by rw [h2]; exact g2⟩
    ·refine .inr ⟨blk,o,C,E,by rw [h2]; exact g1,by rw [hheap blk o trivial g1]; exact g2,?_⟩
     intro i y hy
     obtain ⟨vs,g4,g5⟩:=g3 i y hy
     exact ⟨vs,hE.rd g4,g5⟩
   | pool v t pos inn =>
    rcases hb with ⟨g1,g2⟩ | ⟨blk,o,C,E,g1,g2,g3⟩
    ·exact .inl ⟨g1,by rw [h2]; exact g2⟩
    ·refine .inr ⟨blk,o,C,E,by rw [h2]; exact g1,by rw [hheap blk o trivial g1]; exact g2,?_⟩
     intro i p hp
     obtain ⟨v,g4,g5⟩:=g3 i p hp
     exact ⟨v,g4,hE.rl g5⟩
   | gone=>trivial
 ·intro n n' blk o o' hl hl' hb hb'
  rcases H.live hl hb with ⟨m,f1,l1,c1⟩ | ⟨n1,l1,c1⟩ <;> rcases H.live hl' hb' with ⟨m',f2,l2,c2⟩ | ⟨n2,l2,c2⟩
  ·have:=hC.inj m m' blk o o' l1 l2 c1 c2
   subst this
   obtain ⟨k,b,hf,h1⟩:=f1
   obtain ⟨k',b',hf',h1'⟩:=f2
   have hkK:=Z575 H.maxl.1 hf
   have hkK':=Z575 H.maxl.1 hf'
   rcases h1 with ⟨e1,e2⟩ | ⟨r,e1,e2⟩ <;> rcases h1' with ⟨e1',e2'⟩ | ⟨r',e1',e2'⟩
   ·have:k=k':=by omega
    subst this
    rw [hf] at hf'; injection hf' with hf'
    omega
   ·have:=key_ge k' r'; omega
   ·have:=key_ge k r; omega
   ·obtain ⟨e3,e4⟩:=Z641 (e1.symm.trans e1')
    subst e3; subst e4
    rw [hf] at hf'; injection hf' with hf'
    subst hf'
    rw [e2,e2']
  ·obtain ⟨q1,q2⟩:=H.other n2 l2 c2
   rcases H.call.bNew m blk o l1 c1 with g | g
   ·have:w.heap.size≤blk:=g
    omega
   ·exact absurd g q2
  ·obtain ⟨q1,q2⟩:=H.other n1 l1 c1
   rcases H.call.bNew m' blk o' l2 c2 with g | g
   ·have:w.heap.size≤blk:=g
    omega
   ·exact absurd g q2
  ·exact hG.inj n n' blk o o' l1 l2 c1 c2
 ·intro b blk o i hl hb
  rcases H.live hl hb with ⟨m,f1,l1,c1⟩ | ⟨n1,l1,c1⟩
  ·have:=hC.sep m blk o i l1 c1
   exact ⟨this.1,fun hj=>this.2 (H.jJ _ _ hj)⟩
  ·have:=hG.sep b blk o i l1 c1
   obtain ⟨q1,q2⟩:=H.other n1 l1 c1
   refine ⟨fun hi=>?_,this.2⟩
   rcases H.call.iNew blk i hi with g | g | g
   ·exact this.1 g
   ·have:w.heap.size≤blk:=g
    omega
   ·exact q2 g
 ·intro blk i hk
  exact hC.bnd blk i (hk.imp (fun h=>h) (H.jJ _ _))
theorem Back.done:Inv Fr0 I' (backB β β' ids fresh σl.length) (ex (updF (Z271 (Z576 get ids fresh) bs 0 σl) σ)) w':=by
 have hE:=H.ext
 have hmine:∀ {blk},(frOf w I J' (atIdsX β ids) bx).mine blk→Fr0.w0.heap.size≤blk∨Fr0.mine blk:=by
  intro blk h
  obtain ⟨b,o,_,g2,g3⟩:=H.mine h
  exact H.inv.bNew b blk o g2 g3
 have hnew:∀ {blk},w.heap.size≤blk∨(frOf w I J' (atIdsX β ids) bx).mine blk→Fr0.w0.heap.size≤blk∨Fr0.mine blk:=by
  intro blk h
  rcases h with h | h
  ·exact .inl (Nat.le_trans H.inv.size h)
  ·exact hmine h
 refine ⟨H.good,H.inv.ext.trans hE,Nat.le_trans H.inv.size H.call.size,?_,?_,?_,H.inv.same.trans H.call.same⟩
 ·intro blk hb hm
  have h1:w'.heap[blk]?=w.heap[blk]?:=by
   refine H.call.keep blk (Nat.lt_of_lt_of_le hb H.inv.size) fun h=>?_
   rcases hmine h with h | h
   ·omega
   ·exact hm h
  rw [h1,H.inv.keep blk hb hm]
 ·intro blk i hi
  rcases H.call.iNew blk i hi with g | g
  ·exact H.inv.iNew blk i g
  ·exact .inr (hnew g)
 ·intro b blk o hl hb
  rcases H.live hl hb with ⟨m,f1,l1,c1⟩ | ⟨n1,l1,c1⟩
  ·exact hnew (H.call.bNew m blk o l1 c1)
  ·exact H.inv.bNew b blk o l1 c1
end
theorem Z450 {l:List Box} (h:∀ x∈l,plainO (some x)=true) (hl:l.length≤1000000):ex (listF l)=listF l:=by
 funext n
 cases hu:unkey n with
 | none=>unfold ex; rw [hu]
 | some p =>
  obtain ⟨k,r⟩:=p
  have e:=Z266 hu
  subst e
  have h1:listF l (key k r)=none:=by
   have:=key_ge k r
   unfold listF
   rw [List.getElem?_eq_none_iff]
   omega
  rw [ex_key,h1]
  apply Z212
  cases hk:listF l k with
  | none=>rfl
  | some x=>exact h x (List.mem_of_getElem? hk)
theorem ex_nil:ex (listF [])=listF []:=Z450 (fun x hx=>by cases hx) (by simp)
theorem Z201 {get:Nat→Option Box} {g:Nat} {args:List PV}:∀ {C:List Fun} {F:Fun},findF get g args C=some F→F∈C∧F.id=g
 | [],F,h=>by simp [findF] at h
 | G :: C,F,h=>by
  simp only [findF] at h
  cases hb:Nat.beq G.id g&&fitsSp get G.sp args with
  | true =>
   simp only [hb,cond_true,Option.some.injEq] at h
   subst h
   rw [Bool.and_eq_true] at hb
   exact ⟨by simp,Nat.eq_of_beq_eq_true hb.1⟩
  | false =>
   simp only [hb,cond_false] at h
   obtain ⟨h1,h2⟩:=Z201 h
   exact ⟨by simp [h1],h2⟩
theorem calls1 {P:Program} [Laid P] {C:List Fun} (hC:∀ F∈C,FunOk P F):Calls1 P C:=by
 intro X get fresh g args K x h
 unfold Z703 at h
 split at h
 ·cases h
 ·rename_i F hF
  obtain ⟨hmem,rfl⟩:=Z201 hF
  obtain ⟨hfn,hcall⟩:=hC F hmem
  split at h
  ·cases h
  ·rename_i args' lent hprep
   simp only at h
   generalize hids:reach get (reach get (addIds (args'.flatMap refsV) []))=ids at h
   have hn:ids.Nodup:=by
    rw [← hids]
    exact Z147 (Z147 (Z65 (by simp)))
   split at h
   ·cases h
   ·rename_i l hl
    split at h
    ·rename_i xx yy hxx hyy
     cases hc1:Z431 lent ids&&natsEq (reach get ids) ids&&Nat.ble (ids.length+width) 1000000 with
     | false=>simp [hc1] at h
     | true =>
      rw [hc1,cond_true] at h
      rw [Bool.and_eq_true,Bool.and_eq_true] at hc1
      obtain ⟨⟨hdis,_⟩,hmax⟩:=hc1
      have hdis:=Z42 hdis
      have hmax:ids.length+width≤1000000:=Nat.le_of_ble_eq_true hmax
      cases hr:F.f xx yy with
      | none=>simp [hr] at h
      | some r =>
       rw [hr] at h
       simp only [Option.bind_some] at h
       generalize henc:encR F yy r=q at h
       obtain ⟨v,σl⟩:=q
       simp only at h
       cases hc2:Nat.ble σl.length (ids.length+width)&&Z463 get fresh (σl.length - ids.length)&&(natsEq lent []||(!(borV v)&&!(σl.any borB))) with
       | false=>rw [hc2,cond_false] at h; cases h
       | true =>
        rw [hc2,cond_true] at h
        simp only [Bool.and_eq_true,Bool.or_eq_true,Bool.not_eq_true'] at hc2
        obtain ⟨⟨hlenl,hfree⟩,hbor⟩:=hc2
        have hlenl:σl.length≤ids.length+width:=Nat.le_of_ble_eq_true hlenl
        refine ⟨_,h,?_⟩
        intro hltK Fr0 I β σ w vs hfl hI hrd hv
        simp only at hrd hltK
        have hsm:=Z487 hltK
        have hidK:∀ b∈ids,b < 1000000:=fun b hb=>hsm b (by simp [hb])
        have hJ:∀ b i,Fr0.J b i→lentJ Fr0.J β (ex σ) lent b i:=fun _ _ h=>.inl h
        have hlent:∀ b∈lent,LentOk (ex σ) get β (lentJ Fr0.J β (ex σ) lent) b:=by
         intro b hb
         have hbK:=hsm b (by simp [hb])
         exact ⟨by rw [ex_low hbK]; exact hrd b (by simp [hb]),fun blk o h1 h2 i=>.inr ⟨b,hb,b,.inl rfl,o,h1,h2⟩,fun r blk o h1 h2 i=>.inr ⟨b,hb,key b r,.inr ⟨r,rfl⟩,o,h1,h2⟩,fun r=>by rw [ex_key,ex_low hbK]⟩
        have hg:∀ b∈ids,ex σ b=get b:=fun b hb=>by rw [ex_low (hidK b hb)]; exact hrd b (by simp [hb])
        have hv':=Z242 hI.good hJ hprep hlent hv
        have hidl:ids.length≤1000000:=by omega
        have hRen:RenOk (Z418 0 ids get) β (ex σ) (atIdsX β ids) (ex (listF l)):=Z441 hg (Z302 _) hidK hidl hl
        have hG0:Good I (lentJ Fr0.J β (ex σ) lent) (atIdsX β ids) (ex (listF l)) w:=by
         obtain ⟨h0,hLv⟩:=Z296 (m:=0) hI.good hn hg (Z302 _) hidK hidl hl
         refine ⟨?_,h0.inj,?_,?_⟩
         ·intro b x hx
          exact chJ_rb (fun _=>hJ) (h0.box b x hx)
         ·intro k blk o i hk hb
          obtain ⟨s1,s2⟩:=h0.sep k blk o i hk hb
          refine ⟨s1,?_⟩
          rintro (hj | ⟨b,hb1,c,hbc,o',hb2,hb3⟩)
          ·exact s2 hj
          ·obtain ⟨c',g1,g2,g3⟩:=hLv k hk
           rw [g3] at hb
           have:=hI.good.inj c c' blk o' o hb2 g2 hb3 hb
           subst this
           have hbK:=hsm b (by simp [hb1])
           unfold srcOf at g1
           cases hu:unkey k with
           | none =>
            rw [hu] at g1
            have hcm:=List.mem_of_getElem? g1
            rcases hbc with rfl | ⟨r,rfl⟩
            ·exact hdis _ hb1 hcm
            ·have:=hidK _ hcm
             have:=key_ge b r
             omega
           | some p =>
            obtain ⟨j,r⟩:=p
            rw [hu] at g1
            simp only [Option.map_eq_some_iff] at g1
            obtain ⟨b',g4,g5⟩:=g1
            rcases hbc with rfl | ⟨r',rfl⟩
            ·have:=key_ge b' r
             omega
            ·have:=(Z641 g5).1
             subst this
             exact hdis _ hb1 (List.mem_of_getElem? g4)
         ·rintro blk i (hi | hj | ⟨b,hb1,c,hbc,o',hb2,hb3⟩)
          ·exact hI.good.bnd blk i (.inl hi)
          ·exact hI.good.bnd blk i (.inr hj)
          ·exact hI.good.lt hb2 hb3
        obtain ⟨hdl,hdat⟩:=Z123 hyy
        have hbl:F.bs.length=ids.length:=by rw [← hdl,(Z51 hl).1]
        obtain ⟨hG1,hE1⟩:=Z428 (by omega) hyy hG0
        have hargs:RVs I (lentJ Fr0.J β (ex σ) lent) (atIdsX β ids) (ex (listF (Z578 F.bs yy))) w (argsOf F.sp xx) vs:=Z121 hxx (hE1.rvs (hRen.rvs hv'))
        refine ⟨hfn,(hcall xx yy r hr w I _ _ vs hG1 (fun blk i hb=>hJ blk i (hfl.inJ blk i hb)) (hI.laid hfl) hargs).mono ?_⟩
        rintro en w' ⟨u,rfl,I',β',hInv,hu⟩
        rw [henc] at hInv hu
        have H:Back Fr0 I I' (lentJ Fr0.J β (ex σ) lent) β β' σ w w' get ids lent fresh l (Z578 F.bs yy) σl F.bs:=by
         refine ⟨hI,hn,hrd,hsm,⟨hidl,by omega⟩,hl,hbl,hdat,?_,?_,hfree,hJ,?_,hInv⟩
         ·rw [Z114,hbl]
         ·intro k s hk
          have:=Z447 (x:=yy) (r:=r) hk
          rw [henc] at this
          exact this
         ·rcases hbor with hb | hb
          ·have:=Z334 hb
           subst this
           refine .inl ?_
           rintro b i (hj | ⟨b',hb',_⟩)
           ·exact hj
           ·cases hb'
          ·exact .inr hb.2
        refine ⟨u,rfl,I',_,H.done,H.ext,?_⟩
        refine H.ren.rv (chJ_rv ?_ hu)
        intro hb
        rcases hbor with hb' | hb'
        ·have:=Z334 hb'
         subst this
         rintro b i (hj | ⟨b',hb',_⟩)
         ·exact hj
         ·cases hb'
        ·rw [hb'.1] at hb; cases hb
    ·cases h
theorem Z582 {P:Program} [Laid P] {C:List Fun} (hC:∀ F∈C,FunOk P F):Z559 P C :=
 ⟨calls1 hC,calls1 fun F h=>by
  rcases List.mem_append.1 h with h | h
  ·exact hC F (List.mem_filter.1 h).1
  ·exact hC F h⟩
end Go.Abs
