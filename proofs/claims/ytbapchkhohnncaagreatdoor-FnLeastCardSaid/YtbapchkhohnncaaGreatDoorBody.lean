import Derived.Test.YtbapchkhohnncaaGreatDoorFin
set_option linter.unusedSimpArgs false
set_option linter.unusedSectionVars false
set_option linter.unusedVariables false
namespace Go.Abs
theorem Z55 {get:Sg}:∀ {m:Nat} {ps:List Box},Z236 get m=some ps→ps.length=m∧∀ b,b < m→ps[b]?=get b
 | 0,ps,h=>by simp only [Z236,Option.some.injEq] at h; subst h; exact ⟨rfl,fun b hb=>by omega⟩
 | m+1,ps,h=>by
  simp only [Z236] at h
  split at h
  ·rename_i l x hl hx
   simp only [Option.some.injEq] at h
   subst h
   obtain ⟨h1,h2⟩:=Z55 hl
   refine ⟨by simp [h1],fun b hb=>?_⟩
   by_cases e:b=m
   ·subst e
    rw [List.getElem?_append_right (by omega),h1,hx]
    simp
   ·rw [List.getElem?_append_left (by omega)]
    exact h2 b (by omega)
  ·cases h
theorem Z122 {s:Bs} {z:Box} {y:s.den} (h:decBox s z=some y) :
  (∃ T t ls x,z=.var T ls∧boxOf s y=.var T (fl true t x)∧unfl true t ls=some (x,[]))∨(∃ t xs,z=.row 0 t xs∧boxOf s y=.row 0 t xs) ∨
  (∃ T k,z=.var T [.ref k 0 0 0 0 0]∧boxOf s y=.var T [.ref k 0 0 0 0 0]∧s=.pv T k)∨(∃ t pos inn,z=.pool 0 t pos inn∧boxOf s y=.pool 0 t pos inn) ∨
  (∃ T l ls x,s=.rc T l∧z=.var T ls∧boxOf s y=.var T (Z688 l x)∧decPt l ls=some x):=by
 cases s with
 | var T t =>
  cases z with
  | var T' ls =>
   simp only [decBox] at h
   split at h
   ·rename_i e
    subst e
    split at h
    ·rename_i x hu
     simp only [Option.some.injEq] at h
     subst h
     exact .inl ⟨T,t,ls,x,rfl,rfl,hu⟩
    ·cases h
   ·cases h
  | row v t' xs=>simp [decBox] at h
  | pool v t' pos inn=>simp [decBox] at h
  | gone=>simp [decBox] at h
 | row t =>
  cases z with
  | row v t' xs =>
   cases v with
   | zero =>
    simp only [decBox] at h
    obtain ⟨e,hy⟩:=Z184 h
    subst e
    simp only at hy
    subst hy
    exact .inr (.inl ⟨_,_,rfl,rfl⟩)
   | succ v=>simp [decBox] at h
  | var T' ls=>simp [decBox] at h
  | pool v t' pos inn=>simp [decBox] at h
  | gone=>simp [decBox] at h
 | pv T k =>
  simp only [decBox] at h
  cases hp:isPv T k z with
  | false=>rw [hp] at h; cases h
  | true =>
   unfold isPv at hp
   split at hp
   ·simp only [Bool.and_eq_true] at hp
    have e1:=Nat.eq_of_beq_eq_true hp.1
    have e2:=Nat.eq_of_beq_eq_true hp.2
    subst e1
    subst e2
    exact .inr (.inr (.inl ⟨_,_,rfl,rfl,rfl⟩))
   ·cases hp
 | pool t =>
  cases z with
  | pool v t' pos inn =>
   cases v with
   | zero =>
    simp only [decBox] at h
    split at h
    ·rename_i inn' hc
     simp only [Option.some.injEq] at h
     subst h
     obtain ⟨e,hy⟩:=castLL hc
     subst e
     simp only at hy
     subst hy
     exact .inr (.inr (.inr (.inl ⟨_,_,_,rfl,rfl⟩)))
    ·cases h
   | succ v=>simp [decBox] at h
  | var T' ls=>simp [decBox] at h
  | row v t' xs=>simp [decBox] at h
  | gone=>simp [decBox] at h
 | rc T l =>
  cases z with
  | var T' ls =>
   simp only [decBox] at h
   cases hT:Nat.beq T T' with
   | false=>rw [hT,cond_false] at h; cases h
   | true =>
    rw [hT,cond_true] at h
    have hT:=Nat.eq_of_beq_eq_true hT
    subst hT
    exact .inr (.inr (.inr (.inr ⟨T,l,ls,y,rfl,rfl,rfl,h⟩)))
  | row v t' xs=>simp [decBox] at h
  | pool v t' pos inn=>simp [decBox] at h
  | gone=>simp [decBox] at h
theorem Z188 {T:Nat} {t:Tc} {z:Box} {y:(Bs.var T t).den} (h:decBox (.var T t) z=some y):(∃ ls,z=.var T ls)∧boxOf (.var T t) y=.var T (fl true t y):=by
 refine ⟨?_,rfl⟩
 rcases Z122 h with ⟨T1,t1,ls,x,h1,h2,_⟩ | ⟨t1,xs,h1,h2⟩ | ⟨T1,k1,h1,h2,h3⟩ | ⟨t1,p1,i1,h1,h2⟩ | ⟨T1,l1,ls,x,h0,h1,h2,_⟩
 ·simp only [boxOf,Box.var.injEq] at h2
  exact ⟨ls,by rw [h1,h2.1]⟩
 ·cases h2
 ·cases h3
 ·cases h2
 ·cases h0
theorem Z288 {s:Bs} {m:Bool} {z:Box} {y:s.den} (hs:isSlB (some (s,m))=true) (h:decBox s z=some y):boxOf s y=z∧((∃ t xs,z=.row 0 t xs)∨∃ t pos inn,z=.pool 0 t pos inn):=by
 rcases Z122 h with ⟨T1,t1,ls,x,h1,h2,_⟩ | ⟨t1,xs,h1,h2⟩ | ⟨T1,k1,h1,h2,h3⟩ | ⟨t1,p1,i1,h1,h2⟩ | ⟨T1,l1,ls,x,h0,h1,h2,_⟩
 ·cases s <;> simp_all [isSlB,boxOf]
 ·exact ⟨by rw [h2,h1],.inl ⟨_,_,h1⟩⟩
 ·subst h3; simp [isSlB] at hs
 ·exact ⟨by rw [h2,h1],.inr ⟨_,_,_,h1⟩⟩
 ·subst h0; simp [isSlB] at hs
theorem Z114:∀ {l:List (Bs×Bool)} {y:bsDen l},(Z578 l y).length=l.length
 | [],_=>rfl
 | s :: r,y=>by simp [Z578,Z114 (l:=r)]
theorem Z70:∀ {l:List (Bs×Bool)} {zs:List Box} {y:bsDen l},Z289 l zs=some y→zs.length=l.length ∧
  ∀ (k:Nat) (z:Box),zs[k]?=some z→∃ s y0,l[k]?=some s∧decBox s.1 z=some y0∧(Z578 l y)[k]?=some (boxOf s.1 y0)
 | [],[],y,_=>⟨rfl,fun k z h=>by simp at h⟩
 | [],_ :: _,_,h=>by simp [Z289] at h
 | _ :: _,[],_,h=>by simp [Z289] at h
 | s :: r,z :: q,y,h=>by
  simp only [Z289] at h
  cases h1:decBox s.1 z with
  | none=>simp [h1] at h
  | some a =>
   simp only [h1] at h
   cases h2:Z289 r q with
   | none=>simp [h2] at h
   | some b =>
    simp only [h2,Option.some.injEq] at h
    subst h
    obtain ⟨h3,h4⟩:=Z70 h2
    refine ⟨by simp [h3],fun k x hk=>?_⟩
    cases k with
    | zero =>
     simp only [List.getElem?_cons_zero,Option.some.injEq] at hk
     subst hk
     exact ⟨s,a,rfl,h1,rfl⟩
    | succ k =>
     simp only [List.getElem?_cons_succ] at hk ⊢
     exact h4 k x hk
theorem Z41 {l:List (Bs×Bool)} {zs:List Box} {y:bsDen l} (h:Z427 l zs=some y):pvsOk l l=true∧Z289 l zs=some y:=by
 unfold Z427 at h
 cases hp:pvsOk l l with
 | false=>rw [hp] at h; cases h
 | true=>rw [hp] at h; exact ⟨rfl,h⟩
theorem Z123 {l:List (Bs×Bool)} {zs:List Box} {y:bsDen l} (h:Z427 l zs=some y):zs.length=l.length ∧
  ∀ (k:Nat) (z:Box),zs[k]?=some z→∃ s y0,l[k]?=some s∧decBox s.1 z=some y0∧(Z578 l y)[k]?=some (boxOf s.1 y0):=Z70 (Z41 h).2
theorem pvs_at {all:List (Bs×Bool)}:∀ {l:List (Bs×Bool)},pvsOk all l=true→∀ {T k:Nat} {m:Bool},(Bs.pv T k,m)∈l→∃ T' t m',all[k]?=some (.var T' t,m')
 | [],_,_,_,_,h=>by simp at h
 | (.pv T0 k0,m0) :: r,hp,T,k,m,h=>by
  simp only [pvsOk,Bool.and_eq_true] at hp
  rcases List.mem_cons.1 h with h | h
  ·cases h
   have h1:=hp.1
   rw [nth_eq] at h1
   cases ha:all[k0]? with
   | none=>rw [ha] at h1; cases h1
   | some q =>
    rw [ha] at h1
    obtain ⟨b,m'⟩:=q
    cases b with
    | var T' t=>exact ⟨T',t,m',rfl⟩
    | row t=>cases h1
    | pv _ _=>cases h1
    | pool _=>cases h1
    | rc _ _=>cases h1
  ·exact pvs_at hp.2 h
 | (.var T0 t0,m0) :: r,hp,T,k,m,h=>by
  rcases List.mem_cons.1 h with h | h
  ·cases h
  ·exact pvs_at (l:=r) hp h
 | (.row t0,m0) :: r,hp,T,k,m,h=>by
  rcases List.mem_cons.1 h with h | h
  ·cases h
  ·exact pvs_at (l:=r) hp h
 | (.pool t0,m0) :: r,hp,T,k,m,h=>by
  rcases List.mem_cons.1 h with h | h
  ·cases h
  ·exact pvs_at (l:=r) hp h
 | (.rc T0 l0,m0) :: r,hp,T,k,m,h=>by
  simp only [pvsOk,Bool.and_eq_true] at hp
  rcases List.mem_cons.1 h with h | h
  ·cases h
  ·exact pvs_at (l:=r) hp.2 h
theorem Z514 {all:List (Bs×Bool)}:∀ {l:List Pt},ptsOk all l=true→∀ {k:Nat},Pt.sl k∈l→isSlB (all[k]?)=true
 | [],_,_,h=>by simp at h
 | .sl k0 :: r,hp,k,h=>by
  simp only [ptsOk,Bool.and_eq_true] at hp
  rcases List.mem_cons.1 h with h | h
  ·cases h; rw [nth_eq] at hp; exact hp.1
  ·exact Z514 hp.2 h
 | .v t :: r,hp,k,h=>by
  rcases List.mem_cons.1 h with h | h
  ·cases h
  ·exact Z514 (l:=r) hp h
theorem rcs_at {all:List (Bs×Bool)}:∀ {l:List (Bs×Bool)},pvsOk all l=true→∀ {T:Nat} {ps:List Pt} {m:Bool},(Bs.rc T ps,m)∈l→ptsOk all ps=true
 | [],_,_,_,_,h=>by simp at h
 | (.pv T0 k0,m0) :: r,hp,T,k,m,h=>by
  simp only [pvsOk,Bool.and_eq_true] at hp
  rcases List.mem_cons.1 h with h | h
  ·cases h
  ·exact rcs_at hp.2 h
 | (.var T0 t0,m0) :: r,hp,T,k,m,h=>by
  rcases List.mem_cons.1 h with h | h
  ·cases h
  ·exact rcs_at (l:=r) hp h
 | (.row t0,m0) :: r,hp,T,k,m,h=>by
  rcases List.mem_cons.1 h with h | h
  ·cases h
  ·exact rcs_at (l:=r) hp h
 | (.pool t0,m0) :: r,hp,T,k,m,h=>by
  rcases List.mem_cons.1 h with h | h
  ·cases h
  ·exact rcs_at (l:=r) hp h
 | (.rc T0 l0,m0) :: r,hp,T,k,m,h=>by
  simp only [pvsOk,Bool.and_eq_true] at hp
  rcases List.mem_cons.1 h with h | h
  ·cases h; exact hp.1
  ·exact rcs_at (l:=r) hp.2 h
theorem Z687:∀ {l:List (Bs×Bool)} {x:bsDen l} {y:mutDen l},Z578 l (insM l x y)=mutOf l x y
 | [],_,_=>rfl
 | (_,true) :: r,x,y=>by simp only [Z578,mutOf,insM]; rw [Z687]
 | (_,false) :: r,x,y=>by simp only [Z578,mutOf,insM]; rw [Z687]
theorem Z290 {I J:Rg} {β:Bt} {σ:Sg} {w:World}:∀ {l:List Pt} {ls:List Lf} {x:ptDen l} {us:List Value},decPt l ls=some x→RLs I J β σ w ls us→RLs I J β σ w (Z688 l x) us
 | [],[],x,us,_,hv=>hv
 | [],_ :: _,x,us,h,_=>by simp [decPt] at h
 | .sl b :: r,[],x,us,h,hv=>by simp [decPt] at h
 | .sl b :: r,l :: ls,x,us,h,hv=>by
  simp only [decPt] at h
  cases hb:slNo b l with
  | false=>rw [hb,cond_false] at h; cases h
  | true =>
   rw [hb,cond_true] at h
   obtain ⟨v,rest,rfl,h1,h2⟩:=hv
   unfold slNo at hb
   split at hb
   ·rw [← Nat.eq_of_beq_eq_true hb] at h1
    exact ⟨v,rest,rfl,h1,Z290 h h2⟩
   ·cases hb
 | .v t :: r,ls,x,us,h,hv=>by
  simp only [decPt] at h
  split at h
  ·rename_i y q hu
   split at h
   ·rename_i z hz
    simp only [Option.some.injEq] at h
    subst h
    obtain ⟨v1,v2,rfl,h2,h3⟩:=Z551 hu hv
    exact h2.append (Z290 hz h3)
   ·cases h
  ·cases h
theorem Z88 {I J:Rg} {β β':Bt} {σ σ':Sg} {w:World}:∀ {l:List Pt} {x:ptDen l} {us:List Value},(∀ k,Pt.sl k∈l→∃ z,σ k=some z∧σ' k=some z∧β' k=β k)→RLs I J β σ w (Z688 l x) us→RLs I J β' σ' w (Z688 l x) us
 | [],x,us,_,hv=>hv
 | .sl b :: r,x,us,hb,hv=>by
  obtain ⟨v,rest,rfl,⟨z0,hz0,hs⟩,h2⟩:=hv
  obtain ⟨z,h3,h4,h5⟩:=hb b (by simp)
  rw [h3] at hz0; injection hz0 with hz0; subst hz0
  refine ⟨v,rest,rfl,⟨z,h4,?_⟩,Z88 (l:=r) (fun k hk=>hb k (by simp [hk])) h2⟩
  cases z with
  | row v t xs=>simp only [Z564,h5] at hs ⊢; exact hs
  | pool v t pos inn=>simp only [Z564,h5] at hs ⊢; exact hs
  | var T c=>trivial
  | gone=>trivial
 | .v t :: r,x,us,hb,hv=>by
  obtain ⟨v1,v2,rfl,h1,h2⟩:=RLs.split hv
  exact (Z457 h1).append (Z88 (l:=r) (fun k hk=>hb k (by simp [hk])) h2)
def src0 (m:Nat) (own:List (Option Nat)) (k:Nat):Option Nat:=if k < m then some k else (own[k - m]?).getD none
noncomputable def outS (m:Nat) (own:List (Option Nat)) (n:Nat):Option Nat:=match unkey n with
 | some (k,r)=>(src0 m own k).map fun b=>key b r
 | none=>src0 m own n
noncomputable def outB (β:Bt) (m:Nat) (own:List (Option Nat)):Bt:=fun n=>(outS m own n).bind β
theorem Z505 {m k:Nat} {own:List (Option Nat)} (h:k < 1000000):outS m own k=src0 m own k:=by unfold outS; rw [Z392 h]
theorem Z504 {m k r:Nat} {own:List (Option Nat)}:outS m own (key k r)=(src0 m own k).map fun b=>key b r:=by unfold outS; rw [Z391]
theorem Z326:∀ {own:List (Option Nat)},ltKo own=true→∀ b,some b∈own→b < 1000000
 | [],_,b,h=>by cases h
 | none :: r,hl,b,h=>by
  rcases List.mem_cons.1 h with h | h
  ·cases h
  ·exact Z326 (own:=r) hl b h
 | some c :: r,hl,b,h=>by
  simp only [ltKo,Bool.and_eq_true] at hl
  rcases List.mem_cons.1 h with h | h
  ·cases h; exact Nat.le_of_ble_eq_true hl.1
  ·exact Z326 hl.2 b h
section
variable {I J:Rg} {β:Bt} {σ:Sg} {w:World} {sp:List (Bs×Bool)} {ys:bsDen sp} {ps bs:List Box} {own:List (Option Nat)}
theorem Z506 (hmK:sp.length+own.length≤1000000) (hlen:bs.length=own.length):∀ (j:Nat) (y:Box),bs[j]?=some y→ex (listF (Z578 sp ys++bs)) (sp.length+j)=some y∧outB β sp.length own (sp.length+j)=ownB β own j:=by
 intro j y hy
 have hj:j < bs.length:=(List.getElem?_eq_some_iff.1 hy).1
 refine ⟨?_,?_⟩
 ·rw [ex_low (by omega)]
  unfold listF
  rw [List.getElem?_append_right (by rw [Z114]; omega),Z114,Nat.add_sub_cancel_left]
  exact hy
 ·unfold outB ownB
  rw [Z505 (by omega)]
  unfold src0
  rw [if_neg (by omega),Nat.add_sub_cancel_left]
structure Fin0 (σ:Sg) (sp:List (Bs×Bool)) (ys:bsDen sp) (ps bs:List Box) (own:List (Option Nat)):Prop where
 pss:∀ b,b < sp.length→ps[b]?=σ b
 len:ps.length=sp.length
 dec:Z427 sp ps=some ys
 out:Z403 sp.length σ bs own
 nd:nodup own=true
 max:sp.length+own.length≤1000000
 pky:∀ b r v t pos inn,b < 1000000→σ b=some (.pool v t pos inn)→σ (Abs.key b r)=((inn[r]?:Option (List (Tc.den t))).map (.row 0 t))
variable (H:Fin0 σ sp ys ps bs own)
include H
theorem Fin0.param {k:Nat} (hk:k < sp.length):∃ x s mm y0,σ k=some x∧sp[k]?=some (s,mm)∧decBox s x=some y0∧(Z578 sp ys)[k]?=some (boxOf s y0):=by
 have hk':k < ps.length:=by rw [H.len]; exact hk
 have hx:ps[k]?=some ps[k]:=by simp [hk']
 obtain ⟨s,y0,h1,h2,h3⟩:=(Z123 H.dec).2 k _ hx
 exact ⟨ps[k],s.1,s.2,y0,by rw [← H.pss k hk,hx],h1,h2,h3⟩
theorem Fin0.low {k:Nat} {y:Box} (hy:listF (Z578 sp ys++bs) k=some y) :
  (k < sp.length∧∃ x s mm y0,σ k=some x∧sp[k]?=some (s,mm)∧decBox s x=some y0∧y=boxOf s y0)∨(sp.length≤k∧k < sp.length+own.length∧∃ o,own[k - sp.length]?=some o∧OutBox sp.length σ y o):=by
 rcases Nat.lt_or_ge k sp.length with h | h
 ·obtain ⟨x,s,mm,y0,h1,h2,h3,h4⟩:=H.param h
  unfold listF at hy
  rw [List.getElem?_append_left (by rw [Z114]; omega),h4] at hy
  injection hy with hy
  exact .inl ⟨h,x,s,mm,y0,h1,h2,h3,hy.symm⟩
 ·have hy':bs[k - sp.length]?=some y:=by
   unfold listF at hy
   rw [List.getElem?_append_right (by rw [Z114]; omega),Z114] at hy
   exact hy
  obtain ⟨o,h1,h2⟩:=H.out.at _ _ hy'
  have:=(List.getElem?_eq_some_iff.1 h1).1
  exact .inr ⟨h,by omega,o,h1,h2⟩
theorem Fin0.kmax {k:Nat} {y:Box} (hy:listF (Z578 sp ys++bs) k=some y):k < 1000000:=by
 have:=H.max
 rcases H.low hy with ⟨h,_⟩ | ⟨_,h,_⟩ <;> omega
theorem Fin0.pool {k v:Nat} {t:Tc} {pos:List Nat} {inn:List (List t.den)} (hy:listF (Z578 sp ys++bs) k=some (.pool v t pos inn)):v=0∧((pos=[]∧inn=[]∧src0 sp.length own k=none)∨∃ b v',src0 sp.length own k=some b∧b < 1000000∧σ b=some (.pool v' t pos inn)):=by
 rcases H.low hy with ⟨h,x,s,mm,y0,h1,h2,h3,h4⟩ | ⟨h,hlt,o,h1,h2⟩
 ·rcases Z122 h3 with ⟨T1,t1,ls,x,e1,e2,_⟩ | ⟨t1,xs,e1,e2⟩ | ⟨T1,k1,e1,e2,e3⟩ | ⟨t1,p1,i1,e1,e2⟩ | ⟨T1,l1,ls,x,e0,e1,e2,_⟩
  ·rw [e2] at h4; cases h4
  ·rw [e2] at h4; cases h4
  ·rw [e2] at h4; cases h4
  ·rw [e2] at h4
   injection h4 with q1 q2 q3 q4
   subst q2
   have q4:=eq_of_heq q4
   subst q3; subst q4
   refine ⟨q1,.inr ⟨k,0,by unfold src0; rw [if_pos h],by have:=H.max; omega,by rw [h1,e1]⟩⟩
  ·rw [e2] at h4; cases h4
 ·have hs:src0 sp.length own k=o:=by unfold src0; rw [if_neg (by omega),h1]; rfl
  cases o with
  | none =>
   rcases h2 with ⟨t',e⟩ | ⟨t',e⟩
   ·cases e
   ·injection e with q1 q2 q3 q4
    subst q2
    have q4:=eq_of_heq q4
    exact ⟨q1,.inl ⟨q3,q4,hs⟩⟩
  | some b =>
   obtain ⟨g1,g2,⟨T,c,cs,g3,g4⟩ | ⟨v',t',xs,n,g3,g4⟩ | ⟨v',t',pos',inn',g3,g4⟩⟩:=h2
   ·cases g4
   ·cases g4
   ·injection g4 with q1 q2 q3 q4
    subst q2
    have q4:=eq_of_heq q4
    subst q3; subst q4
    exact ⟨q1,.inr ⟨b,v',hs,g2,g3⟩⟩
theorem Fin0.inner {k r:Nat} {y:Box} (hy:ex (listF (Z578 sp ys++bs)) (Abs.key k r)=some y):∃ b t xs,src0 sp.length own k=some b∧y=.row 0 t xs∧σ (Abs.key b r)=some y:=by
 rw [ex_key] at hy
 cases hk:listF (Z578 sp ys++bs) k with
 | none=>rw [hk] at hy; cases hy
 | some z =>
  rw [hk] at hy
  cases z with
  | var T c=>cases hy
  | row v t xs=>cases hy
  | pool v t pos inn =>
   simp only [innB,Option.map_eq_some_iff] at hy
   obtain ⟨xs,h1,rfl⟩:=hy
   rcases (H.pool hk).2 with ⟨_,rfl,_⟩ | ⟨b,v',h2,h3,h4⟩
   ·simp at h1
   ·exact ⟨b,t,xs,h2,rfl,by rw [H.pky b r _ _ _ _ h3 h4,h1]; rfl⟩
  | gone =>
   exfalso
   rcases H.low hk with ⟨h,x,s,mm,y0,h1,h2,h3,h4⟩ | ⟨h,hlt,o,h1,h2⟩
   ·rcases Z122 h3 with ⟨T1,t1,ls,x,e1,e2,_⟩ | ⟨t1,xs,e1,e2⟩ | ⟨T1,k1,e1,e2,e3⟩ | ⟨t1,p1,i1,e1,e2⟩ | ⟨T1,l1,ls,x,e0,e1,e2,_⟩ <;> rw [e2] at h4 <;> cases h4
   ·cases o with
    | none=>rcases h2 with ⟨t',e⟩ | ⟨t',e⟩ <;> cases e
    | some b=>obtain ⟨g1,g2,⟨T,c,cs,g3,g4⟩ | ⟨v',t',xs,n,g3,g4⟩ | ⟨v',t',pos',inn',g3,g4⟩⟩:=h2 <;> cases g4
theorem Fin0.live {n:Nat} (hn:liveB (ex (listF (Z578 sp ys++bs)) n)) {q:Nat×Nat} (hb:outB β sp.length own n=some q):∃ c,outS sp.length own n=some c∧liveB (σ c)∧β c=some q:=by
 obtain ⟨y,hy⟩:=Z218 hn
 cases hu:unkey n with
 | some p =>
  obtain ⟨k,r⟩:=p
  have e:=Z266 hu
  subst e
  obtain ⟨b,t,xs,h1,rfl,h3⟩:=H.inner hy
  have hs:outS sp.length own (Abs.key k r)=some (Abs.key b r):=by rw [Z504,h1]; rfl
  unfold outB at hb
  rw [hs] at hb
  exact ⟨_,hs,by rw [h3]; trivial,hb⟩
 | none =>
  have hy':listF (Z578 sp ys++bs) n=some y:=by unfold ex at hy; rw [hu] at hy; exact hy
  have hnK:=H.kmax hy'
  unfold outB at hb
  rw [Z505 hnK] at hb ⊢
  rcases H.low hy' with ⟨h,x,s,mm,y0,h1,h2,h3,h4⟩ | ⟨h,hlt,o,h1,h2⟩
  ·have hs:src0 sp.length own n=some n:=by unfold src0; rw [if_pos h]
   rw [hs] at hb
   refine ⟨n,hs,?_,hb⟩
   rw [h1]
   rcases Z122 h3 with ⟨T1,t1,ls,x,rfl,e2,_⟩ | ⟨t1,xs,rfl,e2⟩ | ⟨T1,k1,rfl,e2,e3⟩ | ⟨t1,p1,i1,rfl,e2⟩ | ⟨T1,l1,ls,x,e0,rfl,e2,_⟩ <;> trivial
  ·have hs:src0 sp.length own n=o:=by unfold src0; rw [if_neg (by omega),h1]; rfl
   rw [hs] at hb
   cases o with
   | none=>cases hb
   | some b =>
    refine ⟨b,hs,?_,hb⟩
    obtain ⟨g1,g2,⟨T,c,cs,g3,g4⟩ | ⟨v',t',xs,n,g3,g4⟩ | ⟨v',t',pos',inn',g3,g4⟩⟩:=h2 <;> rw [g3] <;> trivial
theorem Fin0.src_low {k b:Nat} (h:src0 sp.length own k=some b):(k < sp.length∧b=k)∨(sp.length≤k∧sp.length≤b∧own[k - sp.length]?=some (some b)):=by
 unfold src0 at h
 split at h
 ·rename_i hlt
  injection h with h
  exact .inl ⟨hlt,h.symm⟩
 ·rename_i hlt
  cases ho:own[k - sp.length]? with
  | none=>rw [ho] at h; cases h
  | some o =>
   rw [ho] at h
   replace h:o=some b:=h
   subst h
   refine .inr ⟨by omega,?_,rfl⟩
   have hj:=(List.getElem?_eq_some_iff.1 ho).1
   have hbl:bs[k - sp.length]?=some (bs[k - sp.length]'(by rw [H.out.len]; exact hj)):=by simp
   obtain ⟨o',h1,h2⟩:=H.out.at _ _ hbl
   rw [ho] at h1; injection h1 with h1; subst h1
   exact h2.1
theorem Fin0.src_K {k b:Nat} (h:src0 sp.length own k=some b):b < 1000000:=by
 rcases H.src_low h with ⟨h1,h2⟩ | ⟨h1,h2,h3⟩
 ·have:=H.max; omega
 ·have hj:=(List.getElem?_eq_some_iff.1 h3).1
  have hbl:bs[k - sp.length]?=some (bs[k - sp.length]'(by rw [H.out.len]; exact hj)):=by simp
  obtain ⟨o',g1,g2⟩:=H.out.at _ _ hbl
  rw [h3] at g1; injection g1 with g1; subst g1
  exact g2.2.1
theorem Fin0.src_inj {k k' b:Nat} (h:src0 sp.length own k=some b) (h':src0 sp.length own k'=some b):k=k':=by
 rcases H.src_low h with ⟨h1,h2⟩ | ⟨h1,h2,h3⟩ <;> rcases H.src_low h' with ⟨g1,g2⟩ | ⟨g1,g2,g3⟩
 ·omega
 ·omega
 ·omega
 ·have:=Z225 H.nd h3 g3
  omega
theorem Fin0.inj {n n' c:Nat} (h:outS sp.length own n=some c) (h':outS sp.length own n'=some c):n=n':=by
 unfold outS at h h'
 cases hu:unkey n with
 | none =>
  rw [hu] at h
  cases hu':unkey n' with
  | none=>rw [hu'] at h'; exact H.src_inj h h'
  | some q =>
   rw [hu'] at h'
   simp only [Option.map_eq_some_iff] at h'
   obtain ⟨b,_,e⟩:=h'
   have:=H.src_K h
   have:=key_ge b q.2
   omega
 | some p =>
  rw [hu] at h
  simp only [Option.map_eq_some_iff] at h
  obtain ⟨b,hb,e⟩:=h
  cases hu':unkey n' with
  | none =>
   rw [hu'] at h'
   have:=H.src_K h'
   have:=key_ge b p.2
   omega
  | some q =>
   rw [hu'] at h'
   simp only [Option.map_eq_some_iff] at h'
   obtain ⟨b',hb',e'⟩:=h'
   obtain ⟨e1,e2⟩:=Z641 (e.trans e'.symm)
   subst e1
   have e3:=H.src_inj hb hb'
   rw [Z266 (b:=p.1) (r:=p.2) hu,Z266 (b:=q.1) (r:=q.2) hu',e3,e2]
theorem Fin0.place {k b p v:Nat} {t:Tc} {pos:List Nat} {inn:List (List t.den)} (hk:listF (Z578 sp ys++bs) k=some (.pool 0 t pos inn)) (hs:src0 sp.length own k=some b) (hb:σ b=some (.pool v t pos inn)) {u:Value}
  (h:RL I J β σ w (.slice (Abs.key b p) 0 none) u):RL I J (outB β sp.length own) (ex (listF (Z578 sp ys++bs))) w (.slice (Abs.key k p) 0 none) u:=by
 obtain ⟨x,hx,hsl⟩:=h
 have hx':=hx
 rw [H.pky b p _ _ _ _ (H.src_K hs) hb] at hx
 simp only [Option.map_eq_some_iff] at hx
 obtain ⟨xs,h1,rfl⟩:=hx
 have hβ:outB β sp.length own (Abs.key k p)=β (Abs.key b p):=by unfold outB; rw [Z504,hs]; rfl
 refine ⟨.row 0 t xs,by rw [ex_key,hk]; simp [innB,h1],?_⟩
 simp only [Z564,hβ] at hsl ⊢
 exact hsl
theorem Fin0.lowb:Low sp.length β σ (outB β sp.length own) (ex (listF (Z578 sp ys++bs))):=by
 intro b t xs hb hσ
 obtain ⟨x,s,mm,y0,h1,h2,h3,h4⟩:=H.param hb
 rw [hσ] at h1; injection h1 with h1; subst h1
 have hbK:b < 1000000:=by have:=H.max; omega
 refine ⟨?_,?_⟩
 ·rw [ex_low hbK]
  unfold listF
  rw [List.getElem?_append_left (by rw [Z114]; omega),h4]
  rcases Z122 h3 with ⟨T1,t1,ls,x,e1,e2,_⟩ | ⟨t1,xs1,e1,e2⟩ | ⟨T1,k1,e1,e2,e3⟩ | ⟨t1,p1,i1,e1,e2⟩ | ⟨T1,l1,ls,x,e0,e1,e2,_⟩
  ·cases e1
  ·rw [e2,← e1]
  ·cases e1
  ·cases e1
  ·cases e1
 ·unfold outB
  rw [Z505 hbK]
  unfold src0
  rw [if_pos hb]
  rfl
theorem Fin0.par_at {k:Nat} (hk:k < sp.length):∃ x s mm y0,σ k=some x∧sp[k]?=some (s,mm)∧decBox s x=some y0∧ex (listF (Z578 sp ys++bs)) k=some (boxOf s y0)∧outB β sp.length own k=β k:=by
 obtain ⟨x,s,mm,y0,h1,h2,h3,h4⟩:=H.param hk
 have hbK:k < 1000000:=by have:=H.max; omega
 refine ⟨x,s,mm,y0,h1,h2,h3,?_,?_⟩
 ·rw [ex_low hbK]
  unfold listF
  rw [List.getElem?_append_left (by rw [Z114]; omega),h4]
 ·unfold outB
  rw [Z505 hbK]
  unfold src0
  rw [if_pos hk]
  rfl
theorem Z354 (hG:Good I J β σ w) (hvo:VarsOk I J β σ w bs own (outB β sp.length own) (ex (listF (Z578 sp ys++bs)))):Good I J (outB β sp.length own) (ex (listF (Z578 sp ys++bs))) w:=by
 refine ⟨?_,?_,?_,hG.bnd⟩
 ·intro n y hy
  cases hu:unkey n with
  | some p =>
   obtain ⟨k,r⟩:=p
   have e:=Z266 hu
   subst e
   obtain ⟨b,t,xs,h1,rfl,h3⟩:=H.inner hy
   have hβ:outB β sp.length own (Abs.key k r)=β (Abs.key b r):=by unfold outB; rw [Z504,h1]; rfl
   have hb:=hG.box _ _ h3
   simp only [RB,hβ] at hb ⊢
   exact hb
  | none =>
   have hy':listF (Z578 sp ys++bs) n=some y:=by unfold ex at hy; rw [hu] at hy; exact hy
   have hnK:=H.kmax hy'
   have hB:outB β sp.length own n=(src0 sp.length own n).bind β:=by unfold outB; rw [Z505 hnK]
   rcases H.low hy' with ⟨h,x,s,mm,y0,h1,h2,h3,rfl⟩ | ⟨h,hlt,o,h1,h2⟩
   ·have hs:src0 sp.length own n=some n:=by unfold src0; rw [if_pos h]
    have hβ:outB β sp.length own n=β n:=by rw [hB,hs]; rfl
    rcases Z122 h3 with ⟨T1,t1,ls,x1,rfl,e2,e3⟩ | ⟨t1,xs,rfl,e2⟩ | ⟨T1,k1,rfl,e2,e3⟩ | ⟨t1,p1,i1,rfl,e2⟩ | ⟨T1,l1,ls,x1,e0,rfl,e2,e3⟩
    ·rw [e2]
     obtain ⟨blk,vs,h7,h8,h9⟩:=hG.box n _ h1
     obtain ⟨v1,v2,rfl,g1,g2⟩:=Z551 e3 h9
     simp only [RLs] at g2
     subst g2
     rw [List.append_nil] at h8
     exact ⟨blk,v1,by rw [hβ,h7],h8,Z457 g1⟩
    ·rw [e2]
     have hb:=hG.box n _ h1
     simp only [RB,hβ] at hb ⊢
     exact hb
    ·subst e3
     rw [e2]
     obtain ⟨blk,vs,g1,g2,u,r,rfl,⟨ho,x0,gx,gr⟩,g4⟩:=hG.box n _ h1
     obtain ⟨T',t',m',ha⟩:=pvs_at (Z41 H.dec).1 (List.mem_of_getElem? h2)
     have hk':k1 < sp.length:=(List.getElem?_eq_some_iff.1 ha).1
     obtain ⟨x',s',mm',y',q1,q2,q3,q4,q5⟩:=H.par_at (β:=β) hk'
     rw [ha] at q2
     injection q2 with q2
     injection q2 with q2 _
     subst q2
     obtain ⟨⟨ls',r1⟩,r2⟩:=Z188 q3
     rw [q1] at gx
     injection gx with gx
     subst gx
     rw [r1] at gr
     obtain ⟨bk,w1,w2⟩:=gr
     refine ⟨blk,u :: r,by rw [hβ,g1],g2,u,r,rfl,⟨ho,_,q4,?_⟩,g4⟩
     rw [r2]
     exact ⟨bk,by rw [q5]; exact w1,w2⟩
    ·rw [e2] at hy' ⊢
     have hb:=hG.box n _ h1
     rcases hb with ⟨g1,g2⟩ | ⟨blk,o,C,E,g1,g2,g3⟩
     ·exact .inl ⟨g1,by rw [hβ,g2]⟩
     ·refine .inr ⟨blk,o,C,E,by rw [hβ,g1],g2,fun i p hp=>?_⟩
      obtain ⟨v,g4,g5⟩:=g3 i p hp
      exact ⟨v,g4,H.place hy' hs h1 g5⟩
    ·subst e0
     rw [e2]
     obtain ⟨blk,vs,g1,g2,g3⟩:=hG.box n _ h1
     refine ⟨blk,vs,by rw [hβ,g1],g2,Z88 (fun k1 hk1=>?_) (Z290 e3 g3)⟩
     have hpt:=rcs_at (Z41 H.dec).1 (List.mem_of_getElem? h2)
     have hsl:=Z514 hpt hk1
     cases ha:sp[k1]? with
     | none=>rw [ha] at hsl; cases hsl
     | some q =>
      rw [ha] at hsl
      have hk':k1 < sp.length:=(List.getElem?_eq_some_iff.1 ha).1
      obtain ⟨x',s',mm',y',q1,q2,q3,q4,q5⟩:=H.par_at (β:=β) hk'
      rw [ha] at q2
      injection q2 with q2
      subst q2
      exact ⟨x',q1,by rw [q4,(Z288 hsl q3).1],q5⟩
   ·have hs:src0 sp.length own n=o:=by unfold src0; rw [if_neg (by omega),h1]; rfl
    have hβ:outB β sp.length own n=o.bind β:=by rw [hB,hs]
    cases o with
    | none =>
     rcases h2 with ⟨t,rfl⟩ | ⟨t,rfl⟩
     ·exact .inl ⟨rfl,hβ⟩
     ·exact .inl ⟨rfl,hβ⟩
    | some b =>
     have hβ:outB β sp.length own n=β b:=hβ
     obtain ⟨g1,g2,⟨T,c,cs,g3,rfl⟩ | ⟨v',t',xs,m',g3,rfl⟩ | ⟨v',t',pos',inn',g3,rfl⟩⟩:=h2
     ·obtain ⟨blk,vs,q1,q2,q3⟩:=hG.box b _ g3
      have hbs:bs[n - sp.length]?=some (.var T cs):=by
       unfold listF at hy'
       rw [List.getElem?_append_right (by rw [Z114]; omega),Z114] at hy'
       exact hy'
      exact ⟨blk,vs,by rw [hβ,q1],q2,hvo _ T cs hbs b c h1 g3 vs q3⟩
     ·have hb:=hG.box b _ g3
      simp only [RB,hβ] at hb ⊢
      rcases hb with ⟨q1,q2⟩ | ⟨blk,o,C,E,q1,q2,q3⟩
      ·exact .inl ⟨by rw [q1,List.take_nil],q2⟩
      ·refine .inr ⟨blk,o,C,E,q1,q2,fun i y hy=>q3 i y ?_⟩
       rw [List.getElem?_take] at hy
       split at hy
       ·exact hy
       ·cases hy
     ·have hb:=hG.box b _ g3
      rcases hb with ⟨q1,q2⟩ | ⟨blk,o,C,E,q1,q2,q3⟩
      ·exact .inl ⟨q1,by rw [hβ,q2]⟩
      ·refine .inr ⟨blk,o,C,E,by rw [hβ,q1],q2,fun i p hp=>?_⟩
       obtain ⟨v,q4,q5⟩:=q3 i p hp
       exact ⟨v,q4,H.place hy' hs g3 q5⟩
 ·intro n n' blk o o' hl hl' hb hb'
  obtain ⟨c,h1,h2,h3⟩:=H.live hl hb
  obtain ⟨c',h1',h2',h3'⟩:=H.live hl' hb'
  have:=hG.inj c c' blk o o' h2 h2' h3 h3'
  subst this
  exact H.inj h1 h1'
 ·intro n blk o i hl hb
  obtain ⟨c,h1,h2,h3⟩:=H.live hl hb
  exact hG.sep c blk o i h2 h3
omit H
theorem tup_rv:∀ {l:List (Bool×List Lf)} {us:List Value},RT I J β σ w l us→RV I J β σ w (tupV l) (if h:us.toArray.size=1 then us.toArray[0] else .tuple us.toArray)
 | [],us,h=>by
  simp only [RT] at h
  subst h
  exact ⟨[],rfl,rfl⟩
 | [(ag,ls)],us,h=>by
  obtain ⟨u,r,rfl,h1,h2⟩:=h
  simp only [RT] at h2
  subst h2
  simp only [tupV]
  have:(if h:[u].toArray.size=1 then [u].toArray[0] else Value.tuple [u].toArray)=u:=by simp
  rw [this]
  cases ag with
  | true=>exact h1
  | false =>
   match ls,h1 with
   | [],_=>exact trivial
   | [x],h1=>exact h1
   | _ :: _ :: _,_=>exact trivial
 | a :: b :: r,us,h=>by
  have h':=h
  obtain ⟨u,r1,rfl,h1,v,r2,rfl,h2,h3⟩:=h
  have:(if h:(u :: v :: r2).toArray.size=1 then (u :: v :: r2).toArray[0] else Value.tuple (u :: v :: r2).toArray)=.tuple (u :: v :: r2).toArray:=by simp
  rw [this]
  exact ⟨_,rfl,h'⟩
end
section
variable {P:Program} {F:Fr} {N fuel:Nat} {C:List Fun} {ty:Nat→Option TyI} {kp:Keep}
theorem Z73 (hty:TysOk P ty) {bs:List (Bs×Bool)} (hF:LowF bs.length F) {fn:Func} {rs:List (Bool×List Rp)} {st:St} {x:rsDen rs} {y:bsDen bs} {a:Act} {w:World}
  (h:finish ty bs.length fn.results.toList rs bs st=some (x,y)) (hR:Repr F N st.get st.box a w) :
  ∃ u,(results fn a.tmps).run P w=.ok u w∧∃ I' β',Inv F I' β' (ex (listF (Z578 bs y++(resAll bs.length rs x).2))) w ∧
   RV I' F.J β' (ex (listF (Z578 bs y++(resAll bs.length rs x).2))) w (tupV (resAll bs.length rs x).1) u:=by
 obtain ⟨_,_,I,β,hI,hv⟩:=hR
 unfold finish at h
 simp only at h
 have hget:(fun b=>look b st.bx)=st.box:=rfl
 rw [hget] at h
 split at h
 ·rename_i vs hvs
  split at h
  ·rename_i vs' gone him
   split at h
   ·rename_i xr own ps hret hps
    split at h
    ·rename_i yr hdec
     cases hck:nodup own&&ltKo own&&(ltK gone&&Nat.ble (bs.length+own.length) 1000000) with
     | false=>rw [hck,cond_false] at h; cases h
     | true =>
      rw [hck,cond_true] at h
      simp only [Option.some.injEq,Prod.mk.injEq] at h
      obtain ⟨rfl,rfl⟩:=h
      simp only [Bool.and_eq_true] at hck
      obtain ⟨⟨hnd,hoK⟩,hgK,hmax⟩:=hck
      have hoK:=Z326 hoK
      have hgK:=Z487 hgK
      have hmax:bs.length+own.length≤1000000:=Nat.le_of_ble_eq_true hmax
      have hAg0:Ag (ex st.box) st.box:=fun b hb=>ex_low hb
      obtain ⟨us,hrun,hrt⟩:=Z57 hty hI hv hvs
      obtain ⟨I1,g1,g2,g3⟩:=Z76 him hAg0 hgK hI hrt
      have hAg:=hAg0.gone gone
      obtain ⟨hob,hout⟩:=Z89 (k:=bs.length) hret hAg hoK (by omega) g3
      obtain ⟨hp,hpa⟩:=Z55 hps
      have hgk:∀ b r,Z631 gone (ex st.box) (Abs.key b r)=innB (st.box b) r:=by
       intro b r
       unfold Z631
       have:mem (Abs.key b r) gone=false:=by
        cases hm:mem (Abs.key b r) gone with
        | false=>rfl
        | true =>
         have h1:=hgK _ (Z659.1 hm)
         have h2:=key_ge b r
         omega
       rw [this,cond_false,ex_key]
      have H:Fin0 (Z631 gone (ex st.box)) bs yr ps (resAll bs.length rs xr).2 own:=by
       refine ⟨fun b hb=>?_,hp,hdec,hob,hnd,hmax,?_⟩
       ·rw [hpa b hb,hAg b (by omega)]
       ·intro b r v t pos inn hb hσ
        rw [hgk]
        rw [hAg b hb] at hσ
        unfold Z631 at hσ
        cases hm:mem b gone with
        | true=>rw [hm] at hσ; cases hσ
        | false =>
         rw [hm,cond_false] at hσ
         rw [hσ]
         rfl
      obtain ⟨hrt',hvo⟩:=hout (outB β bs.length own) _ H.lowb (Z506 hmax hob.len)
      have hG:=Z354 H g1.good hvo
      refine ⟨_,?_,I1,outB β bs.length own,?_,tup_rv hrt'⟩
      ·unfold results
       rw [Array.mapM_eq_mapM_toList]
       simp only [Sem.run_bind,Sem.run_map,Sem.run_pure]
       exact congrArg (fun r:Result (List Value)=>(r.andThen fun a w'=>Result.ok a.toArray w').andThen fun a w'=>Result.ok (if h:a.size=1 then a[0] else Value.tuple a) w') hrun
      ·refine ⟨hG,⟨g1.ext.grow,g1.ext.stays,?_,g1.ext.cap⟩,g1.size,g1.keep,g1.iNew,?_,g1.same⟩
       ·intro b x hx
        obtain ⟨xe,hx',he⟩:=g1.ext.evo b x hx
        rcases hF b x hx with hb | ⟨k,r,hk,rfl⟩
        ·obtain ⟨x0,s,mm,y0,q1,q2,q3,q4,q5⟩:=H.par_at (β:=β) hb
         rw [hx'] at q1
         injection q1 with q1
         subst q1
         refine ⟨_,q4,?_⟩
         rcases Z122 q3 with ⟨T1,t1,ls,x1,rfl,e2,e3⟩ | ⟨t1,xs,rfl,e2⟩ | ⟨T1,k1,rfl,e2,e3⟩ | ⟨t1,p1,i1,rfl,e2⟩ | ⟨T1,l1,ls,x1,e0,rfl,e2,e3⟩ <;> rw [e2] <;> cases x <;> simp only [Evo,q5] at he ⊢ <;> exact he
        ·
         obtain ⟨x0,s,mm,y0,q1,q2,q3,q4,q5⟩:=H.par_at (β:=β) hk
         have hkK:k < 1000000:=by omega
         have hin:=hgk k r
         rw [hx'] at hin
         have hb1:=hAg k hkK
         rw [q1] at hb1
         have hst:st.box k=some x0:=by
          unfold Z631 at hb1
          cases hm:mem k gone with
          | true =>
           rw [hm,cond_true] at hb1
           injection hb1 with hb1
           subst hb1
           rcases Z122 q3 with ⟨T1,t1,ls,x1,e1,e2,e3⟩ | ⟨t1,xs,e1,e2⟩ | ⟨T1,k1,e1,e2,e3⟩ | ⟨t1,p1,i1,e1,e2⟩ | ⟨T1,l1,ls,x1,e0,e1,e2,e3⟩ <;> cases e1
          | false=>rw [hm,cond_false] at hb1; exact hb1.symm
         rw [hst] at hin
         have hs0:src0 bs.length own k=some k:=by unfold src0; rw [if_pos hk]
         have hβk:outB β bs.length own (Abs.key k r)=β (Abs.key k r):=by unfold outB; rw [Z504,hs0]; rfl
         rcases Z122 q3 with ⟨T1,t1,ls,x1,rfl,e2,e3⟩ | ⟨t1,xs,rfl,e2⟩ | ⟨T1,k1,rfl,e2,e3⟩ | ⟨t1,p1,i1,rfl,e2⟩ | ⟨T1,l1,ls,x1,e0,rfl,e2,e3⟩
         ·cases hin
         ·cases hin
         ·cases hin
         ·rw [e2,ex_low hkK] at q4
          refine ⟨xe,by rw [ex_key,q4]; exact hin.symm,?_⟩
          cases x <;> cases xe <;> simp only [Evo,hβk] at he ⊢ <;> exact he
         ·cases hin
       ·intro k blk o hk hb
        obtain ⟨c,h1,h2,h3⟩:=H.live hk hb
        exact g1.bNew c blk o h2 h3
    ·cases h
   ·cases h
  ·cases h
 ·cases h
theorem Z220:∀ (l:List PV) (n k:Nat),look k (enumL n l)=if n≤k then l[k - n]? else none
 | [],n,k=>by simp [enumL,look]
 | x :: r,n,k=>by
  simp only [enumL,look]
  by_cases h:k=n
  ·subst h; simp
  ·have hb:Nat.beq k n=false:=by
    cases hb:Nat.beq k n with
    | false=>rfl
    | true=>exact absurd (Nat.eq_of_beq_eq_true hb) h
   rw [hb,cond_false,Z220 r (n+1) k]
   by_cases h2:n+1≤k
   ·rw [if_pos h2,if_pos (by omega),show k - n=(k - (n+1))+1 by omega]
    rfl
   ·rw [if_neg h2,if_neg (by omega)]
theorem rvs_at {I J:Rg} {β:Bt} {σ:Sg} {w:World}:∀ {ps:List PV} {vs:List Value},RVs I J β σ w ps vs→ps.length=vs.length∧∀ (k:Nat) (p:PV),ps[k]?=some p→∃ v,vs[k]?=some v∧RV I J β σ w p v
 | [],vs,h=>by simp only [RVs] at h; subst h; exact ⟨rfl,fun k p h=>by simp at h⟩
 | q :: r,vs,h=>by
  obtain ⟨v,rest,rfl,h1,h2⟩:=h
  obtain ⟨h3,h4⟩:=rvs_at h2
  refine ⟨by simp [h3],fun k p hp=>?_⟩
  cases k with
  | zero =>
   simp only [List.getElem?_cons_zero,Option.some.injEq] at hp
   subst hp
   exact ⟨v,rfl,h1⟩
  | succ k =>
   simp only [List.getElem?_cons_succ] at hp ⊢
   exact h4 k p hp
noncomputable def frOf (w:World) (I J:Rg) (β:Bt) (bx:List Box):Fr:={ w0:=w,I0:=I,J:=J,β0:=β,σ0:=ex (listF bx) }
theorem Z460 {I J:Rg} {β:Bt} {bx:List Box} {w:World} (hG:Good I J β (ex (listF bx)) w):Inv (frOf w I J β bx) I β (ex (listF bx)) w :=
 ⟨hG,.refl ..,Nat.le_refl _,fun _ _ _=>rfl,fun _ _ h=>.inl h,fun b blk o h1 h2=>.inr ⟨b,o,h1,h2⟩,.refl w⟩
theorem Z619 {P:Program} [Laid P] {I J:Rg} {β:Bt} {bx:List Box} {w:World} (hG:Good I J β (ex (listF bx)) w) (hg:∀ blk i,Laid.g P blk→J blk i) (hL:Laid.L P w):FrOk P (frOf w I J β bx) :=
 ⟨hg,fun blk hb=>⟨hG.bnd blk 0 (.inr (hg blk 0 hb)),fun ⟨k,o,h1,h2⟩=>(hG.sep k blk o 0 h1 h2).2 (hg blk 0 hb)⟩,hL⟩
theorem Z178 [Laid P] (hm:P.follows .mixedOrders=true) (hty:TysOk P ty) (hC:Z559 P C) {id:Nat} {fn:Func} {c:Code} (hf:P.funcs[id]?=some fn) (hb:fn.body=some c) (hN:N≤fn.ntmps)
  {rs:List (Bool×List Rp)} {sp:List Sp} {bs:List (Bs×Bool)} {x:spDen sp} {y:bsDen bs} {r:rsDen rs} {y':bsDen bs} (h:Z702 C ty N fuel kp c fn.results.toList rs sp bs x y=some (r,y'))
  {w:World} {I J:Rg} {β:Bt} {vs:List Value} (hG:Good I J β (ex (listF (Z578 bs y))) w) (hg:∀ blk i,Laid.g P blk→J blk i) (hL:Laid.L P w) (hv:RVs I J β (ex (listF (Z578 bs y))) w (argsOf sp x) vs) :
  Calls P id vs.toArray w fun en w'=>∃ u,en=.returned u∧∃ I' β',Inv (frOf w I J β (Z578 bs y)) I' β' (ex (listF (Z578 bs y'++(resAll bs.length rs r).2))) w' ∧
   RV I' J β' (ex (listF (Z578 bs y'++(resAll bs.length rs r).2))) w' (tupV (resAll bs.length rs r).1) u:=by
 apply calls_of_wp hf hb
 have hF:LowF bs.length (frOf w I J β (Z578 bs y)):=by
  intro b x hx
  have hlt:∀ {k:Nat} {z:Box},listF (Z578 bs y) k=some z→k < bs.length:=fun hk=>by
   have:=(List.getElem?_eq_some_iff.1 hk).1
   rwa [Z114] at this
  have hx:ex (listF (Z578 bs y)) b=some x:=hx
  unfold ex at hx
  split at hx
  ·rename_i k r hu
   refine .inr ⟨k,r,?_,Z266 hu⟩
   cases hk:listF (Z578 bs y) k with
   | none=>rw [hk] at hx; cases hx
   | some z=>exact hlt hk
  ·exact .inl (hlt hx)
 unfold Z702 at h
 have hbox:St.box (start (argsOf sp x) (Z578 bs y))=listF (Z578 bs y):=Z67 _
 refine Z79 (F:=frOf w I J β (Z578 bs y)) (N:=N) (fuel:=fuel) (kp:=kp) hm hty hC (Z619 hG hg hL) hF c _ _ _ _ w _ h ⟨rfl,?_,I,β,?_,?_⟩ ?_
 ·simp; omega
 ·rw [hbox]
  exact Z460 hG
 ·intro t
  rw [hbox]
  obtain ⟨h1,h2⟩:=rvs_at hv
  unfold St.get start
  rw [Z220]
  simp only [Nat.zero_le,if_true,Nat.sub_zero]
  cases hp:(argsOf sp x)[t]? with
  | none=>exact trivial
  | some p =>
   obtain ⟨u,h3,h4⟩:=h2 t p hp
   have hlt:t < vs.length:=(List.getElem?_eq_some_iff.1 h3).1
   have:(vs.toArray++Array.replicate (fn.ntmps - vs.toArray.size) undef).getD t undef=u:=by
    rw [Array.getD_eq_getD_getElem?,Array.getElem?_append_left (by simpa using hlt)]
    simp [h3]
   rw [this]
   exact h4
 ·intro e st' a' w' hK hR
  have fin:finish ty bs.length fn.results.toList rs bs st'=some (r,y')→bodyPost P fn (fun en w'=>∃ u,en=.returned u∧∃ I' β',Inv (frOf w I J β (Z578 bs y)) I' β' (ex (listF (Z578 bs y'++(resAll bs.length rs r).2))) w' ∧
    RV I' J β' (ex (listF (Z578 bs y'++(resAll bs.length rs r).2))) w' (tupV (resAll bs.length rs r).1) u) .normal a' w':=by
   intro hfin
   obtain ⟨u,h1,I',β',h2,h3⟩:=Z73 hty hF hfin hR
   exact ⟨hR.1,u,h1,u,rfl,I',β',h2,h3⟩
  cases e with
  | normal=>exact fin hK
  | ret=>exact fin hK
  | _=>cases hK
end
end Go.Abs
