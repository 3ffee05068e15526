import Derived.Test.YtbapchkhohnncaaGreatDoorFrm
set_option linter.unusedSimpArgs false
set_option linter.unusedSectionVars false
set_option linter.unusedVariables false
namespace Go.Abs
section
variable {I J:Rg} {β:Bt} {σ:Sg} {w:World}
theorem RLs.len:∀ {ls:List Lf} {vs:List Value},RLs I J β σ w ls vs→vs.length=ls.length
 | [],_,h=>by simp only [RLs] at h; subst h; rfl
 | l :: r,vs,h=>by
  obtain ⟨v,rest,rfl,_,h⟩:=h
  simp [h.len]
theorem RLs.append:∀ {ls ms:List Lf} {us vs:List Value},RLs I J β σ w ls us→RLs I J β σ w ms vs→RLs I J β σ w (ls++ms) (us++vs)
 | [],_,_,_,h,h'=>by simp only [RLs] at h; subst h; exact h'
 | l :: r,_,us,_,h,h'=>by
  obtain ⟨v,rest,rfl,h1,h2⟩:=h
  exact ⟨v,rest++_,rfl,h1,h2.append h'⟩
theorem RLs.split:∀ {ls ms:List Lf} {us:List Value},RLs I J β σ w (ls++ms) us→∃ u1 u2,us=u1++u2∧RLs I J β σ w ls u1∧RLs I J β σ w ms u2
 | [],_,us,h=>⟨[],us,rfl,rfl,h⟩
 | l :: r,ms,us,h=>by
  obtain ⟨v,rest,rfl,h1,h2⟩:=h
  obtain ⟨u1,u2,rfl,h3,h4⟩:=RLs.split h2
  exact ⟨v :: u1,u2,rfl,⟨v,u1,rfl,h1,h3⟩,h4⟩
theorem RLs.take:∀ {n:Nat} {ls hd:List Lf} {vs:List Value},RLs I J β σ w ls vs→takeL n ls=some hd→RLs I J β σ w hd (vs.take n)∧n≤vs.length∧hd.length=n
 | 0,_,hd,vs,h,ht=>by
  simp only [takeL,Option.some.injEq] at ht; subst ht
  exact ⟨by simp [RLs],by omega,rfl⟩
 | n+1,[],_,_,_,ht=>by simp [takeL] at ht
 | n+1,l :: r,hd,vs,h,ht=>by
  obtain ⟨v,rest,rfl,h1,h2⟩:=h
  simp only [takeL] at ht
  cases hr:takeL n r with
  | none=>rw [hr] at ht; cases ht
  | some q =>
   rw [hr] at ht
   simp only [Option.some.injEq] at ht; subst ht
   obtain ⟨h3,h4,h5⟩:=h2.take hr
   exact ⟨⟨v,rest.take n,rfl,h1,h3⟩,by simp; omega,by simp [h5]⟩
theorem RLs.drop:∀ {n:Nat} {ls:List Lf} {vs:List Value},RLs I J β σ w ls vs→RLs I J β σ w (dropL n ls) (vs.drop n)
 | 0,_,_,h=>by simpa [dropL] using h
 | n+1,[],vs,h=>by simp only [RLs] at h; subst h; simp [dropL,RLs]
 | n+1,l :: r,vs,h=>by
  obtain ⟨v,rest,rfl,h1,h2⟩:=h
  simpa [dropL] using h2.drop
theorem RLs.sub {off n:Nat} {ls sub:List Lf} {vs:List Value} (h:RLs I J β σ w ls vs) (hs:subL off n ls=some sub) :
  RLs I J β σ w sub ((vs.drop off).take n)∧n≤(vs.drop off).length∧sub.length=n :=
 (h.drop (n:=off)).take hs
theorem Z179 {b i:Nat} (h:both I J false b i):I b i:=h.elim (fun h=>h) (fun z=>by simp at z)
theorem RD.toI {t:Tc} {x:t.den} {vs:List Value} (h:RD (both I J false) w t x vs):RD I w t x vs:=h.mono (fun _ _=>Z179) (fun _ _ _ _ h=>h)
theorem RD.ofI {bor:Bool} {t:Tc} {x:t.den} {vs:List Value} (h:RD I w t x vs):RD (both I J bor) w t x vs:=h.mono (fun _ _ h=>.inl h) (fun _ _ _ _ h=>h)
theorem RD.flatT {I':Rg}:∀ {t:Tc} {x:t.den} {vs:List Value},Abs.flatT t=true→RD I w t x vs→RD I' w t x vs
 | .int _,_,_,_,h=>h
 | .bool,_,_,_,h=>h
 | .str,_,_,_,h=>h
 | .list _,_,_,hf,_=>by simp [Abs.flatT] at hf
 | .pair a b,x,vs,hf,h=>by
  simp only [Abs.flatT,Bool.and_eq_true] at hf
  obtain ⟨v1,v2,h1,h2,h3⟩:=h
  exact ⟨v1,v2,h1,h2.flatT hf.1,h3.flatT hf.2⟩
 | .unit,_,_,_,h=>h
 | .nil,_,_,_,h=>h
theorem RLs.of_rdb {bor:Bool}:∀ {t:Tc} {x:t.den} {vs:List Value},RD (both I J bor) w t x vs→RLs I J β σ w (fl bor t x) vs
 | .int k,n,vs,h=>by simp only [RD] at h; subst h; exact ⟨_,[],rfl,rfl,rfl⟩
 | .bool,n,vs,h=>by simp only [RD] at h; subst h; exact ⟨_,[],rfl,rfl,rfl⟩
 | .str,n,vs,h=>by simp only [RD] at h; subst h; exact ⟨_,[],rfl,rfl,rfl⟩
 | .list t,xs,vs,h=>by
  obtain ⟨A,c,rfl,h2,h3⟩:=h
  exact ⟨_,[],rfl,⟨A,c,rfl,h2,h3⟩,rfl⟩
 | .pair a b,x,vs,h=>by
  obtain ⟨v1,v2,rfl,h1,h2⟩:=h
  exact RLs.append (.of_rdb h1) (.of_rdb h2)
 | .unit,x,vs,h=>by simp only [RD] at h; subst h; rfl
 | .nil,n,vs,h=>by simp only [RD] at h; subst h; exact ⟨_,[],rfl,rfl,rfl⟩
theorem RLs.of_rd {t:Tc} {x:t.den} {vs:List Value} (h:RD I w t x vs):RLs I J β σ w (fl false t x) vs:=.of_rdb h.ofI
theorem RLs.to_rd:∀ {t:Tc} {x:t.den} {vs:List Value},RLs I J β σ w (fl false t x) vs→RD I w t x vs
 | .int k,n,vs,h=>by obtain ⟨v,r,rfl,h1,h2⟩:=h; simp only [RL] at h1; simp only [RLs] at h2; subst h1; subst h2; rfl
 | .bool,n,vs,h=>by obtain ⟨v,r,rfl,h1,h2⟩:=h; simp only [RL] at h1; simp only [RLs] at h2; subst h1; subst h2; rfl
 | .str,n,vs,h=>by obtain ⟨v,r,rfl,h1,h2⟩:=h; simp only [RL] at h1; simp only [RLs] at h2; subst h1; subst h2; rfl
 | .list t,xs,vs,h=>by
  obtain ⟨v,r,rfl,⟨A,c,rfl,h2,h3⟩,h4⟩:=h
  simp only [RLs] at h4; subst h4
  refine ⟨A,c,rfl,h2,h3.imp id ?_⟩
  rintro ⟨a,ha,hs,hr⟩
  exact ⟨a,ha,hs,hr.mono (fun _ _=>Z179) (fun _ _ _ _ h=>h) (fun _ _ h=>h.toI)⟩
 | .pair a b,x,vs,h=>by
  obtain ⟨u1,u2,rfl,h1,h2⟩:=RLs.split h
  exact ⟨u1,u2,rfl,h1.to_rd,h2.to_rd⟩
 | .unit,x,vs,h=>by simp only [fl,RLs] at h; exact h
 | .nil,n,vs,h=>by obtain ⟨v,r,rfl,h1,h2⟩:=h; simp only [RL] at h1; simp only [RLs] at h2; subst h1; subst h2; rfl
theorem Z184 {t t':Tc} {xs:List t.den} {ys:List t'.den} (h:castL t t' xs=some ys):∃ e:t=t',ys=e ▸ xs:=by
 unfold castL at h
 split at h
 ·rename_i e
  exact ⟨e,(Option.some.inj h).symm⟩
 ·cases h
theorem RLs.unfl:∀ {t:Tc} {ls:List Lf} {x:t.den} {r:List Lf} {vs:List Value},Abs.unfl false t ls=some (x,r)→RLs I J β σ w ls vs →
  ∃ v1 v2,vs=v1++v2∧RD I w t x v1∧RLs I J β σ w r v2
 | .int k,ls,x,r,vs,h,hl=>by
  match ls,h with
  | .sc (.int k' n) :: q,h =>
   simp only [Abs.unfl] at h
   split at h
   ·rename_i e
    subst e
    simp only [Option.some.injEq,Prod.mk.injEq] at h
    obtain ⟨v,rest,rfl,h1,h2⟩:=hl
    simp only [RL] at h1
    exact ⟨[v],rest,rfl,by rw [h1,← h.1]; rfl,h.2 ▸ h2⟩
   ·cases h
 | .bool,ls,x,r,vs,h,hl=>by
  match ls,h with
  | .sc (.bool b) :: q,h =>
   simp only [Abs.unfl,Option.some.injEq,Prod.mk.injEq] at h
   obtain ⟨v,rest,rfl,h1,h2⟩:=hl
   simp only [RL] at h1
   exact ⟨[v],rest,rfl,by rw [h1,← h.1]; rfl,h.2 ▸ h2⟩
 | .str,ls,x,r,vs,h,hl=>by
  match ls,h with
  | .sc (.string b) :: q,h =>
   simp only [Abs.unfl,Option.some.injEq,Prod.mk.injEq] at h
   obtain ⟨v,rest,rfl,h1,h2⟩:=hl
   simp only [RL] at h1
   exact ⟨[v],rest,rfl,by rw [h1,← h.1]; rfl,h.2 ▸ h2⟩
 | .nil,ls,x,r,vs,h,hl=>by
  match ls,h with
  | .sc (.pointer none) :: q,h =>
   simp only [Abs.unfl,Option.some.injEq,Prod.mk.injEq] at h
   obtain ⟨v,rest,rfl,h1,h2⟩:=hl
   simp only [RL] at h1
   exact ⟨[v],rest,rfl,by rw [h1]; rfl,h.2 ▸ h2⟩
 | .list t,ls,x,r,vs,h,hl=>by
  match ls,h with
  | .list b t' xs :: q,h =>
   simp only [Abs.unfl] at h
   cases b with
   | true=>simp at h
   | false =>
    simp only [Bool.false_and,cond_false] at h
    cases hc:castL t' t xs with
    | none=>rw [hc] at h; cases h
    | some ys =>
     rw [hc] at h
     simp only [Option.some.injEq,Prod.mk.injEq] at h
     obtain ⟨e,hy⟩:=Z184 hc
     subst e
     simp only at hy
     obtain ⟨v,rest,rfl,h1,h2⟩:=hl
     refine ⟨[v],rest,rfl,?_,h.2 ▸ h2⟩
     rw [← h.1,hy]
     exact RLs.to_rd (J:=J) (β:=β) (σ:=σ) ⟨v,[],rfl,h1,rfl⟩
  | .sc (.slice none 0 0) :: q,h =>
   simp only [Abs.unfl,Bool.false_eq_true,if_false,Option.some.injEq,Prod.mk.injEq] at h
   obtain ⟨v,rest,rfl,h1,h2⟩:=hl
   simp only [RL] at h1
   refine ⟨[v],rest,rfl,?_,h.2 ▸ h2⟩
   rw [h1,← h.1]
   exact ⟨none,0,rfl,by simp,.inl rfl⟩
 | .pair a b,ls,x,r,vs,h,hl=>by
  simp only [Abs.unfl] at h
  cases h1:Abs.unfl false a ls with
  | none=>rw [h1] at h; cases h
  | some p =>
   obtain ⟨y,q⟩:=p
   rw [h1] at h
   cases h2:Abs.unfl false b q with
   | none=>simp only [h2] at h; cases h
   | some p' =>
    obtain ⟨z,q'⟩:=p'
    simp only [h2,Option.some.injEq,Prod.mk.injEq] at h
    obtain ⟨v1,v2,rfl,h3,h4⟩:=RLs.unfl h1 hl
    obtain ⟨v3,v4,rfl,h5,h6⟩:=RLs.unfl h2 h4
    refine ⟨v1++v3,v4,by simp,?_,h.2 ▸ h6⟩
    rw [← h.1]
    exact ⟨v1,v3,rfl,h3,h5⟩
 | .unit,ls,x,r,vs,h,hl=>by
  simp only [Abs.unfl,Option.some.injEq,Prod.mk.injEq] at h
  exact ⟨[],vs,rfl,rfl,h.2 ▸ hl⟩
theorem Z175 {k:IntKind}:∀ {ls:List Lf} {ns:List Int} {vs:List Value},asInts k ls=some ns→RLs I J β σ w ls vs→vs=ns.map (Value.int k)
 | [],ns,vs,h,hl=>by
  simp only [asInts,Option.some.injEq] at h; subst h
  simpa [RLs] using hl
 | l :: r,ns,vs,h,hl=>by
  match l,h with
  | .sc (.int k' n),h =>
   simp only [asInts] at h
   split at h
   ·rename_i e
    subst e
    cases hr:asInts k r with
    | none=>rw [hr] at h; cases h
    | some q =>
     rw [hr] at h
     simp only [Option.some.injEq] at h; subst h
     obtain ⟨v,rest,rfl,h1,h2⟩:=hl
     simp only [RL] at h1
     simp [h1,Z175 hr h2]
   ·cases h
theorem Z676:∀ (ns:List Int) (d:Nat),d < ns.length→ns[d]?=some (nthI ns d)
 | [],d,h=>by simp at h
 | x :: r,0,h=>by simp [nthI]
 | x :: r,d+1,h=>by
  have:Nat.beq (d+1) 0=false:=rfl
  simp only [nthI,this,cond_false,List.getElem?_cons_succ,Nat.add_sub_cancel]
  exact Z676 r d (by simpa using h)
theorem Z353 {ls:List Lf} {d:Nat} {l:Lf} {vs:List Value} (h:pickL ls d=some l) (hl:RLs I J β σ w ls vs) (hd:d < vs.length) :
  ∃ v,vs[d]?=some v∧RL I J β σ w l v:=by
 unfold pickL at h
 cases hk:kindOf ls with
 | none=>rw [hk] at h; cases h
 | some k =>
  cases hi:asInts k ls with
  | none=>simp only [hk,hi] at h; cases h
  | some ns =>
   simp only [hk,hi,Option.some.injEq] at h; subst h
   have hv:=Z175 hi hl
   subst hv
   simp at hd
   exact ⟨_,by simp [Z676 ns d hd],rfl⟩
theorem Z526 {k:IntKind} {n:Int}:∀ (ns:List Int) (j d:Nat),RLs I J β σ w (setI k n j d ns) (ns.zipIdx j |>.map fun p=>Value.int k (if d=p.2 then n else p.1))
 | [],j,d=>by simp [setI,RLs]
 | x :: r,j,d=>by
  simp only [setI,List.zipIdx_cons,List.map_cons]
  refine ⟨_,_,rfl,?_,Z526 r (j+1) d⟩
  simp only [RL]
  by_cases h:d=j
  ·subst h; simp
  ·have:Nat.beq d j=false:=by
    cases hb:Nat.beq d j with
    | false=>rfl
    | true=>exact absurd (Nat.eq_of_beq_eq_true hb) h
   simp [this,h]
theorem Z735 (k:IntKind) (n:Int):∀ (ns:List Int) (j d:Nat),d < ns.length→(ns.zipIdx j |>.map fun p=>Value.int k (if d+j=p.2 then n else p.1))=(ns.map (Value.int k)).set d (.int k n)
 | [],_,_,h=>by simp at h
 | x :: r,j,0,_=>by
  simp only [List.zipIdx_cons,List.map_cons,Nat.zero_add,List.set_cons_zero,if_true]
  congr 1
  apply List.ext_getElem?
  intro i
  simp only [List.getElem?_map,List.getElem?_zipIdx]
  cases r[i]? with
  | none=>rfl
  | some y=>simp; omega
 | x :: r,j,d+1,h=>by
  simp only [List.zipIdx_cons,List.map_cons,List.set_cons_succ]
  have:=Z735 k n r (j+1) d (by simpa using h)
  rw [show d+(j+1)=d+1+j by omega] at this
  rw [this,if_neg (by omega)]
theorem Z515 {ls ls':List Lf} {d:Nat} {l:Lf} {vs:List Value} {u:Value} (h:putL ls d l=some ls') (hl:RLs I J β σ w ls vs) (hu:RL I J β σ w l u) (hd:d < vs.length) :
  RLs I J β σ w ls' (vs.set d u):=by
 cases hk:kindOf ls with
 | none=>simp only [putL,hk] at h; cases h
 | some k =>
  have hex:∃ k' n,l=.sc (.int k' n):=by
   cases l with
   | sc v=>cases v <;> first | exact ⟨_,_,rfl⟩ | (simp [putL,hk] at h)
   | _=>simp [putL,hk] at h
  obtain ⟨k',n,rfl⟩:=hex
  ·simp only [putL,hk] at h
   split at h
   ·rename_i e
    subst e
    cases hi:asInts k ls with
    | none=>simp only [hi] at h; cases h
    | some ns =>
     simp only [hi,Option.some.injEq] at h; subst h
     have hv:=Z175 hi hl
     subst hv
     simp only [RL] at hu
     subst hu
     have:=Z526 (I:=I) (J:=J) (β:=β) (σ:=σ) (w:=w) (k:=k) (n:=n) ns 0 d
     rw [← Z735 k n ns 0 d (by simpa using hd)]
     simpa using this
   ·cases h
theorem Z324 {ls sub:List Lf} {s base len d:Nat} {vs:List Value} (h:loadL ls s base len d=some sub) (hl:RLs I J β σ w ls vs) (ho:offOk len d) :
  RLs I J β σ w sub ((vs.drop (base+d)).take s)∧s≤(vs.drop (base+d)).length∧sub.length=s:=by
 unfold loadL at h
 cases len with
 | zero =>
  rcases ho with ⟨_,rfl⟩ | ho
  ·exact hl.sub h
  ·omega
 | succ len =>
  rcases ho with ⟨h0,_⟩ | ho
  ·omega
  ·match s,h with
   | 1,h =>
    simp only at h
    cases hs:subL base (len+1) ls with
    | none=>simp only [hs] at h; cases h
    | some q =>
     simp only [hs] at h
     cases hp:pickL q d with
     | none=>simp only [hp] at h; cases h
     | some l =>
      simp only [hp,Option.some.injEq] at h; subst h
      obtain ⟨h1,h2,h3⟩:=hl.sub hs
      have hlen:d < ((vs.drop base).take (len+1)).length:=by simp at h2 ⊢; omega
      obtain ⟨v,h4,h5⟩:=Z353 hp h1 hlen
      rw [List.getElem?_take_of_lt (by omega),List.getElem?_drop] at h4
      have hlt:base+d < vs.length:=by simp at h2; omega
      refine ⟨?_,by simp; omega,rfl⟩
      rw [List.drop_eq_getElem_cons hlt]
      rw [List.getElem?_eq_getElem hlt] at h4
      simp only [Option.some.injEq] at h4
      exact ⟨v,[],by simp [h4],h5,rfl⟩
theorem Z259 {ls ls' new:List Lf} {s base len d:Nat} {vs us:List Value} (h:storeL ls s base len d new=some ls') (hl:RLs I J β σ w ls vs) (hn:RLs I J β σ w new us)
  (ho:offOk len d) :
  RLs I J β σ w ls' (vs.take (base+d)++us++vs.drop (base+d+s))∧us.length=s∧base+d+s≤vs.length:=by
 unfold storeL at h
 cases len with
 | zero =>
  rcases ho with ⟨_,rfl⟩ | ho
  ·simp only at h
   cases h1:takeL base ls with
   | none=>simp only [h1] at h; cases h
   | some hd =>
    cases h2:subL base s ls with
    | none=>simp only [h1,h2] at h; cases h
    | some q =>
     simp only [h1,h2] at h
     cases h3:Nat.beq new.length s with
     | false=>simp only [h3,cond_false] at h; cases h
     | true =>
      simp only [h3,cond_true,Option.some.injEq] at h; subst h
      have h3:=Nat.eq_of_beq_eq_true h3
      obtain ⟨h4,h5,_⟩:=hl.take h1
      obtain ⟨_,h7,_⟩:=hl.sub h2
      simp only [List.length_drop] at h7
      refine ⟨(h4.append hn).append hl.drop,by rw [hn.len,h3],?_⟩
      omega
  ·omega
 | succ len =>
  rcases ho with ⟨h0,_⟩ | ho
  ·omega
  ·match s,new,h,hn with
   | 1,[v],h,hn =>
    simp only at h
    cases h1:takeL base ls with
    | none=>simp only [h1] at h; cases h
    | some hd =>
     cases h2:subL base (len+1) ls with
     | none=>simp only [h1,h2] at h; cases h
     | some q =>
      simp only [h1,h2] at h
      cases h3:putL q d v with
      | none=>simp only [h3] at h; cases h
      | some q' =>
       simp only [h3,Option.some.injEq] at h; subst h
       obtain ⟨h4,h5,_⟩:=hl.take h1
       obtain ⟨h6,h7,_⟩:=hl.sub h2
       simp only [List.length_drop] at h7
       obtain ⟨u,r,rfl,h8,h9⟩:=hn
       simp only [RLs] at h9; subst h9
       have hlen:d < ((vs.drop base).take (len+1)).length:=by simp; omega
       have h10:=Z515 h3 h6 h8 hlen
       refine ⟨?_,rfl,by omega⟩
       have h11:=(h4.append h10).append (hl.drop (n:=base+(len+1)))
       have e:vs.take base++((vs.drop base).take (len+1)).set d u++vs.drop (base+(len+1))=vs.take (base+d)++[u]++vs.drop (base+d+1):=by
        apply List.ext_getElem?
        intro i
        simp only [List.getElem?_append,List.length_append,List.length_take,List.length_set,List.length_drop,List.getElem?_take,List.getElem?_set,List.getElem?_drop,List.length_singleton]
        by_cases c1:i < base
        ·simp [show i < min base vs.length by omega,show i < min (base+d) vs.length by omega,c1,show i < base+d by omega,show i < min base vs.length+min (len+1) (vs.length - base) by omega,show i < min (base+d) vs.length+1 by omega]
        ·by_cases c2:i < base+d
         ·simp [show ¬ i < min base vs.length by omega,show i < min (base+d) vs.length by omega,c1,c2,show i < min base vs.length+min (len+1) (vs.length - base) by omega,show i < min (base+d) vs.length+1 by omega,show ¬ d=i - min base vs.length by omega,show i - min base vs.length < len+1 by omega,show base+(i - min base vs.length)=i by omega]
         ·by_cases c3:i=base+d
          ·subst c3
           simp [show ¬ base+d < min base vs.length by omega,show ¬ base+d < min (base+d) vs.length by omega,show base+d < min base vs.length+min (len+1) (vs.length - base) by omega,show base+d < min (base+d) vs.length+1 by omega,show base+d - min base vs.length=d by omega,show base+d - min (base+d) vs.length=0 by omega]
           omega
          ·by_cases c4:i < base+(len+1)
           ·simp [show ¬ i < min base vs.length by omega,show ¬ i < min (base+d) vs.length by omega,show i < min base vs.length+min (len+1) (vs.length - base) by omega,show ¬ i < min (base+d) vs.length+1 by omega,show ¬ d=i - min base vs.length by omega,show i - min base vs.length < len+1 by omega,show base+(i - min base vs.length)=i by omega]
            congr 1; omega
           ·simp [show ¬ i < min base vs.length by omega,show ¬ i < min (base+d) vs.length by omega,show ¬ i < min base vs.length+min (len+1) (vs.length - base) by omega,show ¬ i < min (base+d) vs.length+1 by omega]
            congr 1; omega
       rw [← e]
       exact h11
end
end Go.Abs
