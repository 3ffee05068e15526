import Derived.Test.YtbapchkhohnncaaGreatDoorOps
set_option linter.unusedSimpArgs false
set_option linter.unusedSectionVars false
set_option linter.unusedVariables false
namespace Go.Abs
structure RenOk (ρ:Ren) (β:Bt) (σ:Sg) (β':Bt) (σ':Sg):Prop where
 map:∀ b b' x,ρ.f b=some b'→σ b=some x→∃ x',renB ρ b x=some x'∧σ' b'=some x'∧β' b'=β b
 ver:∀ b b' v v1 v2 cur t xs,ρ.f b=some b'→σ b=some (.row cur t xs)→ρ.vf b v=some v1→ρ.vf b cur=some v2→v≤cur→v1≤v2∧(v1=v2→v=cur)
 verP:∀ b b' v v1 v2 cur t pos inn,ρ.f b=some b'→σ b=some (.pool cur t pos inn)→ρ.vf b v=some v1→ρ.vf b cur=some v2→v≤cur→v1≤v2∧(v1=v2→v=cur)
 inner:∀ b b' p x,ρ.f b=some b'→σ (key b p)=some x→σ' (key b' p)=some x∧β' (key b' p)=β (key b p)
section
variable {I J:Rg} {β β':Bt} {σ σ':Sg} {w:World} {ρ:Ren}
theorem RenOk.refAt (h:RenOk ρ β σ β' σ') {b b' ver v' i base d:Nat} {u:Value} {x:Box} (hf:ρ.f b=some b') (hv:ρ.vf b ver=some v') (hx:σ b=some x)
  (hr:RefAt β b ver i base d u x):∃ x',σ' b'=some x'∧RefAt β' b' v' i base d u x':=by
 obtain ⟨x',h1,h2,h3⟩:=h.map b b' x hf hx
 refine ⟨x',h2,?_⟩
 cases x with
 | var T cells =>
  simp only [renB,Option.some.injEq] at h1
  subst h1
  obtain ⟨blk,h4,h5⟩:=hr
  exact ⟨blk,by rw [h3,h4],h5⟩
 | row cur t xs =>
  simp only [renB] at h1
  split at h1
  ·rename_i v2 hv2
   simp only [Option.some.injEq] at h1
   subst h1
   obtain ⟨h4,h5⟩:=h.ver b b' ver v' v2 cur t xs hf hx hv hv2 hr.1
   refine ⟨h4,fun e=>?_⟩
   obtain ⟨h6,blk,o,h7,h8⟩:=hr.2 (h5 e)
   exact ⟨h6,blk,o,by rw [h3,h7],h8⟩
  ·cases h1
 | pool cur t pos inn =>
  simp only [renB] at h1
  split at h1
  ·rename_i v2 hv2
   simp only [Option.some.injEq] at h1
   subst h1
   obtain ⟨h4,h5⟩:=h.verP b b' ver v' v2 cur t pos inn hf hx hv hv2 hr.1
   refine ⟨h4,fun e=>?_⟩
   obtain ⟨h6,blk,o,h7,h8⟩:=hr.2 (h5 e)
   exact ⟨h6,blk,o,by rw [h3,h7],h8⟩
  ·cases h1
 | gone =>
  simp only [renB,Option.some.injEq] at h1
  subst h1
  trivial
theorem RenOk.sliceAt (h:RenOk ρ β σ β' σ') {b b' ver v':Nat} {rng:Option (Nat×Nat)} {u:Value} {x:Box} (hf:ρ.f b=some b') (hv:ρ.vf b ver=some v') (hx:σ b=some x)
  (hr:Z564 β w b ver rng u x):∃ x',σ' b'=some x'∧Z564 β' w b' v' rng u x':=by
 obtain ⟨x',h1,h2,h3⟩:=h.map b b' x hf hx
 refine ⟨x',h2,?_⟩
 cases x with
 | var T cells =>
  simp only [renB,Option.some.injEq] at h1
  subst h1
  trivial
 | row cur t xs =>
  simp only [renB] at h1
  split at h1
  ·rename_i v2 hv2
   simp only [Option.some.injEq] at h1
   subst h1
   obtain ⟨h4,h5⟩:=h.ver b b' ver v' v2 cur t xs hf hx hv hv2 hr.1
   refine ⟨h4,fun e=>?_⟩
   have h6:=hr.2 (h5 e)
   cases rng with
   | none=>simp only [h3]; exact h6
   | some p=>simp only [h3]; exact h6
  ·cases h1
 | pool cur t pos inn =>
  simp only [renB] at h1
  split at h1
  ·rename_i v2 hv2
   simp only [Option.some.injEq] at h1
   subst h1
   obtain ⟨h4,h5⟩:=h.verP b b' ver v' v2 cur t pos inn hf hx hv hv2 hr.1
   refine ⟨h4,fun e hn=>?_⟩
   have h6:=hr.2 (h5 e) hn
   simp only [h3]
   exact h6
  ·cases h1
 | gone =>
  simp only [renB,Option.some.injEq] at h1
  subst h1
  trivial
theorem RenOk.caps (h:RenOk ρ β σ β' σ'):∀ {caps c:List Nat} {vs:List Value},Z657 ρ caps=some c→CapsAt β σ caps vs→CapsAt β' σ' c vs
 | [],c,vs,hm,hc=>by simp only [Z657,Option.some.injEq] at hm; subst hm; exact hc
 | b :: r,c,vs,hm,hc=>by
  obtain ⟨v,rest,rfl,⟨x,hx,h1⟩,h2⟩:=hc
  simp only [Z657] at hm
  split at hm
  ·rename_i b' r' hf hv hr
   simp only [Option.some.injEq] at hm
   subst hm
   exact ⟨v,rest,rfl,h.refAt hf hv hx h1,h.caps hr h2⟩
  ·cases hm
theorem RenOk.rl (h:RenOk ρ β σ β' σ') {l:Lf} {u:Value} (hl:RL I J β σ w l u):RL I J β' σ' w (renL ρ l) u:=by
 cases l with
 | sc v=>exact hl
 | list bor t xs=>exact hl
 | slice b ver rng =>
  obtain ⟨x,hx,h1⟩:=hl
  simp only [renL]
  split
  ·rename_i hf hv
   exact h.sliceAt hf hv hx h1
  ·trivial
 | ref b ver i base len d =>
  obtain ⟨ho,x,hx,h1⟩:=hl
  simp only [renL]
  split
  ·rename_i hf hv
   exact ⟨ho,h.refAt hf hv hx h1⟩
  ·trivial
 | eref bor t xs i base len d=>exact hl
 | arr b ver i base n hi =>
  obtain ⟨ho,x,hx,A,h1,hu⟩:=hl
  simp only [renL]
  split
  ·rename_i hf hv
   obtain ⟨x',hx',hr⟩:=h.refAt hf hv hx h1
   exact ⟨ho,x',hx',A,hr,hu⟩
  ·trivial
 | clos f caps =>
  obtain ⟨vs,h1,h2⟩:=hl
  simp only [renL]
  split
  ·rename_i c hc
   exact ⟨vs,h1,h.caps hc h2⟩
  ·trivial
 | inn b p =>
  obtain ⟨hfl,x,hx,h1⟩:=hl
  simp only [renL]
  split
  ·rename_i hf
   obtain ⟨q1,q2⟩:=h.inner b _ p x hf hx
   refine ⟨hfl,x,q1,?_⟩
   cases x with
   | row v3 t3 xs3=>simp only [Z564,q2] at h1 ⊢; exact h1
   | pool v3 t3 p3 i3=>simp only [Z564,q2] at h1 ⊢; exact h1
   | var T c=>trivial
   | gone=>trivial
  ·trivial
 | iref b p i base len d =>
  obtain ⟨hfl,ho,x,hx,h1⟩:=hl
  simp only [renL]
  split
  ·rename_i hf
   obtain ⟨q1,q2⟩:=h.inner b _ p x hf hx
   refine ⟨hfl,ho,x,q1,?_⟩
   cases x with
   | row v3 t3 xs3=>simp only [RefAt,q2] at h1 ⊢; exact h1
   | pool v3 t3 p3 i3=>simp only [RefAt,q2] at h1 ⊢; exact h1
   | var T c=>simp only [RefAt,q2] at h1 ⊢; exact h1
   | gone=>trivial
  ·trivial
 | ub p=>exact hl
 | dead=>trivial
theorem RenOk.rls (h:RenOk ρ β σ β' σ'):∀ {ls:List Lf} {vs:List Value},RLs I J β σ w ls vs→RLs I J β' σ' w (renLs ρ ls) vs
 | [],_,hl=>hl
 | l :: r,vs,hl=>by
  obtain ⟨v,rest,h1,h2,h3⟩:=hl
  exact ⟨v,rest,h1,h.rl h2,h.rls h3⟩
theorem RenOk.rp (h:RenOk ρ β σ β' σ') {ag:Bool} {ls:List Lf} {u:Value} (hp:RP I J β σ w (ag,ls) u):RP I J β' σ' w (ag,renLs ρ ls) u:=by
 cases ag with
 | true =>
  obtain ⟨vs,h1,h2⟩:=hp
  exact ⟨vs,h1,h.rls h2⟩
 | false =>
  match ls,hp with
  | [],_=>trivial
  | [l],hp=>exact h.rl hp
  | _ :: _ :: _,_=>trivial
theorem RenOk.rt (h:RenOk ρ β σ β' σ'):∀ {xs:List (Bool×List Lf)} {vs:List Value},RT I J β σ w xs vs→RT I J β' σ' w (renT ρ xs) vs
 | [],_,hl=>hl
 | (ag,l) :: r,vs,hl=>by
  obtain ⟨v,rest,h1,h2,h3⟩:=hl
  exact ⟨v,rest,h1,h.rp h2,h.rt h3⟩
theorem RenOk.rv (h:RenOk ρ β σ β' σ') {p:PV} {u:Value} (hp:RV I J β σ w p u):RV I J β' σ' w (renV ρ p) u:=by
 cases p with
 | one l=>exact h.rl hp
 | agg ls=>obtain ⟨vs,h1,h2⟩:=hp; exact ⟨vs,h1,h.rls h2⟩
 | tup xs=>obtain ⟨vs,h1,h2⟩:=hp; exact ⟨vs,h1,h.rt h2⟩
theorem RenOk.rvs (h:RenOk ρ β σ β' σ'):∀ {ps:List PV} {vs:List Value},RVs I J β σ w ps vs→RVs I J β' σ' w (ps.map (renV ρ)) vs
 | [],_,hl=>hl
 | p :: r,vs,hl=>by
  obtain ⟨v,rest,h1,h2,h3⟩:=hl
  exact ⟨v,rest,h1,h.rv h2,h.rvs h3⟩
theorem RenOk.rb (h:RenOk ρ β σ β' σ') {b b':Nat} {x x':Box} (hf:ρ.f b=some b') (hx:σ b=some x) (hr:renB ρ b x=some x') (hb:RB I J β σ w b x):RB I J β' σ' w b' x':=by
 obtain ⟨x'',h1,h2,h3⟩:=h.map b b' x hf hx
 rw [hr] at h1
 injection h1 with h1
 subst h1
 cases x with
 | var T cells =>
  simp only [renB,Option.some.injEq] at hr
  subst hr
  obtain ⟨blk,vs,h4,h5,h6⟩:=hb
  exact ⟨blk,vs,by rw [h3,h4],h5,h.rls h6⟩
 | row cur t xs =>
  simp only [renB] at hr
  split at hr
  ·simp only [Option.some.injEq] at hr
   subst hr
   simp only [RB,h3]
   exact hb
  ·cases hr
 | pool cur t pos inn =>
  simp only [renB] at hr
  split at hr
  ·simp only [Option.some.injEq] at hr
   subst hr
   rcases hb with ⟨g1,g2⟩ | ⟨blk,o,C,E,g1,g2,g3⟩
   ·exact .inl ⟨g1,by rw [h3,g2]⟩
   ·refine .inr ⟨blk,o,C,E,by rw [h3,g1],g2,fun i p hp=>?_⟩
    obtain ⟨v,g4,x,g5,g6⟩:=g3 i p hp
    obtain ⟨q1,q2⟩:=h.inner b b' p x hf g5
    refine ⟨v,g4,x,q1,?_⟩
    cases x with
    | row v3 t3 xs3=>simp only [Z564,q2] at g6 ⊢; exact g6
    | pool v3 t3 p3 i3=>simp only [Z564,q2] at g6 ⊢; exact g6
    | var T c=>trivial
    | gone=>trivial
  ·cases hr
 | gone =>
  simp only [renB,Option.some.injEq] at hr
  subst hr
  trivial
theorem Z484 {b:Nat} {x x':Box} (hr:renB ρ b x=some x'):liveB (some x')↔liveB (some x):=by
 cases x with
 | var T cells=>simp only [renB,Option.some.injEq] at hr; subst hr; simp [liveB]
 | row cur t xs =>
  simp only [renB] at hr
  split at hr
  ·simp only [Option.some.injEq] at hr; subst hr; simp [liveB]
  ·cases hr
 | pool cur t pos inn =>
  simp only [renB] at hr
  split at hr
  ·simp only [Option.some.injEq] at hr; subst hr; simp [liveB]
  ·cases hr
 | gone=>simp only [renB,Option.some.injEq] at hr; subst hr; simp [liveB]
end
theorem Z107 {b:Nat} {ids:List Nat} (h:ids.Nodup):(addId b ids).Nodup:=by
 unfold addId
 cases hm:mem b ids with
 | true=>simpa
 | false =>
  simp only [cond_false]
  rw [List.nodup_append]
  refine ⟨h,by simp,?_⟩
  intro a ha c hc e
  simp at hc
  subst e; subst hc
  rw [Z659.2 ha] at hm
  cases hm
theorem Z65:∀ {l ids:List Nat},ids.Nodup→(addIds l ids).Nodup
 | [],_,h=>h
 | b :: r,ids,h=>Z65 (l:=r) (Z107 h)
theorem Z147 {get:Nat→Option Box} {ids:List Nat} (h:ids.Nodup):(reach get ids).Nodup:=Z65 h
theorem Z135 {m:Nat} {get:Nat→Option Box}:∀ {l:List Nat},(Z655 m get l).Sublist l
 | []=>.slnil
 | b :: r=>by
  simp only [Z655]
  cases Nat.blt b m||isLive (get b) with
  | true=>exact (Z135 (l:=r)).cons_cons b
  | false=>exact (Z135 (l:=r)).cons b
theorem Z475 {b:Nat}:∀ {l:List Nat} {k:Nat},idx b l=some k→l[k]?=some b
 | [],k,h=>by simp [idx] at h
 | c :: r,k,h=>by
  simp only [idx] at h
  cases hb:Nat.beq b c with
  | true =>
   simp only [hb,cond_true,Option.some.injEq] at h
   subst h
   simp [Nat.eq_of_beq_eq_true hb]
  | false =>
   simp only [hb,cond_false] at h
   cases hi:idx b r with
   | none=>simp [hi] at h
   | some j =>
    simp only [hi,Option.some.injEq] at h
    subst h
    simpa using Z475 hi
theorem Z336:∀ {l:List Nat},l.Nodup→∀ {i j b:Nat},l[i]?=some b→l[j]?=some b→i=j
 | [],_,i,j,b,hi,_=>by simp at hi
 | c :: r,h,i,j,b,hi,hj=>by
  rw [List.nodup_cons] at h
  cases i with
  | zero =>
   cases j with
   | zero=>rfl
   | succ j =>
    simp only [List.getElem?_cons_zero,List.getElem?_cons_succ,Option.some.injEq] at hi hj
    subst hi
    exact absurd (List.mem_of_getElem? hj) h.1
  | succ i =>
   cases j with
   | zero =>
    simp only [List.getElem?_cons_zero,List.getElem?_cons_succ,Option.some.injEq] at hi hj
    subst hj
    exact absurd (List.mem_of_getElem? hi) h.1
   | succ j =>
    simp only [List.getElem?_cons_succ] at hi hj
    rw [Z336 h.2 hi hj]
theorem Z51 {get:Nat→Option Box} {ρ:Ren}:∀ {ids:List Nat} {l:List Box},Z219 get ρ ids=some l→l.length=ids.length∧∀ (k b:Nat),ids[k]?=some b→∃ x y,get b=some x∧renB ρ b x=some y∧l[k]?=some y
 | [],l,h=>by
  simp only [Z219,Option.some.injEq] at h
  subst h
  exact ⟨rfl,fun k b h=>by simp at h⟩
 | c :: r,l,h=>by
  simp only [Z219] at h
  split at h
  ·rename_i x hx
   split at h
   ·rename_i y l' hy hl
    simp only [Option.some.injEq] at h
    subst h
    obtain ⟨h1,h2⟩:=Z51 hl
    refine ⟨by simp [h1],fun k b hk=>?_⟩
    cases k with
    | zero =>
     simp only [List.getElem?_cons_zero,Option.some.injEq] at hk
     subst hk
     exact ⟨x,y,hx,hy,rfl⟩
    | succ k =>
     simp only [List.getElem?_cons_succ] at hk ⊢
     exact h2 k b hk
   ·cases h
  ·cases h
def listF (l:List Box):Sg:=fun k=>l[k]?
def atIds (β:Bt) (ids:List Nat):Bt:=fun k=>(ids[k]?).bind β
theorem Z279 {m:Nat} {ids:List Nat} {get:Sg} {σ:Sg} (hg:∀ b∈ids,σ b=get b) {b b' v v1 v2 cur:Nat} {t:Tc} {xs:List t.den} (hb:(Z418 m ids get).f b=some b')
  (hx:σ b=some (.row cur t xs)) (h1:(Z418 m ids get).vf b v=some v1) (h2:(Z418 m ids get).vf b cur=some v2) (hle:v≤cur):v1≤v2∧(v1=v2→v=cur):=by
 have hgb:=hg b (List.mem_of_getElem? (Z475 hb))
 simp only [Z418] at h1 h2
 cases hm:Nat.blt b m with
 | true =>
  simp only [hm,cond_true,Option.some.injEq] at h1 h2
  omega
 | false =>
  simp only [hm,cond_false] at h1 h2
  rw [hx] at hgb
  rw [← hgb] at h1 h2
  simp only [Nat.beq_refl,cond_true,Option.some.injEq] at h2
  cases hc:Nat.beq v cur with
  | true =>
   simp only [hc,cond_true,Option.some.injEq] at h1
   exact ⟨by omega,fun _=>Nat.eq_of_beq_eq_true hc⟩
  | false=>simp [hc] at h1
theorem Z183 {m:Nat} {ids:List Nat} {get:Sg} {σ:Sg} (hg:∀ b∈ids,σ b=get b) {b b' v v1 v2 cur:Nat} {t:Tc} {pos:List Nat} {inn:List (List t.den)} (hb:(Z418 m ids get).f b=some b')
  (hx:σ b=some (.pool cur t pos inn)) (h1:(Z418 m ids get).vf b v=some v1) (h2:(Z418 m ids get).vf b cur=some v2) (hle:v≤cur):v1≤v2∧(v1=v2→v=cur):=by
 have hgb:=hg b (List.mem_of_getElem? (Z475 hb))
 simp only [Z418] at h1 h2
 cases hm:Nat.blt b m with
 | true =>
  simp only [hm,cond_true,Option.some.injEq] at h1 h2
  omega
 | false =>
  simp only [hm,cond_false] at h1 h2
  rw [hx] at hgb
  rw [← hgb] at h1 h2
  simp only [Nat.beq_refl,cond_true,Option.some.injEq] at h2
  cases hc:Nat.beq v cur with
  | true =>
   simp only [hc,cond_true,Option.some.injEq] at h1
   exact ⟨by omega,fun _=>Nat.eq_of_beq_eq_true hc⟩
  | false=>simp [hc] at h1
noncomputable def srcOf (ids:List Nat) (n:Nat):Option Nat:=match unkey n with
 | some (j,r)=>(ids[j]?).map fun b=>key b r
 | none=>ids[n]?
noncomputable def atIdsX (β:Bt) (ids:List Nat):Bt:=fun n=>(srcOf ids n).bind β
theorem Z441 {m:Nat} {get:Sg} {ids:List Nat} {β:Bt} {σ:Sg} {l:List Box} (hg:∀ b∈ids,σ b=get b) (hcl:Z561 σ) (hK:∀ b∈ids,b < 1000000) (hn:ids.length≤1000000)
  (hl:Z219 get (Z418 m ids get) ids=some l):RenOk (Z418 m ids get) β σ (atIdsX β ids) (ex (listF l)):=by
 have hout:∀ b b' x,(Z418 m ids get).f b=some b'→σ b=some x→ids[b']?=some b∧b' < 1000000∧∃ z,renB (Z418 m ids get) b x=some z∧listF l b'=some z:=by
  intro b b' x hf hx
  have hi:=Z475 hf
  obtain ⟨y,z,h1,h2,h3⟩:=(Z51 hl).2 b' b hi
  have hb:=hg b (List.mem_of_getElem? hi)
  rw [hx,h1] at hb
  injection hb with hb
  subst hb
  have:=(List.getElem?_eq_some_iff.1 hi).1
  exact ⟨hi,by omega,z,h2,h3⟩
 refine ⟨?_,fun b b' v v1 v2 cur t xs hf hx h1 h2 hle=>Z279 hg hf hx h1 h2 hle,fun b b' v v1 v2 cur t pos inn hf hx h1 h2 hle=>Z183 hg hf hx h1 h2 hle,?_⟩
 ·intro b b' x hf hx
  obtain ⟨hi,hlt,z,h2,h3⟩:=hout b b' x hf hx
  refine ⟨z,h2,by rw [ex_low hlt]; exact h3,?_⟩
  unfold atIdsX srcOf
  rw [Z392 hlt,hi]
  rfl
 ·intro b b' p x hf hk
  have hb:=hK b (List.mem_of_getElem? (Z475 hf))
  rw [hcl b p hb] at hk
  cases hx:σ b with
  | none=>rw [hx] at hk; cases hk
  | some y =>
   obtain ⟨hi,hlt,z,h2,h3⟩:=hout b b' y hf hx
   rw [hx] at hk
   have hz:innB (some z) p=some x:=by
    cases y with
    | var T c=>cases hk
    | row v t xs=>cases hk
    | gone =>
     simp only [renB,Option.some.injEq] at h2
     subst h2
     exact hk
    | pool cur t pos inn =>
     simp only [renB] at h2
     split at h2
     ·simp only [Option.some.injEq] at h2
      subst h2
      exact hk
     ·cases h2
   refine ⟨by rw [ex_key,h3]; exact hz,?_⟩
   unfold atIdsX srcOf
   rw [Z391]
   show ((ids[b']?).map fun b=>key b p).bind β=_
   rw [hi]
   rfl
theorem Z714 {ids:List Nat} (hnd:ids.Nodup) (hK:∀ b∈ids,b < 1000000) {n n' c:Nat} (h:srcOf ids n=some c) (h':srcOf ids n'=some c):n=n':=by
 unfold srcOf at h h'
 cases hu:unkey n with
 | none =>
  rw [hu] at h
  cases hu':unkey n' with
  | none=>rw [hu'] at h'; exact Z336 hnd h h'
  | some q =>
   rw [hu'] at h'
   simp only [Option.map_eq_some_iff] at h'
   obtain ⟨b,_,e⟩:=h'
   have:=hK c (List.mem_of_getElem? h)
   have:=key_ge b q.2
   omega
 | some p =>
  rw [hu] at h
  simp only [Option.map_eq_some_iff] at h
  obtain ⟨b,hb,e⟩:=h
  cases hu':unkey n' with
  | none =>
   rw [hu'] at h'
   have:=hK c (List.mem_of_getElem? h')
   have:=key_ge b p.2
   omega
  | some q =>
   rw [hu'] at h'
   simp only [Option.map_eq_some_iff] at h'
   obtain ⟨b',hb',e'⟩:=h'
   obtain ⟨e1,e2⟩:=Z641 (e.trans e'.symm)
   subst e1
   have e3:=Z336 hnd hb hb'
   rw [Z266 (b:=p.1) (r:=p.2) hu,Z266 (b:=q.1) (r:=q.2) hu',e3,e2]
theorem Z633 {b k:Nat} {l:List Nat} (hn:l.Nodup) (h:l[k]?=some b):idx b l=some k:=by
 have hm:∀ {l:List Nat},b∈l→∃ j,idx b l=some j:=by
  intro l
  induction l with
  | nil=>intro h; cases h
  | cons c r ih =>
   intro h
   unfold idx
   cases hb:Nat.beq b c with
   | true=>exact ⟨0,rfl⟩
   | false =>
    have hne:b≠c:=fun e=>by rw [e,Nat.beq_refl] at hb; cases hb
    rcases List.mem_cons.1 h with h | h
    ·exact absurd h hne
    ·obtain ⟨j,hj⟩:=ih h
     exact ⟨j+1,by rw [cond_false,hj]⟩
 obtain ⟨j,hj⟩:=hm (List.mem_of_getElem? h)
 rw [hj,Z336 hn (Z475 hj) h]
theorem Z296 {I J:Rg} {w:World} {m:Nat} {get:Sg} {ids:List Nat} {β:Bt} {σ:Sg} {l:List Box} (hG:Good I J β σ w) (hn:ids.Nodup) (hg:∀ b∈ids,σ b=get b)
  (hcl:Z561 σ) (hK:∀ b∈ids,b < 1000000) (hlen:ids.length≤1000000)
  (hl:Z219 get (Z418 m ids get) ids=some l):Good I J (atIdsX β ids) (ex (listF l)) w∧∀ n,liveB (ex (listF l) n)→∃ c,srcOf ids n=some c∧liveB (σ c)∧atIdsX β ids n=β c:=by
 have hR:=Z441 (m:=m) (β:=β) hg hcl hK hlen hl
 have hat:∀ n y,ex (listF l) n=some y→∃ c x,srcOf ids n=some c∧σ c=some x∧(liveB (some y)↔liveB (some x))∧RB I J (atIdsX β ids) (ex (listF l)) w n y:=by
  have hlow:∀ (k:Nat) (y:Box),listF l k=some y→∃ b x,ids[k]?=some b∧b < 1000000∧σ b=some x∧renB (Z418 m ids get) b x=some y∧(Z418 m ids get).f b=some k:=by
   intro k y hy
   obtain ⟨h1,h2⟩:=Z51 hl
   have hk:k < ids.length:=by
    have:=(List.getElem?_eq_some_iff.1 hy).1
    omega
   have hid:ids[k]?=some ids[k]:=by simp [hk]
   obtain ⟨x,z,h3,h4,h5⟩:=h2 k _ hid
   have:listF l k=some z:=h5
   rw [hy] at this
   injection this with this
   subst this
   have hmem:=List.mem_of_getElem? hid
   exact ⟨ids[k],x,hid,hK _ hmem,by rw [hg _ hmem,h3],h4,Z633 hn hid⟩
  intro n y hy
  unfold ex at hy
  cases hu:unkey n with
  | none =>
   rw [hu] at hy
   obtain ⟨b,x,h1,h2,h3,h4,h5⟩:=hlow n y hy
   refine ⟨b,x,?_,h3,Z484 h4,hR.rb h5 h3 h4 (hG.box b x h3)⟩
   unfold srcOf
   rw [hu]
   exact h1
  | some p =>
   obtain ⟨j,r⟩:=p
   rw [hu] at hy
   replace hy:innB (listF l j) r=some y:=hy
   cases hj:listF l j with
   | none=>rw [hj] at hy; cases hy
   | some z =>
    rw [hj] at hy
    cases z with
    | var T c=>cases hy
    | row v t xs=>cases hy
    | gone =>
      obtain ⟨b,x,h1,h2,h3,h4,h5⟩:=hlow j _ hj
      have hx:x=.gone:=by
       cases x with
       | gone=>rfl
       | var T c=>simp [renB] at h4
       | row v' t' xs=>simp only [renB] at h4; split at h4 <;> simp at h4
       | pool cur t' pos' inn'=>simp only [renB] at h4; split at h4 <;> simp at h4
      subst hx
      simp only [innB,Option.some.injEq] at hy
      subst hy
      have hs:srcOf ids n=some (key b r):=by
       unfold srcOf
       rw [hu]
       simp [h1]
      exact ⟨key b r,.gone,hs,by rw [hcl b r h2,h3]; rfl,Iff.rfl,trivial⟩
    | pool v t pos inn =>
      obtain ⟨b,x,h1,h2,h3,h4,h5⟩:=hlow j _ hj
      have hx:∃ cur,x=.pool cur t pos inn:=by
       cases x with
       | pool cur t' pos' inn' =>
        simp only [renB] at h4
        split at h4
        ·simp only [Option.some.injEq,Box.pool.injEq] at h4
         obtain ⟨_,rfl,rfl,h4⟩:=h4
         have h4:=eq_of_heq h4
         subst h4
         exact ⟨cur,rfl⟩
        ·cases h4
       | var T c=>simp [renB] at h4
       | row v' t' xs =>
        simp only [renB] at h4
        split at h4 <;> simp at h4
       | gone=>simp [renB] at h4
      obtain ⟨cur,rfl⟩:=hx
      have hk:σ (key b r)=some y:=by rw [hcl b r h2,h3]; exact hy
      have hs:srcOf ids n=some (key b r):=by
       unfold srcOf
       rw [hu]
       simp [h1]
      have hβ:atIdsX β ids n=β (key b r):=by unfold atIdsX; rw [hs]; rfl
      refine ⟨key b r,y,hs,hk,Iff.rfl,?_⟩
      have hbx:=hG.box _ _ hk
      simp only [innB,Option.map_eq_some_iff] at hy
      obtain ⟨xs,_,rfl⟩:=hy
      simp only [RB,hβ] at hbx ⊢
      exact hbx
 have hlive:∀ n,liveB (ex (listF l) n)→∃ c,srcOf ids n=some c∧liveB (σ c)∧atIdsX β ids n=β c:=by
  intro n hk
  obtain ⟨y,hy⟩:=Z218 hk
  obtain ⟨c,x,h1,h2,h3,_⟩:=hat n y hy
  exact ⟨c,h1,by rw [h2]; exact h3.1 (hy ▸ hk),by unfold atIdsX; rw [h1]; rfl⟩
 refine ⟨?_,hlive⟩
 refine ⟨fun n y hy=>(hat n y hy).elim fun c h=>h.elim fun x h=>h.2.2.2,?_,?_,hG.bnd⟩
 ·intro k k' blk o o' hk hk' hb hb'
  obtain ⟨c,h1,h2,h3⟩:=hlive k hk
  obtain ⟨c',h1',h2',h3'⟩:=hlive k' hk'
  rw [h3] at hb
  rw [h3'] at hb'
  have:=hG.inj c c' blk o o' h2 h2' hb hb'
  subst this
  exact Z714 hn hK h1 h1'
 ·intro k blk o i hk hb
  obtain ⟨c,h1,h2,h3⟩:=hlive k hk
  rw [h3] at hb
  exact hG.sep c blk o i h2 hb
end Go.Abs
