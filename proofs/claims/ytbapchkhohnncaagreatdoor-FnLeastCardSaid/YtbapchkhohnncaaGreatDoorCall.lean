import Derived.Test.YtbapchkhohnncaaGreatDoorBody
set_option linter.unusedSimpArgs false
set_option linter.unusedSectionVars false
set_option linter.unusedVariables false
namespace Go.Abs
def FunOk (P:Program) [Laid P] (F:Fun):Prop :=
 (∃ fn c,P.funcs[F.id]?=some fn∧(fn.name== "runtime.NumGoroutine")=false∧fn.body=some c) ∧
 ∀ x y r,F.f x y=some r→∀ (w:World) (I J:Rg) (β:Bt) (vs:List Value),Good I J β (ex (listF (Z578 F.bs y))) w→(∀ blk i,Laid.g P blk→J blk i)→Laid.L P w→RVs I J β (ex (listF (Z578 F.bs y))) w (argsOf F.sp x) vs →
  Calls P F.id vs.toArray w fun en w'=>∃ u,en=.returned u∧∃ I' β',Inv (frOf w I J β (Z578 F.bs y)) I' β' (ex (listF (encR F y r).2)) w'∧RV I' J β' (ex (listF (encR F y r).2)) w' (encR F y r).1 u
theorem Z44 {P:Program} [Laid P] {F:Fun} {C:List Fun} {ty:Nat→Option TyI} {N:Nat} {kp:Keep} {fn:Func} {c:Code}
  (hm:P.follows .mixedOrders=true) (hty:TysOk P ty) (hC:Z559 P C) (hf:P.funcs[F.id]?=some fn) (hn:(fn.name== "runtime.NumGoroutine")=false) (hb:fn.body=some c) (hN:N≤fn.ntmps)
  (h:∀ x y r,F.f x y=some r→∃ fuel,Z702 C ty N fuel kp c fn.results.toList F.rs F.sp F.bs x y=some (r.1,insM F.bs y r.2)):FunOk P F:=by
 refine ⟨⟨fn,c,hf,hn,hb⟩,?_⟩
 intro x y r hr w I J β vs hG hg hL hv
 obtain ⟨fuel,hrun⟩:=h x y r hr
 have:=Z178 hm hty hC hf hb hN hrun hG hg hL hv
 rw [Z687] at this
 exact this
section
variable {I J J':Rg} {β:Bt} {σ:Sg} {w:World}
theorem chJ_rl {l:Lf} {u:Value} (hJ:borL l=true→∀ b i,J b i→J' b i) (h:RL I J β σ w l u):RL I J' β σ w l u:=by
 cases l with
 | list bor t xs =>
  obtain ⟨A,c,h1,h2,h3⟩:=h
  refine ⟨A,c,h1,h2,h3.imp (fun h=>h) ?_⟩
  rintro ⟨a,h4,h5,h6⟩
  exact ⟨a,h4,h5,h6.mono (fun b i h=>h.imp (fun h=>h) fun h=>⟨h.1,hJ h.1 b i h.2⟩) (fun _ _ _ _ h=>h) (fun _ _ h=>h.mono (fun b i h=>h.imp (fun h=>h) fun h=>⟨h.1,hJ h.1 b i h.2⟩) (fun _ _ _ _ h=>h))⟩
 | eref bor t xs i base len d =>
  obtain ⟨ho,hi,a,h1,h6⟩:=h
  exact ⟨ho,hi,a,h1,h6.mono (fun b i h=>h.imp (fun h=>h) fun h=>⟨h.1,hJ h.1 b i h.2⟩) (fun _ _ _ _ h=>h) (fun _ _ h=>h.mono (fun b i h=>h.imp (fun h=>h) fun h=>⟨h.1,hJ h.1 b i h.2⟩) (fun _ _ _ _ h=>h))⟩
 | _=>exact h
theorem Z588:∀ {ls:List Lf} {vs:List Value},(borLs ls=true→∀ b i,J b i→J' b i)→RLs I J β σ w ls vs→RLs I J' β σ w ls vs
 | [],_,_,h=>h
 | l :: r,vs,hJ,h=>by
  obtain ⟨v,rest,h1,h2,h3⟩:=h
  exact ⟨v,rest,h1,chJ_rl (fun hb=>hJ (by simp [borLs,hb])) h2,Z588 (fun hb=>hJ (by simp [borLs,hb])) h3⟩
theorem chJ_rp {ag:Bool} {ls:List Lf} {u:Value} (hJ:borLs ls=true→∀ b i,J b i→J' b i) (h:RP I J β σ w (ag,ls) u):RP I J' β σ w (ag,ls) u:=by
 cases ag with
 | true=>obtain ⟨vs,h1,h2⟩:=h; exact ⟨vs,h1,Z588 hJ h2⟩
 | false =>
  match ls,hJ,h with
  | [],_,_=>trivial
  | [l],hJ,h=>exact chJ_rl (fun hb=>hJ (by simp [borLs,hb])) h
  | _ :: _ :: _,_,_=>trivial
theorem chJ_rt:∀ {xs:List (Bool×List Lf)} {vs:List Value},(borT xs=true→∀ b i,J b i→J' b i)→RT I J β σ w xs vs→RT I J' β σ w xs vs
 | [],_,_,h=>h
 | (ag,l) :: r,vs,hJ,h=>by
  obtain ⟨v,rest,h1,h2,h3⟩:=h
  exact ⟨v,rest,h1,chJ_rp (fun hb=>hJ (by simp [borT,hb])) h2,chJ_rt (fun hb=>hJ (by simp [borT,hb])) h3⟩
theorem chJ_rv {p:PV} {u:Value} (hJ:borV p=true→∀ b i,J b i→J' b i) (h:RV I J β σ w p u):RV I J' β σ w p u:=by
 cases p with
 | one l=>exact chJ_rl hJ h
 | agg ls=>obtain ⟨vs,h1,h2⟩:=h; exact ⟨vs,h1,Z588 hJ h2⟩
 | tup xs=>obtain ⟨vs,h1,h2⟩:=h; exact ⟨vs,h1,chJ_rt hJ h2⟩
theorem chJ_rb {b:Nat} {x:Box} (hJ:borB x=true→∀ b i,J b i→J' b i) (h:RB I J β σ w b x):RB I J' β σ w b x:=by
 cases x with
 | var T cells=>obtain ⟨blk,vs,h1,h2,h3⟩:=h; exact ⟨blk,vs,h1,h2,Z588 hJ h3⟩
 | row v t xs=>exact h
 | pool v t pos inn =>
  rcases h with h | ⟨blk,o,C,E,h1,h2,h3⟩
  ·exact .inl h
  ·exact .inr ⟨blk,o,C,E,h1,h2,h3⟩
 | gone=>trivial
theorem Z698 {ls:List Lf} {u:Value} (h:RLs I J β σ w ls [u]):RV I J β σ w (mkv false ls) u:=by
 match ls,h with
 | [],h=>cases h
 | [l],h=>obtain ⟨v,rest,e,h1,_⟩:=h; injection e with e _; subst e; exact h1
 | _ :: _ :: _,_=>trivial
theorem Z334:∀ {a b:List Nat},natsEq a b=true→a=b
 | [],[],_=>rfl
 | x :: a,y :: b,h=>by
  simp only [natsEq,Bool.and_eq_true] at h
  rw [Nat.eq_of_beq_eq_true h.1,Z334 h.2]
 | [],_ :: _,h=>by simp [natsEq] at h
 | _ :: _,[],h=>by simp [natsEq] at h
theorem Z189 {t:Tc} {p:PV} {x:t.den} (h:decEr t p=some x):p=.one (.eref true t [x] 0 0 0 0):=by
 unfold decEr at h
 split at h
 ·rename_i t' xs
  split at h
  ·rename_i ys hc
   obtain ⟨rfl,rfl⟩:=Z184 hc
   match ys,h with
   | [y],h=>simp only [oneOf,Option.some.injEq] at h; subst h; rfl
   | [],h=>cases h
   | _ :: _ :: _,h=>cases h
  ·cases h
 ·cases h
theorem Z287 {s:Sp} {p:PV} {x:s.den} {u:Value} (h:decArg s p=some x) (hv:RV I J β σ w p u):RV I J β σ w (argOf s x) u:=by
 cases s with
 | v ag t =>
  cases ag with
  | true =>
   cases p with
   | agg ls =>
    simp only [decArg,decV] at h
    split at h
    ·rename_i y hu
     simp only [Option.some.injEq] at h
     subst h
     obtain ⟨vs,rfl,h1⟩:=hv
     obtain ⟨v1,v2,rfl,h2,h3⟩:=Z551 hu h1
     simp only [RLs] at h3
     subst h3
     exact ⟨v1,by simp,h2⟩
    ·cases h
   | one l=>simp [decArg,decV] at h
   | tup l=>simp [decArg,decV] at h
  | false =>
   cases p with
   | one l =>
    simp only [decArg,decV] at h
    split at h
    ·rename_i y hu
     simp only [Option.some.injEq] at h
     subst h
     obtain ⟨v1,v2,e,h2,h3⟩:=Z551 hu (⟨u,[],rfl,hv,rfl⟩:RLs I J β σ w [l] [u])
     simp only [RLs] at h3
     subst h3
     rw [List.append_nil] at e
     subst e
     exact Z698 h2
    ·cases h
   | agg l=>simp [decArg,decV] at h
   | tup l=>simp [decArg,decV] at h
 | ref b =>
  simp only [decArg] at h
  cases hb:isRef b p with
  | false=>simp [hb] at h
  | true =>
   unfold isRef at hb
   split at hb
   ·rw [Nat.eq_of_beq_eq_true hb]; exact hv
   ·cases hb
 | sl b =>
  simp only [decArg] at h
  cases hb:isSl b p with
  | false=>simp [hb] at h
  | true =>
   unfold isSl at hb
   split at hb
   ·rw [Nat.eq_of_beq_eq_true hb]; exact hv
   ·cases hb
 | cl f caps =>
  simp only [decArg] at h
  cases hb:isCl f caps p with
  | false=>simp [hb] at h
  | true =>
   unfold isCl at hb
   split at hb
   ·simp only [Bool.and_eq_true] at hb
    rw [Nat.eq_of_beq_eq_true hb.1,Z334 hb.2]; exact hv
   ·cases hb
 | er t =>
  simp only [decArg] at h
  rw [Z189 h] at hv
  exact hv
 | rc l =>
  simp only [decArg] at h
  cases p with
  | agg ls =>
   obtain ⟨vs,rfl,h1⟩:=hv
   exact ⟨vs,rfl,Z290 h h1⟩
  | one l=>cases h
  | tup l=>cases h
 | inn b =>
  simp only [decArg] at h
  unfold decInn at h
  split at h
  ·rename_i b' q
   cases hb:Nat.beq b b' with
   | false=>simp [hb] at h
   | true =>
    simp only [hb,cond_true,Option.some.injEq] at h
    subst h
    rw [Nat.eq_of_beq_eq_true hb]
    exact hv
  ·cases h
theorem Z121:∀ {l:List Sp} {ps:List PV} {x:spDen l} {us:List Value},Z599 l ps=some x→RVs I J β σ w ps us→RVs I J β σ w (argsOf l x) us
 | [],[],x,us,_,hv=>hv
 | [],_ :: _,_,_,h,_=>by simp [Z599] at h
 | _ :: _,[],_,_,h,_=>by simp [Z599] at h
 | s :: r,p :: q,x,us,h,hv=>by
  simp only [Z599] at h
  cases h1:decArg s p with
  | none=>simp [h1] at h
  | some a =>
   simp only [h1] at h
   cases h2:Z599 r q with
   | none=>simp [h2] at h
   | some b =>
    simp only [h2,Option.some.injEq] at h
    subst h
    obtain ⟨v,rest,rfl,h3,h4⟩:=hv
    exact ⟨v,rest,rfl,Z287 h1 h3,Z121 h2 h4⟩
end
end Go.Abs
