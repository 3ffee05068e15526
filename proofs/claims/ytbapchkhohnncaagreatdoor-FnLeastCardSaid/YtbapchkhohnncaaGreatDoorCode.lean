import Derived.Test.YtbapchkhohnncaaGreatDoorRn
set_option linter.unusedSimpArgs false
set_option linter.unusedSectionVars false
set_option linter.unusedVariables false
namespace Go.Abs
theorem Z53:∀ (l:List Box) (n k:Nat),look k (Z499 n l)=if n≤k then l[k - n]? else none
 | [],n,k=>by simp [Z499,look]
 | x :: r,n,k=>by
  simp only [Z499,look]
  by_cases h:k=n
  ·subst h; simp
  ·have hb:Nat.beq k n=false:=by
    cases hb:Nat.beq k n with
    | false=>rfl
    | true=>exact absurd (Nat.eq_of_beq_eq_true hb) h
   rw [hb,cond_false,Z53 r (n+1) k]
   by_cases h2:n+1≤k
   ·rw [if_pos h2,if_pos (by omega),show k - n=(k - (n+1))+1 by omega]
    rfl
   ·rw [if_neg h2,if_neg (by omega)]
theorem Z67 (l:List Box):(fun b=>look b (Z499 0 l))=listF l:=by
 funext b
 rw [Z53]
 simp [listF]
theorem Z173:∀ (l ids:List Nat),∃ e,addIds l ids=ids++e
 | [],ids=>⟨[],by simp [addIds]⟩
 | b :: r,ids=>by
  obtain ⟨e,he⟩:=Z173 r (addId b ids)
  simp only [addIds,he]
  unfold addId
  cases mem b ids with
  | true=>exact ⟨e,rfl⟩
  | false=>exact ⟨b :: e,by simp⟩
theorem Z552:∀ m,(upTo m).length=m
 | 0=>rfl
 | m+1=>by simp [upTo,Z552 m]
theorem Z726:∀ {m k:Nat},k < m→(upTo m)[k]?=some k
 | 0,k,h=>by omega
 | m+1,k,h=>by
  simp only [upTo]
  by_cases e:k=m
  ·subst e
   rw [List.getElem?_append_right (by rw [Z552]; omega),Z552]
   simp
  ·rw [List.getElem?_append_left (by rw [Z552]; omega)]
   exact Z726 (by omega)
theorem Z553 {m b:Nat} (h:b∈upTo m):b < m:=by
 obtain ⟨k,hk⟩:=List.mem_iff_getElem?.1 h
 have hlt:k < m:=by
  have:=(List.getElem?_eq_some_iff.1 hk).1
  rwa [Z552] at this
 rw [Z726 hlt] at hk
 injection hk with hk
 omega
theorem Z267:∀ m,(upTo m).Nodup
 | 0=>by simp [upTo]
 | m+1=>by
  simp only [upTo]
  rw [List.nodup_append]
  refine ⟨Z267 m,by simp,?_⟩
  intro a ha b hb e
  have:=Z553 ha
  simp at hb
  omega
theorem Z134 {m:Nat} {get:Sg}:∀ (l e:List Nat),(∀ b∈l,b < m)→Z655 m get (l++e)=l++Z655 m get e
 | [],e,_=>rfl
 | b :: r,e,h=>by
  have hb:Nat.blt b m=true:=Nat.ble_eq.symm ▸ (h b (by simp):b+1≤m)
  simp only [List.cons_append,Z655,hb,Bool.true_or,cond_true]
  rw [Z134 r e fun c hc=>h c (by simp [hc])]
theorem Z634 {b:Nat}:∀ {l:List Nat},b∈l→∃ k,idx b l=some k
 | c :: r,h=>by
  simp only [idx]
  cases hb:Nat.beq b c with
  | true=>exact ⟨0,rfl⟩
  | false =>
   have:b∈r:=by
    rcases List.mem_cons.1 h with e | h
    ·subst e; rw [Nat.beq_refl] at hb; cases hb
    ·exact h
   obtain ⟨k,hk⟩:=Z634 this
   exact ⟨k+1,by simp [hk]⟩
theorem Z206 {ρ:Ren} {st:St} {bx:List (Nat×Box)} {nx:Nat}:∀ (S:List Nat) (t:Nat),
  (St.get { env:=renEnv ρ (Z656 st S),bx:=bx,nx:=nx } t)=if t∈S then renV ρ (st.get t) else .one .dead
 | [],t=>rfl
 | s :: r,t=>by
  have ih:=Z206 (ρ:=ρ) (st:=st) (bx:=bx) (nx:=nx) r t
  simp only [St.get,Z656,renEnv,look] at ih ⊢
  by_cases h:t=s
  ·subst h; simp
  ·have hb:Nat.beq t s=false:=by
    cases hb:Nat.beq t s with
    | false=>rfl
    | true=>exact absurd (Nat.eq_of_beq_eq_true hb) h
   simp only [hb,cond_false,List.mem_cons,h,false_or]
   exact ih
section
variable {P:Program} {F:Fr} {N m fuel:Nat} {C:List Fun} {ty:Nat→Option TyI} {kp:Keep}
def LowF (m:Nat) (F:Fr):Prop:=∀ b x,F.σ0 b=some x→b < m∨∃ k r,k < m∧b=key k r
theorem Z68 (hF:LowF m F) {S:List Nat} {st s:St} (h:canon0 m S st=some s) {a:Act} {w:World} (hR:Repr F N st.get st.box a w):Repr F N s.get s.box a w:=by
 unfold canon0 at h
 simp only at h
 have hget:(fun b=>look b st.bx)=st.box:=rfl
 rw [hget] at h
 generalize hids:Z655 m st.box (reach st.box (reach st.box (addIds ((Z656 st S).flatMap fun p=>refsV p.2) (upTo m))))=ids at h
 have hn:ids.Nodup:=by
  rw [← hids]
  exact (Z147 (Z147 (Z65 (Z267 m)))).sublist Z135
 have hpre:∃ e,ids=upTo m++e:=by
  obtain ⟨e1,h1⟩:=Z173 ((Z656 st S).flatMap fun p=>refsV p.2) (upTo m)
  obtain ⟨e2,h2⟩:=Z173 ((upTo m++e1).flatMap fun b=>refsB (st.box b)) (upTo m++e1)
  obtain ⟨e3,h3⟩:=Z173 ((upTo m++e1++e2).flatMap fun b=>refsB (st.box b)) (upTo m++e1++e2)
  rw [← hids,h1]
  unfold reach
  rw [h2,h3,List.append_assoc,List.append_assoc,Z134 _ _ (fun b hb=>Z553 hb)]
  exact ⟨_,rfl⟩
 obtain ⟨e,hids'⟩:=hpre
 have hidm:∀ b,b < m→ids[b]?=some b:=by
  intro b hb
  rw [hids',List.getElem?_append_left (by rw [Z552]; exact hb)]
  exact Z726 hb
 have hfm:∀ b,b < m→(Z418 m ids st.box).f b=some b:=by
  intro b hb
  obtain ⟨k,hk⟩:=Z634 (List.mem_of_getElem? (hidm b hb))
  have:=Z336 hn (Z475 hk) (hidm b hb)
  subst this
  exact hk
 cases hck:ltK ids&&Nat.ble ids.length 1000000 with
 | false=>rw [hck,cond_false] at h; cases h
 | true =>
 rw [hck,cond_true] at h
 rw [Bool.and_eq_true] at hck
 have hK:=Z487 hck.1
 have hlen:ids.length≤1000000:=Nat.le_of_ble_eq_true hck.2
 split at h
 ·rename_i l hl
  simp only [Option.some.injEq] at h
  subst h
  obtain ⟨h1,h2,I,β,h3,h4⟩:=hR
  have hlo:∀ b∈ids,ex st.box b=st.box b:=fun b hb=>ex_low (hK b hb)
  have hRen:RenOk (Z418 m ids st.box) β (ex st.box) (atIdsX β ids) (ex (listF l)):=Z441 hlo (Z302 _) hK hlen hl
  obtain ⟨hG,hLv⟩:=Z296 (m:=m) h3.good hn hlo (Z302 _) hK hlen hl
  have hbox:St.box { env:=renEnv (Z418 m ids st.box) (Z656 st S),bx:=Z499 0 l,nx:=ids.length }=listF l:=Z67 l
  refine ⟨h1,h2,I,atIdsX β ids,?_,?_⟩
  ·rw [hbox]
   refine ⟨hG,⟨h3.ext.grow,h3.ext.stays,?_,h3.ext.cap⟩,h3.size,h3.keep,h3.iNew,?_,h3.same⟩
   ·intro b x hx
    obtain ⟨x1,hx1,he1⟩:=h3.ext.evo b x hx
    rcases hF b x hx with hb | ⟨k0,r0,hk0,rfl⟩
    case inr =>
     obtain ⟨q1,q2⟩:=hRen.inner k0 k0 r0 x1 (hfm k0 hk0) hx1
     refine ⟨x1,q1,?_⟩
     cases x <;> cases x1 <;> simp only [Evo] at he1 ⊢
     ·exact ⟨he1.1,by rw [q2,he1.2]⟩
     ·rw [q2]; exact he1
     ·rw [q2]; exact he1
    obtain ⟨x2,g1,g2,g3⟩:=hRen.map b b x1 (hfm b hb) hx1
    refine ⟨x2,g2,?_⟩
    have hvf:∀ v,(Z418 m ids st.box).vf b v=some v:=by
     intro v
     have hb':Nat.blt b m=true:=Nat.ble_eq.symm ▸ (hb:b+1≤m)
     simp [Z418,hb']
    cases x1 with
    | var T cells =>
     simp only [renB,Option.some.injEq] at g1
     subst g1
     cases x <;> simp only [Evo] at he1 ⊢
     exact ⟨he1.1,by rw [g3,he1.2]⟩
    | row cur t xs =>
     simp only [renB,hvf,Option.some.injEq] at g1
     subst g1
     cases x <;> simp only [Evo] at he1 ⊢
     rw [g3]; exact he1
    | pool cur t pos inn =>
     simp only [renB,hvf,Option.some.injEq] at g1
     subst g1
     cases x <;> simp only [Evo] at he1 ⊢
     rw [g3]; exact he1
    | gone =>
     simp only [renB,Option.some.injEq] at g1
     subst g1
     cases x <;> simp only [Evo] at he1 ⊢
   ·intro k blk o hk hb
    obtain ⟨c,_,q2,q3⟩:=hLv k hk
    exact h3.bNew c blk o q2 (by rw [← q3]; exact hb)
  ·intro t
   rw [Z206,hbox]
   split
   ·exact hRen.rv (h4 t)
   ·trivial
 ·cases h
def EmptyB (z:Box):Prop:=∃ c,z=.row 0 c []∨z=.pool 0 c [] []
theorem Mt.empty (p:Mt):EmptyB p.new:=by
 cases p with
 | env t k c=>exact ⟨c,.inl rfl⟩
 | box t k c=>exact ⟨c,.inl rfl⟩
 | envp t k c=>exact ⟨c,.inr rfl⟩
 | boxp t k c=>exact ⟨c,.inr rfl⟩
theorem Z335 {I J:Rg} {β:Bt} {σ:Sg} {w:World} {nb:Nat} {z:Box} (hz:EmptyB z) (hb:σ nb=some z):∀ {k:Nat} {ls ls':List Lf} {vs:List Value},nilAt nb k ls=some ls'→RLs I J β σ w ls vs→RLs I J β σ w ls' vs
 | 0,ls,ls',vs,h,hl=>by
  unfold nilAt at h
  split at h
  ·rename_i r
   simp only [Option.some.injEq] at h
   subst h
   obtain ⟨v,rest,rfl,h1,h2⟩:=hl
   refine ⟨v,rest,rfl,⟨_,hb,?_⟩,h2⟩
   obtain ⟨c,rfl | rfl⟩:=hz
   ·exact ⟨Nat.le_refl _,fun _=>⟨none,0,h1,.inl ⟨rfl,rfl⟩⟩⟩
   ·exact ⟨Nat.le_refl _,fun _ _=>⟨none,0,h1,.inl ⟨rfl,rfl⟩⟩⟩
  ·rename_i e1; cases e1
  ·cases h
 | k+1,[],ls',vs,h,hl=>by simp [nilAt] at h
 | k+1,l :: r,ls',vs,h,hl=>by
  obtain ⟨v,rest,rfl,h1,h2⟩:=hl
  simp only [nilAt] at h
  cases hr:nilAt nb k r with
  | none=>simp [hr] at h
  | some r' =>
   simp only [hr,Option.some.injEq] at h
   subst h
   exact ⟨v,rest,rfl,h1,Z335 hz hb hr h2⟩
theorem Z325 (b:Nat) (x:Box) (l:List (Nat×Box)):(fun c=>look c ((b,x) :: l))=setF (fun c=>look c l) b x:=by
 funext c
 simp only [look]
 by_cases e:c=b
 ·subst e; simp
 ·have hb:Nat.beq c b=false:=by
   cases hb:Nat.beq c b with
   | false=>rfl
   | true=>exact absurd (Nat.eq_of_beq_eq_true hb) e
  rw [hb,cond_false,Z712 _ _ e]
theorem Z83 {p:Mt} {st:St} {a:Act} {w:World} (hR:Repr F N st.get st.box a w):Repr F N (matOne p st).get (matOne p st).box a w:=by
 unfold matOne
 cases hn0:(look st.nx st.bx).isNone&&Nat.blt st.nx 1000000 with
 | false=>exact hR
 | true =>
  rw [cond_true]
  rw [Bool.and_eq_true] at hn0
  obtain ⟨hn,hnx⟩:=hn0
  have hnx:st.nx < 1000000:=Nat.le_of_ble_eq_true hnx
  have hno:st.box st.nx=none:=by simpa [St.box] using hn
  have hnoX:ex st.box st.nx=none:=by rw [ex_low hnx]; exact hno
  have hexS:∀ {z:Box},EmptyB z→setF (ex st.box) st.nx z=ex (setF st.box st.nx z):=fun {z} hz=>by
   refine (Z613 hnx fun r=>?_).symm
   rw [hno]
   obtain ⟨c,rfl | rfl⟩:=hz <;> simp [innB]
  obtain ⟨h1,h2,I,β,h3,h4⟩:=hR
  have new:∀ {z:Box},EmptyB z→Inv F I (setB β st.nx none) (ex (setF st.box st.nx z)) w∧Ext F.J I β (ex st.box) w I (setB β st.nx none) (ex (setF st.box st.nx z)) w:=fun {z} hz=>by
   rw [← hexS hz]
   exact h3.change (b:=st.nx) (x':=z) (own:=fun _=>False) (.refl _ w) (fun _ h=>h.elim) (fun x hx=>by rw [hnoX] at hx; cases hx) (fun _ _ h=>by cases h) (fun _=>by
    obtain ⟨c,rfl | rfl⟩:=hz
    ·exact .inl ⟨rfl,by simp⟩
    ·exact .inl ⟨rfl,by simp⟩)
  have hset:∀ (t:Nat) (v:PV) (bx:List (Nat×Box)) (nx:Nat),St.get { env:=(t,v) :: st.env,bx:=bx,nx:=nx }=setE st.get (some t) v:=fun t v bx nx=>Z629 st t v
  have henv:∀ (t:Nat) (v:PV) {z:Box} (hz:EmptyB z),(∀ u,RV I F.J (setB β st.nx none) (ex (setF st.box st.nx z)) w (st.get t) u→RV I F.J (setB β st.nx none) (ex (setF st.box st.nx z)) w v u) →
    Repr F N (St.get { env:=(t,v) :: st.env,bx:=(st.nx,z) :: st.bx,nx:=st.nx+1 }) (St.box { env:=(t,v) :: st.env,bx:=(st.nx,z) :: st.bx,nx:=st.nx+1 }) a w:=by
   intro t v z hz hv
   have hbx:St.box { env:=(t,v) :: st.env,bx:=(st.nx,z) :: st.bx,nx:=st.nx+1 }=setF st.box st.nx z:=Z325 _ _ _
   rw [hset,hbx]
   refine ⟨h1,h2,I,_,(new hz).1,fun t'=>?_⟩
   have:=(new hz).2.rv (h4 t')
   simp only [setE]
   split
   ·rename_i e
    subst e
    exact hv _ this
   ·exact this
  have same:Repr F N st.get st.box a w:=⟨h1,h2,I,β,h3,h4⟩
  have goEnv:∀ (t k:Nat) {z:Box},EmptyB z→Repr F N (matEnv z t k st).get (matEnv z t k st).box a w:=by
   intro t k z hz
   unfold matEnv
   cases hg:st.get t with
   | one l =>
    simp only
    split
    ·rename_i l' hl
     refine henv t _ hz fun u hu=>?_
     rw [hg] at hu
     have hu':RLs I F.J (setB β st.nx none) (ex (setF st.box st.nx z)) w [l] [u]:=⟨u,[],rfl,hu,rfl⟩
     obtain ⟨v,rest,e,g1,_⟩:=Z335 hz (by rw [ex_low hnx]; simp) hl hu'
     injection e with e _
     subst e
     exact g1
    ·exact same
   | agg ls =>
    simp only
    split
    ·rename_i ls' hl
     refine henv t _ hz fun u hu=>?_
     rw [hg] at hu
     obtain ⟨vs,rfl,g1⟩:=hu
     exact ⟨vs,rfl,Z335 hz (by rw [ex_low hnx]; simp) hl g1⟩
    ·exact same
   | tup xs=>exact same
  have goBox:∀ (b k:Nat) {z:Box},EmptyB z→Repr F N (matBox z b k st).get (matBox z b k st).box a w:=by
   intro b k z hz
   unfold matBox
   cases hbK:Nat.blt b 1000000 with
   | false=>exact same
   | true =>
   rw [cond_true]
   have hbK:b < 1000000:=Nat.le_of_ble_eq_true hbK
   split
   ·rename_i T ls hb
    split
    ·rename_i ls' hl
     have hb':st.box b=some (.var T ls):=hb
     have hne:b≠st.nx:=by rintro rfl; rw [hno] at hb'; cases hb'
     obtain ⟨n1,n2⟩:=new hz
     have hb2:setF st.box st.nx z b=some (.var T ls):=by rw [Z712 _ _ hne]; exact hb'
     obtain ⟨m1,m2⟩:=n1.change (own:=fun _=>False) (b:=b) (x':=.var T ls') (bv:=setB β st.nx none b) (.refl _ w) (fun _ h=>h.elim)
      (fun x hx=>by rw [ex_low hbK,hb2] at hx; injection hx with hx; subst hx; exact ⟨rfl,by simp⟩)
      (fun blk o h=>.inr ⟨by rw [ex_low hbK,hb2]; trivial,o,h⟩)
      (fun hx=>by
       obtain ⟨blk,vs,e1,e2,e3⟩:=n1.good.box b _ (by rw [ex_low hbK]; exact hb2)
       refine ⟨blk,vs,by simp [e1],e2,?_⟩
       exact Z335 hz (by rw [Z712 _ _ (Ne.symm hne),ex_low hnx]; simp) hl (hx.rls e3))
     have hbx:St.box { st with bx:=(b,.var T ls') :: (st.nx,z) :: st.bx,nx:=st.nx+1 }=setF (setF st.box st.nx z) b (.var T ls'):=by
      have e1:=Z325 b (.var T ls') ((st.nx,z) :: st.bx)
      have e2:=Z325 st.nx z st.bx
      rw [e2] at e1
      exact e1
     have hexT:setF (ex (setF st.box st.nx z)) b (.var T ls')=ex (setF (setF st.box st.nx z) b (.var T ls')) :=
      (Z613 hbK fun r=>by rw [hb2]; rfl).symm
     rw [hexT] at m1 m2
     rw [hbx]
     exact ⟨h1,h2,I,_,m1,fun t=>m2.rv (n2.rv (h4 t))⟩
    ·exact same
   ·exact same
  cases p with
  | env t k c=>exact goEnv t k (Mt.empty (.env t k c))
  | envp t k c=>exact goEnv t k (Mt.empty (.envp t k c))
  | box b k c=>exact goBox b k (Mt.empty (.box b k c))
  | boxp b k c=>exact goBox b k (Mt.empty (.boxp b k c))
theorem Z82:∀ {l:List Mt} {st:St} {a:Act} {w:World},Repr F N st.get st.box a w→Repr F N (matAll l st).get (matAll l st).box a w
 | [],_,_,_,h=>h
 | _ :: l,_,_,_,h=>Z82 (l:=l) (Z83 h)
theorem Z115 (hF:LowF m F) {S:Sv} {st s:St} (h:canon m S st=some s) {a:Act} {w:World} (hR:Repr F N st.get st.box a w):Repr F N s.get s.box a w:=by
 unfold canon at h
 split at h
 ·exact Z68 hF h hR
 ·split at h
  ·rename_i s1 hs
   exact Z68 hF h (Z82 (Z68 hF hs hR))
  ·cases h
theorem Z399 {Q:Exit→Act→World→Prop} {c:Code} (T:Nat→Act→World→Prop)
  (round:∀ n a w,T n a w→c.wp P (Exit.then (fun a' w'=>∃ n',n' < n∧T n' a' w') Q) a w) {n:Nat} {a:Act} {w:World} (h₀:T n a w):(Code.loop c).wp P Q a w:=by
 intro b k cs
 have key:∀ n a w,T n a w →
   ∃ e a' w',Q e a' w'∧Arrives P (lone (b.at a (.code c :: .inLoop c :: k)) cs w) b k cs e a' w':=by
  intro n
  induction n using Nat.strongRecOn with
  | _ n ih =>
   intro a w hT
   obtain ⟨e,a₁,w₁,hq,harr⟩:=round n a w hT b (.inLoop c :: k) cs
   cases e with
   | normal =>
    obtain ⟨n',hlt,hT'⟩:=hq
    obtain ⟨e₂,a₂,w₂,hq₂,harr₂⟩:=ih n' hlt a₁ w₁ hT'
    exact ⟨e₂,a₂,w₂,hq₂,.of_steps (Steps.trans harr (.one step_inLoop)) harr₂⟩
   | exit id=>exact ⟨_,a₁,w₁,hq,.pass (x:=.inLoop c) rfl (fun _ _=>.inl (by simp)) harr⟩
   | goto l=>exact ⟨_,a₁,w₁,hq,.pass (x:=.inLoop c) rfl (fun _ _=>.inl (by simp)) harr⟩
   | ret=>exact ⟨_,a₁,w₁,hq,.pass (x:=.inLoop c) rfl (fun _ _=>.inl (by simp)) harr⟩
   | panic ch=>exact ⟨_,a₁,w₁,hq,.pass (x:=.inLoop c) rfl (fun _ _=>.inl (by simp)) harr⟩
   | outgrown=>exact ⟨_,a₁,w₁,hq,.pass (x:=.inLoop c) rfl (fun _ _=>.inl (by simp)) harr⟩
 obtain ⟨e,a',w',hq,harr⟩:=key n a w h₀
 exact ⟨e,a',w',hq,.of_steps (.one step_loop) harr⟩
theorem Z320 {st:St} {c:Operand} {b:Bool} (h:st.val c=.one (.sc (.bool b))):(know st c b).get=st.get∧(know st c b).box=st.box:=by
 cases c with
 | tmp t=>exact ⟨Z468 st t _ h,rfl⟩
 | _=>exact ⟨rfl,rfl⟩
theorem Z274 {X:Type} {a b:Option X} {x:X} (h:eith a b=some x):a=some x∧b=some x:=by
 unfold eith at h
 split at h
 ·rename_i e
  exact ⟨h,e ▸ h⟩
 ·cases h
theorem Z319 {st:St} {c:Operand} {b:Bool} {a:Act} {w:World} (hR:Repr F N st.get st.box a w) (h:a.eval c=.bool b):Repr F N (know st c b).get (know st c b).box a w:=by
 cases c with
 | tmp t =>
  obtain ⟨h1,h2,I,β,h3,h4⟩:=hR
  refine ⟨h1,h2,I,β,h3,fun t'=>?_⟩
  show RV I F.J β (ex st.box) w ((st.set t (.one (.sc (.bool b)))).get t') _
  rw [Z629]
  simp only [setE]
  split
  ·rename_i e
   subst e
   exact h
  ·exact h4 t'
 | _=>exact hR
theorem Z79 [Laid P] (hm:P.follows .mixedOrders=true) (hty:TysOk P ty) (hC:Z559 P C) (hl:FrOk P F) (hF:LowF m F) {X:Type} :
  ∀ (c:Code) (st:St) (K:Exit→St→Option X) (x:X) (a:Act) (w:World) (Q:Exit→Act→World→Prop),interp C ty N m fuel kp c st K=some x→Repr F N st.get st.box a w →
   (∀ e st' a' w',K e st'=some x→Repr F N st'.get st'.box a' w'→Q e a' w')→c.wp P Q a w
 | .skip,st,K,x,a,w,Q,h,hR,hQ=>wp_skip (hQ _ _ _ _ h hR)
 | .region id ops draw,st,K,x,a,w,Q,h,hR,hQ=>Z13 hm hty hC hl h hR fun st' a' w' hK hR'=>hQ _ _ _ _ hK hR'
 | .seq c d,st,K,x,a,w,Q,h,hR,hQ=>by
  apply wp_seq
  refine Z79 hm hty hC hl hF c st _ x a w _ h hR ?_
  intro e st' a' w' hK hR'
  cases e with
  | normal =>
   simp only [joined] at hK
   show d.wp P Q a' w'
   cases hj:kp.join (rid d) with
   | none =>
    simp only [hj,Option.map_none] at hK
    exact Z79 hm hty hC hl hF d st' K x a' w' Q hK hR' hQ
   | some S =>
    simp only [hj,Option.map_some] at hK
    cases hc:canon m S st' with
    | none=>simp [hc] at hK
    | some s =>
     simp only [hc] at hK
     exact Z79 hm hty hC hl hF d s K x a' w' Q hK (Z115 hF hc hR') hQ
  | _=>exact hQ _ st' _ _ hK hR'
 | .cond c y z,st,K,x,a,w,Q,h,hR,hQ=>by
  unfold interp at h
  split at h
  ·rename_i b hb
   have hev:a.eval c=.bool b:=by
    obtain ⟨_,_,I,β,_,h4⟩:=hR
    have:RV I F.J β (ex st.box) w (st.val c) (a.eval c):=val_rv fun t e=>h4 t
    rw [hb] at this
    exact this
   obtain ⟨k1,k2⟩:=Z320 hb
   apply wp_cond hev
   cases b with
   | true =>
    simp only [cond_true] at h
    rw [if_pos rfl]
    exact Z79 hm hty hC hl hF y _ K x a w Q h (by rw [k1,k2]; exact hR) hQ
   | false =>
    simp only [cond_false] at h
    rw [if_neg (by simp)]
    exact Z79 hm hty hC hl hF z _ K x a w Q h (by rw [k1,k2]; exact hR) hQ
  ·rename_i p hb
   obtain ⟨bv,hev,hp⟩:∃ bv,a.eval c=.bool bv∧(bv=true→p=true):=by
    obtain ⟨_,_,I,β,_,h4⟩:=hR
    have:RV I F.J β (ex st.box) w (st.val c) (a.eval c):=val_rv fun t e=>h4 t
    rw [hb] at this
    exact this
   have hk:=Z319 hR hev
   apply wp_cond hev
   cases bv with
   | true =>
    rw [hp rfl,cond_true] at h
    rw [if_pos rfl]
    exact Z79 hm hty hC hl hF y _ K x a w Q (Z274 h).1 hk hQ
   | false =>
    rw [if_neg (by simp)]
    refine Z79 hm hty hC hl hF z _ K x a w Q ?_ hk hQ
    cases p with
    | true=>exact (Z274 h).2
    | false=>exact h
  ·cases h
 | .block id c,st,K,x,a,w,Q,h,hR,hQ=>by
  apply wp_block
  refine Z79 hm hty hC hl hF c st _ x a w _ h hR ?_
  intro e st' a' w' hK hR'
  cases e with
  | exit id' =>
   simp only [inBlk] at hK
   simp only [Exit.inBlock]
   cases hb:Nat.beq id' id with
   | true =>
    rw [hb,cond_true] at hK
    rw [if_pos (Nat.eq_of_beq_eq_true hb)]
    exact hQ _ st' _ _ hK hR'
   | false =>
    rw [hb,cond_false] at hK
    rw [if_neg]
    ·exact hQ _ st' _ _ hK hR'
    ·rintro rfl; rw [Nat.beq_refl] at hb; cases hb
  | _=>exact hQ _ st' _ _ hK hR'
 | .loop c,st,K,x,a,w,Q,h,hR,hQ=>by
  unfold interp at h
  split at h
  ·rename_i s hs
   refine Z399 (fun n a w=>∃ s,iter (interp C ty N m fuel kp c) (canon m (kp.loop (rid c))) K n s=some x∧Repr F N s.get s.box a w) ?_ (n:=fuel) ⟨s,h,Z115 hF hs hR⟩
   rintro n a w ⟨s,hit,hRs⟩
   cases n with
   | zero=>simp [iter] at hit
   | succ n =>
    simp only [iter] at hit
    refine Z79 hm hty hC hl hF c s _ x a w _ hit hRs ?_
    intro e st' a' w' hK hR'
    cases e with
    | normal =>
     simp only [Z567] at hK
     split at hK
     ·rename_i s' hs'
      exact ⟨n,by omega,s',hK,Z115 hF hs' hR'⟩
     ·cases hK
    | _=>exact hQ _ st' _ _ hK hR'
  ·cases h
 | .exit id,st,K,x,a,w,Q,h,hR,hQ=>wp_exit (hQ _ _ _ _ h hR)
 | .ret,st,K,x,a,w,Q,h,hR,hQ=>wp_ret (hQ _ _ _ _ h hR)
 | .rangeFunc ..,st,K,x,a,w,Q,h,hR,hQ=>by simp [interp] at h
 | .scope ..,st,K,x,a,w,Q,h,hR,hQ=>by simp [interp] at h
 | .label ..,st,K,x,a,w,Q,h,hR,hQ=>by simp [interp] at h
 | .goto ..,st,K,x,a,w,Q,h,hR,hQ=>by simp [interp] at h
 | .refuse ..,st,K,x,a,w,Q,h,hR,hQ=>by simp [interp] at h
end
def codeAt:Code→List Nat→Code
 | c,[]=>c
 | .seq a b,i :: p=>bif Nat.beq i 0 then codeAt a p else codeAt b p
 | .cond _ x y,i :: p=>bif Nat.beq i 0 then codeAt x p else codeAt y p
 | .block _ x,_ :: p=>codeAt x p
 | .loop x,_ :: p=>codeAt x p
 | _,_=>.skip
section
variable {X:Type} (C:List Fun) (ty:Nat→Option TyI) (N m fuel:Nat) (kp:Keep)
noncomputable def kAt:Code→List Nat→List (St→Option X)→(Exit→St→Option X)→(Exit→St→Option X)
 | .seq a b,i :: p,gs,K=>bif Nat.beq i 0 then kAt a p gs (joined ((kp.join (rid b)).map (canon m)) (fun s=>interp C ty N m fuel kp b s K) K) else kAt b p gs K
 | .cond _ x y,i :: p,gs,K=>bif Nat.beq i 0 then kAt x p gs K else kAt y p gs K
 | .block id x,_ :: p,gs,K=>kAt x p gs (inBlk id K)
 | .loop x,_ :: p,g :: gs,K=>kAt x p gs (Z567 (canon m (kp.loop (rid x))) K g)
 | _,_,_,K=>K
end
end Go.Abs
