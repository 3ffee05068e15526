import Derived.Test.YtbapchkhohnncaaGreatDoorCode
set_option linter.unusedSimpArgs false
set_option linter.unusedSectionVars false
set_option linter.unusedVariables false
namespace Go.Abs
theorem Z126 (g:List Nat) (σ:Sg):updF (goneU g) σ=Z631 g σ:=by
 funext b
 induction g with
 | nil=>rfl
 | cons c g ih =>
  simp only [goneU,List.map_cons,updF,Z631,mem] at ih ⊢
  by_cases h:b=c
  ·subst h; simp [setF]
  ·have hb:Nat.beq b c=false:=by
    cases hb:Nat.beq b c with
    | false=>rfl
    | true=>exact absurd (Nat.eq_of_beq_eq_true hb) h
   rw [Z712 _ _ h,hb,Bool.false_or]
   exact ih
theorem Z22 (g g':List Nat) (σ:Sg):Z631 (g'++g) σ=Z631 g' (Z631 g σ):=by
 rw [← Z126,← Z126,← Z126]
 induction g' with
 | nil=>rfl
 | cons c g' ih=>simp only [goneU,List.cons_append,List.map_cons,updF] at ih ⊢; rw [ih]
theorem Z521 {P:Program} {T:TypeId} {u v:Value} {w:World} (h:(Instr.loadAt T u).run P w=.ok v w) :
  (do loadVar T (← asAddr u):Sem Value).run P w=.ok v w:=by
 unfold Instr.loadAt at h
 cases u with
 | pointer a =>
  cases a with
  | none=>simp [Instr.sureAddr] at h
  | some a=>simpa [Instr.sureAddr,asAddr] using h
 | _=>simp [Instr.sureAddr] at h
section
variable {P:Program} {F:Fr} {N m:Nat} {ty:Nat→Option TyI} {I:Rg} {β:Bt} {σ:Sg} {w:World}
theorem Z530 {J:Rg} {p:PV} {ag:Bool} {ls:List Lf} {u:Value} (h:splitV p=some (ag,ls)) (hp:RV I J β σ w p u):RP I J β σ w (ag,ls) u:=by
 cases p with
 | one l=>simp only [splitV,Option.some.injEq,Prod.mk.injEq] at h; obtain ⟨rfl,rfl⟩:=h; exact hp
 | agg l=>simp only [splitV,Option.some.injEq,Prod.mk.injEq] at h; obtain ⟨rfl,rfl⟩:=h; exact hp
 | tup l=>cases h
theorem Z57 (hty:TysOk P ty) {st:St} {a:Act} (hI:Inv F I β (ex st.box) w) (hv:∀ t,RV I F.J β (ex st.box) w (st.get t) (a.tmps.getD t undef)) :
  ∀ {rv:List ResultVar} {vs:List (Bool×List Lf)},Z695 ty st rv=some vs→∃ us:List Value,
   (rv.mapM (fun | .tmp t=>pure (a.tmps.getD t undef) | .cell x t=>do loadVar t (← asAddr (a.tmps.getD x undef)):ResultVar→Sem Value)).run P w=.ok us w∧RT I F.J β (ex st.box) w vs us
 | [],vs,h=>by
  simp only [Z695,Option.some.injEq] at h
  subst h
  exact ⟨[],by simp,rfl⟩
 | .tmp t :: r,vs,h=>by
  simp only [Z695] at h
  split at h
  ·rename_i v l hs hr
   simp only [Option.some.injEq] at h
   subst h
   obtain ⟨us,h1,h2⟩:=Z57 hty hI hv hr
   obtain ⟨ag,ls⟩:=v
   exact ⟨_ :: us,by simp only [List.mapM_cons,Sem.run_bind,Sem.run_pure,Result.andThen_ok,h1],_,us,rfl,Z530 hs (hv t),h2⟩
  ·cases h
 | .cell x T :: r,vs,h=>by
  simp only [Z695] at h
  split at h
  ·rename_i l hx
   split at h
   ·rename_i e he
    cases hlt:ltK e.rd with
    | false=>rw [hlt,cond_false] at h; cases h
    | true =>
    rw [hlt,cond_true] at h
    have hlt:=Z487 hlt
    split at h
    ·rename_i v l' hs hr
     simp only [Option.some.injEq] at h
     subst h
     obtain ⟨us,h1,h2⟩:=Z57 hty hI hv hr
     have hvx:=hv x
     rw [hx] at hvx
     obtain ⟨_,u,h3,h4⟩:=Z605 (get:=st.box) hty hI he (fun b hb=>ex_low (hlt b hb)) hvx
     obtain ⟨ag,ls⟩:=v
     have h5:=Z521 h3
     refine ⟨u :: us,?_,u,us,rfl,Z530 hs h4,h2⟩
     have h6:(asAddr (a.tmps.getD x undef) >>= fun y=>loadVar T y).run P w=.ok u w:=h5
     rw [List.mapM_cons,Sem.run_bind]
     rw [h6]
     simp only [Sem.run_bind,Sem.run_pure,Result.andThen_ok,h1]
    ·cases h
   ·cases h
  ·cases h
def Ag (σ get:Sg):Prop:=∀ b,b < 1000000→σ b=get b
theorem Ag.gone {σ get:Sg} (h:Ag σ get) (g:List Nat):Ag (Z631 g σ) (Z631 g get):=fun b hb=>by unfold Z631; rw [h b hb]
theorem Z210:∀ {rp:List Rp} {ls ls':List Lf} {g:List Nat} {us:List Value} {I:Rg} {σ get:Sg},immR get rp ls=some (ls',g)→Ag σ get→(∀ b∈g,b < 1000000)→Inv F I β σ w→RLs I F.J β σ w ls us →
  ∃ I',Inv F I' β (Z631 g σ) w∧Ext F.J I β σ w I' β (Z631 g σ) w∧RLs I' F.J β (Z631 g σ) w ls' us
 | [],[],ls',g,us,I,σ,get,h,hAg,hgK,hI,hl=>by
  simp only [immR,Option.some.injEq,Prod.mk.injEq] at h
  obtain ⟨rfl,rfl⟩:=h
  exact ⟨I,hI,.refl ..,hl⟩
 | [],_ :: _,_,_,_,_,_,_,h,_,_,_,_=>by simp [immR] at h
 | .v bor t :: r,ls,ls',g,us,I,σ,get,h,hAg,hgK,hI,hl=>by
  simp only [immR] at h
  cases ht:takeL t.sz ls with
  | none=>simp [ht] at h
  | some hd =>
   simp only [ht] at h
   cases him:immL get hd with
   | none=>simp [him] at h
   | some q =>
    obtain ⟨h',g1⟩:=q
    simp only [him] at h
    cases hr:immR (Z631 g1 get) r (dropL t.sz ls) with
    | none=>simp [hr] at h
    | some q =>
     obtain ⟨l,g2⟩:=q
     simp only [hr,Option.some.injEq,Prod.mk.injEq] at h
     obtain ⟨rfl,rfl⟩:=h
     obtain ⟨h1,h2,h3⟩:=hl.take ht
     have h4:=hl.drop (n:=t.sz)
     obtain ⟨I1,h5,h6,h7⟩:=Z316 him (fun b hb=>hAg b (hgK b (by simp [hb]))) hI h1
     rw [Z126] at h5 h6 h7
     obtain ⟨I2,h8,h9,h10⟩:=Z210 hr (hAg.gone g1) (fun b hb=>hgK b (by simp [hb])) h5 (h6.rls h4)
     rw [Z22]
     refine ⟨I2,h8,h6.trans h9,?_⟩
     have:=(h9.rls h7).append h10
     rwa [List.take_append_drop] at this
 | .new t :: r,[],_,_,_,_,_,_,h,_,_,_,_=>by simp [immR] at h
 | .new t :: r,l :: ls,ls',g,us,I,σ,get,h,hAg,hgK,hI,hl=>by
  simp only [immR] at h
  cases hr:immR get r ls with
  | none=>simp [hr] at h
  | some q =>
   obtain ⟨l',g2⟩:=q
   simp only [hr,Option.some.injEq,Prod.mk.injEq] at h
   obtain ⟨rfl,rfl⟩:=h
   obtain ⟨v,rest,rfl,h1,h2⟩:=hl
   obtain ⟨I2,h8,h9,h10⟩:=Z210 hr hAg hgK hI h2
   exact ⟨I2,h8,h9,v,rest,rfl,h9.rl h1,h10⟩
 | .nvar T t :: r,[],_,_,_,_,_,_,h,_,_,_,_=>by simp [immR] at h
 | .nvar T t :: r,l :: ls,ls',g,us,I,σ,get,h,hAg,hgK,hI,hl=>by
  simp only [immR] at h
  cases hr:immR get r ls with
  | none=>simp [hr] at h
  | some q =>
   obtain ⟨l',g2⟩:=q
   simp only [hr,Option.some.injEq,Prod.mk.injEq] at h
   obtain ⟨rfl,rfl⟩:=h
   obtain ⟨v,rest,rfl,h1,h2⟩:=hl
   obtain ⟨I2,h8,h9,h10⟩:=Z210 hr hAg hgK hI h2
   exact ⟨I2,h8,h9,v,rest,rfl,h9.rl h1,h10⟩
 | .pre k :: r,[],_,_,_,_,_,_,h,_,_,_,_=>by simp [immR] at h
 | .pre k :: r,l :: ls,ls',g,us,I,σ,get,h,hAg,hgK,hI,hl=>by
  simp only [immR] at h
  cases hr:immR get r ls with
  | none=>simp [hr] at h
  | some q =>
   obtain ⟨l',g2⟩:=q
   simp only [hr,Option.some.injEq,Prod.mk.injEq] at h
   obtain ⟨rfl,rfl⟩:=h
   obtain ⟨v,rest,rfl,h1,h2⟩:=hl
   obtain ⟨I2,h8,h9,h10⟩:=Z210 hr hAg hgK hI h2
   exact ⟨I2,h8,h9,v,rest,rfl,h9.rl h1,h10⟩
 | .newp t :: r,[],_,_,_,_,_,_,h,_,_,_,_=>by simp [immR] at h
 | .newp t :: r,l :: ls,ls',g,us,I,σ,get,h,hAg,hgK,hI,hl=>by
  simp only [immR] at h
  cases hr:immR get r ls with
  | none=>simp [hr] at h
  | some q =>
   obtain ⟨l',g2⟩:=q
   simp only [hr,Option.some.injEq,Prod.mk.injEq] at h
   obtain ⟨rfl,rfl⟩:=h
   obtain ⟨v,rest,rfl,h1,h2⟩:=hl
   obtain ⟨I2,h8,h9,h10⟩:=Z210 hr hAg hgK hI h2
   exact ⟨I2,h8,h9,v,rest,rfl,h9.rl h1,h10⟩
 | .nrc T np :: r,[],_,_,_,_,_,_,h,_,_,_,_=>by simp [immR] at h
 | .nrc T np :: r,l :: ls,ls',g,us,I,σ,get,h,hAg,hgK,hI,hl=>by
  simp only [immR] at h
  cases hr:immR get r ls with
  | none=>simp [hr] at h
  | some q =>
   obtain ⟨l',g2⟩:=q
   simp only [hr,Option.some.injEq,Prod.mk.injEq] at h
   obtain ⟨rfl,rfl⟩:=h
   obtain ⟨v,rest,rfl,h1,h2⟩:=hl
   obtain ⟨I2,h8,h9,h10⟩:=Z210 hr hAg hgK hI h2
   exact ⟨I2,h8,h9,v,rest,rfl,h9.rl h1,h10⟩
theorem Z76:∀ {rs:List (Bool×List Rp)} {vs vs':List (Bool×List Lf)} {g:List Nat} {us:List Value} {I:Rg} {σ get:Sg},immAll get rs vs=some (vs',g)→Ag σ get→(∀ b∈g,b < 1000000)→Inv F I β σ w→RT I F.J β σ w vs us →
  ∃ I',Inv F I' β (Z631 g σ) w∧Ext F.J I β σ w I' β (Z631 g σ) w∧RT I' F.J β (Z631 g σ) w vs' us
 | [],[],ls',g,us,I,σ,get,h,hAg,hgK,hI,hl=>by
  simp only [immAll,Option.some.injEq,Prod.mk.injEq] at h
  obtain ⟨rfl,rfl⟩:=h
  exact ⟨I,hI,.refl ..,hl⟩
 | [],_ :: _,_,_,_,_,_,_,h,_,_,_,_=>by simp [immAll] at h
 | _ :: _,[],_,_,_,_,_,_,h,_,_,_,_=>by simp [immAll] at h
 | (ag,rp) :: r,(ag',ls) :: q,vs',g,us,I,σ,get,h,hAg,hgK,hI,hl=>by
  simp only [immAll] at h
  cases hag:ag==ag'&&wellL ag ls with
  | false=>simp [hag] at h
  | true =>
   simp only [hag,cond_true] at h
   rw [Bool.and_eq_true] at hag
   obtain ⟨hag,hwl⟩:=hag
   have hag:=eq_of_beq hag
   subst hag
   cases him:immR get rp ls with
   | none=>simp [him] at h
   | some q1 =>
    obtain ⟨l,g1⟩:=q1
    simp only [him] at h
    cases hr:immAll (Z631 g1 get) r q with
    | none=>simp [hr] at h
    | some q2 =>
     obtain ⟨rest,g2⟩:=q2
     simp only [hr,Option.some.injEq,Prod.mk.injEq] at h
     obtain ⟨rfl,rfl⟩:=h
     obtain ⟨u,us',rfl,h1,h2⟩:=hl
     have key:∃ I1,Inv F I1 β (Z631 g1 σ) w∧Ext F.J I β σ w I1 β (Z631 g1 σ) w∧RP I1 F.J β (Z631 g1 σ) w (ag,l) u:=by
      cases ag with
      | true =>
       obtain ⟨vs,rfl,h3⟩:=h1
       obtain ⟨I1,h4,h5,h6⟩:=Z210 him hAg (fun b hb=>hgK b (by simp [hb])) hI h3
       exact ⟨I1,h4,h5,vs,rfl,h6⟩
      | false =>
       match ls,h1,him,hwl with
       | [x],h1,him,hwl =>
        obtain ⟨I1,h4,h5,h6⟩:=Z210 (us:=[u]) him hAg (fun b hb=>hgK b (by simp [hb])) hI ⟨u,[],rfl,h1,rfl⟩
        refine ⟨I1,h4,h5,?_⟩
        match l,h6 with
        | [],h6=>exact trivial
        | [y],h6=>obtain ⟨v,rest,e,h7,_⟩:=h6; injection e with e _; subst e; exact h7
        | _ :: _ :: _,h6=>exact trivial
       | [],h1,him,hwl=>simp [wellL] at hwl
       | x :: y :: z,h1,him,hwl=>simp [wellL] at hwl
     obtain ⟨I1,h4,h5,h6⟩:=key
     obtain ⟨I2,h8,h9,h10⟩:=Z76 hr (hAg.gone g1) (fun b hb=>hgK b (by simp [hb])) h4 (h5.rt h2)
     rw [Z22]
     exact ⟨I2,h8,h5.trans h9,_,us',rfl,h9.rp h6,h10⟩
end
theorem Z327 {b m:Nat} (h:Nat.blt b m=true):b < m:=Nat.le_of_ble_eq_true h
theorem Z322 {b m:Nat} (h:Nat.blt b m=false):m≤b:=by
 rcases Nat.lt_or_ge b m with h' | h'
 ·have:Nat.blt b m=true:=Nat.ble_eq_true_of_le h'
  rw [this] at h; cases h
 ·exact h'
section
variable {I J:Rg} {β β':Bt} {σ σ':Sg} {w:World} {m:Nat}
theorem Z734 {bor:Bool} {l:Lf} {u:Value} (h:RL I J β σ w l u):RL I J β σ w (weakL bor l) u:=by
 cases l with
 | list b t xs =>
  obtain ⟨A,c,h1,h2,h3⟩:=h
  refine ⟨A,c,h1,h2,h3.imp (fun h=>h) ?_⟩
  rintro ⟨a,h4,h5,h6⟩
  exact ⟨a,h4,h5,h6.mono (fun _ _ h=>h.imp (fun h=>h) fun h=>⟨by simp [h.1],h.2⟩) (fun _ _ _ _ h=>h) (fun _ _ h=>h.mono (fun _ _ h=>h.imp (fun h=>h) fun h=>⟨by simp [h.1],h.2⟩) (fun _ _ _ _ h=>h))⟩
 | _=>exact h
theorem Z551 {bor:Bool}:∀ {t:Tc} {ls:List Lf} {x:t.den} {r:List Lf} {vs:List Value},unfl bor t ls=some (x,r)→RLs I J β σ w ls vs →
  ∃ v1 v2,vs=v1++v2∧RLs I J β σ w (fl bor t x) v1∧RLs I J β σ w r v2
 | .int k,ls,x,r,vs,h,hl=>by
  match ls,h with
  | .sc (.int k' n) :: q,h =>
   simp only [Abs.unfl] at h
   split at h
   ·rename_i e
    subst e
    simp only [Option.some.injEq,Prod.mk.injEq] at h
    obtain ⟨v,rest,rfl,h1,h2⟩:=hl
    exact ⟨[v],rest,rfl,⟨v,[],rfl,by rw [← h.1]; exact h1,rfl⟩,h.2 ▸ h2⟩
   ·cases h
 | .bool,ls,x,r,vs,h,hl=>by
  match ls,h with
  | .sc (.bool b) :: q,h =>
   simp only [Abs.unfl,Option.some.injEq,Prod.mk.injEq] at h
   obtain ⟨v,rest,rfl,h1,h2⟩:=hl
   exact ⟨[v],rest,rfl,⟨v,[],rfl,by rw [← h.1]; exact h1,rfl⟩,h.2 ▸ h2⟩
 | .str,ls,x,r,vs,h,hl=>by
  match ls,h with
  | .sc (.string b) :: q,h =>
   simp only [Abs.unfl,Option.some.injEq,Prod.mk.injEq] at h
   obtain ⟨v,rest,rfl,h1,h2⟩:=hl
   exact ⟨[v],rest,rfl,⟨v,[],rfl,by rw [← h.1]; exact h1,rfl⟩,h.2 ▸ h2⟩
 | .nil,ls,x,r,vs,h,hl=>by
  match ls,h with
  | .sc (.pointer none) :: q,h =>
   simp only [Abs.unfl,Option.some.injEq,Prod.mk.injEq] at h
   obtain ⟨v,rest,rfl,h1,h2⟩:=hl
   exact ⟨[v],rest,rfl,⟨v,[],rfl,h1,rfl⟩,h.2 ▸ h2⟩
 | .list t,ls,x,r,vs,h,hl=>by
  match ls,h with
  | .list b t' xs :: q,h =>
   simp only [Abs.unfl] at h
   cases hb:b&&!bor with
   | true=>rw [hb] at h; cases h
   | false =>
   rw [hb,cond_false] at h
   cases hc:castL t' t xs with
   | none=>rw [hc] at h; cases h
   | some ys =>
    rw [hc] at h
    simp only [Option.some.injEq,Prod.mk.injEq] at h
    obtain ⟨e,hy⟩:=Z184 hc
    subst e
    simp only at hy
    obtain ⟨v,rest,rfl,h1,h2⟩:=hl
    refine ⟨[v],rest,rfl,⟨v,[],rfl,?_,rfl⟩,h.2 ▸ h2⟩
    rw [← h.1,hy]
    have:=Z734 (bor:=bor) h1
    have e:(b||bor)=bor:=by revert hb; cases b <;> cases bor <;> simp
    simp only [weakL,e] at this
    exact this
  | .sc (.slice none 0 0) :: q,h =>
   simp only [Abs.unfl,Option.some.injEq,Prod.mk.injEq] at h
   obtain ⟨v,rest,rfl,h1,h2⟩:=hl
   refine ⟨[v],rest,rfl,⟨v,[],rfl,?_,rfl⟩,h.2 ▸ h2⟩
   rw [← h.1]
   exact ⟨none,0,h1,Nat.le_refl _,.inl rfl⟩
 | .pair a b,ls,x,r,vs,h,hl=>by
  simp only [Abs.unfl] at h
  cases h1:Abs.unfl bor a ls with
  | none=>simp [h1] at h
  | some p =>
   obtain ⟨y,q⟩:=p
   simp only [h1] at h
   cases h2:Abs.unfl bor b q with
   | none=>simp [h2] at h
   | some p =>
    obtain ⟨z,r'⟩:=p
    simp only [h2,Option.some.injEq,Prod.mk.injEq] at h
    obtain ⟨rfl,rfl⟩:=h
    obtain ⟨v1,v2,rfl,h3,h4⟩:=Z551 h1 hl
    obtain ⟨v3,v4,rfl,h5,h6⟩:=Z551 h2 h4
    exact ⟨v1++v3,v4,by simp,h3.append h5,h6⟩
 | .unit,ls,x,r,vs,h,hl=>by
  simp only [Abs.unfl,Option.some.injEq,Prod.mk.injEq] at h
  exact ⟨[],vs,rfl,rfl,h.2 ▸ hl⟩
theorem Z457 {bor:Bool}:∀ {t:Tc} {x:t.den} {vs:List Value},RLs I J β σ w (fl bor t x) vs→RLs I J β' σ' w (fl bor t x) vs
 | .int _,_,_,h=>h
 | .bool,_,_,h=>h
 | .str,_,_,h=>h
 | .list _,_,_,h=>h
 | .pair a b,x,vs,h=>by
  obtain ⟨v1,v2,rfl,h1,h2⟩:=RLs.split h
  exact (Z457 h1).append (Z457 h2)
 | .unit,_,_,h=>h
 | .nil,_,_,h=>h
end
def OutBox (m:Nat) (σ:Sg) (y:Box):Option Nat→Prop
 | none=>(∃ t,y=.row 0 t [])∨∃ t,y=.pool 0 t [] []
 | some b=>m≤b∧b < 1000000∧((∃ T c cs,σ b=some (.var T c)∧y=.var T cs)∨(∃ v t xs n,σ b=some (.row v t xs)∧y=.row 0 t (xs.take n))∨∃ v t pos inn,σ b=some (.pool v t pos inn)∧y=.pool 0 t pos inn)
def Z403 (m:Nat) (get:Sg):List Box→List (Option Nat)→Prop
 | [],[]=>True
 | y :: bs,o :: own=>OutBox m get y o∧Z403 m get bs own
 | _,_=>False
theorem Z403.len {m:Nat} {get:Sg}:∀ {bs:List Box} {own:List (Option Nat)},Z403 m get bs own→bs.length=own.length
 | [],[],_=>rfl
 | _ :: _,_ :: _,h=>by simp [h.2.len]
 | [],_ :: _,h=>h.elim
 | _ :: _,[],h=>h.elim
theorem Z403.append {m:Nat} {get:Sg}:∀ {bs bs':List Box} {own own':List (Option Nat)},Z403 m get bs own→Z403 m get bs' own'→Z403 m get (bs++bs') (own++own')
 | [],_,[],_,_,h'=>h'
 | _ :: _,_,_ :: _,_,h,h'=>⟨h.1,h.2.append h'⟩
 | [],_,_ :: _,_,h,_=>h.elim
 | _ :: _,_,[],_,h,_=>h.elim
theorem Z403.at {m:Nat} {get:Sg}:∀ {bs:List Box} {own:List (Option Nat)},Z403 m get bs own→∀ (j:Nat) (y:Box),bs[j]?=some y→∃ o,own[j]?=some o∧OutBox m get y o
 | [],[],_,j,y,hy=>by simp at hy
 | b :: bs,o :: own,h,j,y,hy=>by
  cases j with
  | zero =>
   simp only [List.getElem?_cons_zero,Option.some.injEq] at hy
   subst hy
   exact ⟨o,rfl,h.1⟩
  | succ j =>
   simp only [List.getElem?_cons_succ] at hy ⊢
   exact h.2.at j y hy
 | [],_ :: _,h,_,_,_=>h.elim
 | _ :: _,[],h,_,_,_=>h.elim
section
variable {I J:Rg} {β β':Bt} {σ σ':Sg} {w:World} {m:Nat}
def ownB (β:Bt) (own:List (Option Nat)) (j:Nat):Option (Nat×Nat):=((own[j]?).getD none).bind β
def VarsOk (I J:Rg) (β:Bt) (σ:Sg) (w:World) (bs:List Box) (own:List (Option Nat)) (β':Bt) (σ':Sg):Prop :=
 ∀ (j T:Nat) (cs:List Lf),bs[j]?=some (.var T cs)→∀ (b:Nat) (c:List Lf),own[j]?=some (some b)→σ b=some (.var T c)→∀ vs,RLs I J β σ w c vs→RLs I J β' σ' w cs vs
theorem VarsOk.nil {β':Bt} {σ':Sg}:VarsOk I J β σ w [] [] β' σ':=fun j T cs h=>by simp at h
theorem VarsOk.append {bs bs':List Box} {own own':List (Option Nat)} {β':Bt} {σ':Sg} (hl:bs.length=own.length) (h:VarsOk I J β σ w bs own β' σ') (h':VarsOk I J β σ w bs' own' β' σ'):VarsOk I J β σ w (bs++bs') (own++own') β' σ':=by
 intro j T cs hj b c ho hc vs hv
 rw [List.getElem?_append] at hj ho
 rw [← hl] at ho
 split at hj
 ·rename_i hlt
  rw [if_pos hlt] at ho
  exact h j T cs hj b c ho hc vs hv
 ·rename_i hlt
  rw [if_neg hlt] at ho
  exact h' _ T cs hj b c ho hc vs hv
theorem VarsOk.skip {y:Box} {o:Option Nat} {bs:List Box} {own:List (Option Nat)} {β':Bt} {σ':Sg} (hy:∀ T cs,y≠.var T cs) (h:VarsOk I J β σ w bs own β' σ'):VarsOk I J β σ w (y :: bs) (o :: own) β' σ':=by
 intro j T cs hj b c ho hc vs hv
 cases j with
 | zero =>
  simp only [List.getElem?_cons_zero,Option.some.injEq] at hj
  exact absurd hj (hy T cs)
 | succ j=>exact h j T cs (by simpa using hj) b c (by simpa using ho) hc vs hv
theorem VarsOk.var {T0:Nat} {cs0:List Lf} {b0:Nat} {bs:List Box} {own:List (Option Nat)} {β':Bt} {σ':Sg} (h0:∀ c,σ b0=some (.var T0 c)→∀ vs,RLs I J β σ w c vs→RLs I J β' σ' w cs0 vs) (h:VarsOk I J β σ w bs own β' σ') :
  VarsOk I J β σ w (.var T0 cs0 :: bs) (some b0 :: own) β' σ':=by
 intro j T cs hj b c ho hc vs hv
 cases j with
 | zero =>
  simp only [List.getElem?_cons_zero,Option.some.injEq,Box.var.injEq] at hj ho
  obtain ⟨rfl,rfl⟩:=hj
  subst ho
  exact h0 c hc vs hv
 | succ j=>exact h j T cs (by simpa using hj) b c (by simpa using ho) hc vs hv
variable {get:Sg} (hag:Ag σ get)
include hag
theorem Z234 {t:Tc} {l:Lf} {x:List t.den} {o:Option Nat} (h:ownRow get m t l=some (x,o)) (hK:∀ b,o=some b→b < 1000000):OutBox m σ (.row 0 t x) o:=by
 unfold ownRow at h
 split at h
 ·simp only [Option.some.injEq,Prod.mk.injEq] at h
  obtain ⟨rfl,rfl⟩:=h
  exact .inl ⟨t,rfl⟩
 ·rename_i b ver
  cases hbm:Nat.blt b m with
  | true=>simp [hbm] at h
  | false =>
   simp only [hbm,cond_false] at h
   split at h
   ·rename_i ver' t' xs hx
    cases hv:Nat.beq ver ver' with
    | false=>simp [hv] at h
    | true =>
     simp only [hv,cond_true] at h
     split at h
     ·rename_i xs' hc
      simp only [Option.some.injEq,Prod.mk.injEq] at h
      obtain ⟨rfl,rfl⟩:=h
      obtain ⟨e,hxs⟩:=Z184 hc
      subst e
      simp only at hxs
      subst hxs
      have hbK:=hK b rfl
      exact ⟨Z322 hbm,hbK,.inr (.inl ⟨_,_,_,xs'.length,by rw [hag b hbK]; exact hx,by rw [List.take_length]⟩)⟩
     ·cases h
   ·cases h
 ·rename_i b ver n
  cases hbm:Nat.blt b m with
  | true=>simp [hbm] at h
  | false =>
   simp only [hbm,cond_false] at h
   split at h
   ·rename_i ver' t' xs hx
    cases hv:Nat.beq ver ver' with
    | false=>simp [hv] at h
    | true =>
     simp only [hv,cond_true] at h
     split at h
     ·rename_i xs' hc
      simp only [Option.some.injEq,Prod.mk.injEq] at h
      obtain ⟨rfl,rfl⟩:=h
      obtain ⟨e,hxs⟩:=Z184 hc
      subst e
      simp only at hxs
      subst hxs
      have hbK:=hK b rfl
      exact ⟨Z322 hbm,hbK,.inr (.inl ⟨_,_,_,n,by rw [hag b hbK]; exact hx,rfl⟩)⟩
     ·cases h
   ·cases h
 ·cases h
theorem Z349 {t:Tc} {l:Lf} {x:List t.den} {o:Option Nat} {u:Value} (h:ownRow get m t l=some (x,o)) (hK:∀ b,o=some b→b < 1000000) (hl:RL I J β σ w l u) :
  ∀ (β':Bt) (σ':Sg) (k:Nat),σ' k=some (.row 0 t x)→β' k=o.bind β→RL I J β' σ' w (.slice k 0 none) u:=by
 unfold ownRow at h
 split at h
 ·simp only [Option.some.injEq,Prod.mk.injEq] at h
  obtain ⟨rfl,rfl⟩:=h
  exact fun β' σ' k hk hb=>⟨_,hk,Nat.le_refl 0,fun _=>⟨none,0,hl,.inl ⟨rfl,rfl⟩⟩⟩
 ·rename_i b ver
  cases hbm:Nat.blt b m with
  | true=>simp [hbm] at h
  | false =>
   simp only [hbm,cond_false] at h
   split at h
   ·rename_i ver' t' xs hx
    cases hv:Nat.beq ver ver' with
    | false=>simp [hv] at h
    | true =>
     simp only [hv,cond_true] at h
     split at h
     ·rename_i xs' hc
      simp only [Option.some.injEq,Prod.mk.injEq] at h
      obtain ⟨rfl,rfl⟩:=h
      obtain ⟨e,hxs⟩:=Z184 hc
      subst e
      simp only at hxs
      subst hxs
      have hv:=Nat.eq_of_beq_eq_true hv
      subst hv
      rw [← hag b (hK b rfl)] at hx
      intro β' σ' k hk hb
      obtain ⟨x,hx',h6⟩:=hl
      rw [hx] at hx'
      injection hx' with hx'
      subst hx'
      have hb:β' k=β b:=hb
      refine ⟨_,hk,Nat.le_refl 0,fun _=>?_⟩
      have:=h6.2 rfl
      simp only [hb]
      exact this
     ·cases h
   ·cases h
 ·rename_i b ver n
  cases hbm:Nat.blt b m with
  | true=>simp [hbm] at h
  | false =>
   simp only [hbm,cond_false] at h
   split at h
   ·rename_i ver' t' xs hx
    cases hv:Nat.beq ver ver' with
    | false=>simp [hv] at h
    | true =>
     simp only [hv,cond_true] at h
     split at h
     ·rename_i xs' hc
      simp only [Option.some.injEq,Prod.mk.injEq] at h
      obtain ⟨rfl,rfl⟩:=h
      obtain ⟨e,hxs⟩:=Z184 hc
      subst e
      simp only at hxs
      subst hxs
      have hv:=Nat.eq_of_beq_eq_true hv
      subst hv
      rw [← hag b (hK b rfl)] at hx
      intro β' σ' k hk hb
      obtain ⟨x,hx',h6⟩:=hl
      rw [hx] at hx'
      injection hx' with hx'
      subst hx'
      have hb:β' k=β b:=hb
      refine ⟨_,hk,Nat.le_refl 0,fun _=>?_⟩
      obtain ⟨A,c,g1,g2,_,g3,g4⟩:=h6.2 rfl
      simp only [List.drop_zero] at g1 g2
      refine ⟨A,c,g1,?_⟩
      rcases g4 with g4 | ⟨blk,o,q1,q2,q3⟩
      ·refine .inl ⟨?_,g4⟩
       have:xs'.length=0:=by omega
       rw [List.length_eq_zero_iff.1 this,List.take_nil]
      ·exact .inr ⟨blk,o,by rw [hb,q1],by simpa using q2,g2,by simpa using q3⟩
     ·cases h
   ·cases h
 ·cases h
theorem Z140 {t:Tc} {l:Lf} {x:List Nat×List (List t.den)} {o:Option Nat} (h:Z685 get m t l=some (x,o)) (hK:∀ b,o=some b→b < 1000000):OutBox m σ (.pool 0 t x.1 x.2) o:=by
 unfold Z685 at h
 split at h
 ·simp only [Option.some.injEq,Prod.mk.injEq] at h
  obtain ⟨rfl,rfl⟩:=h
  exact .inr ⟨t,rfl⟩
 ·rename_i b ver
  cases hbm:Nat.blt b m with
  | true=>simp [hbm] at h
  | false =>
   simp only [hbm,cond_false] at h
   split at h
   ·rename_i ver' t' pos inn hx
    cases hv:Nat.beq ver ver' with
    | false=>simp [hv] at h
    | true =>
     simp only [hv,cond_true] at h
     split at h
     ·rename_i inn' hc
      simp only [Option.some.injEq,Prod.mk.injEq] at h
      obtain ⟨rfl,rfl⟩:=h
      obtain ⟨e,hxs⟩:=castLL hc
      subst e
      simp only at hxs
      subst hxs
      have hbK:=hK b rfl
      exact ⟨Z322 hbm,hbK,.inr (.inr ⟨_,_,_,_,by rw [hag b hbK]; exact hx,rfl⟩)⟩
     ·cases h
   ·cases h
 ·cases h
theorem Z233 {t:Tc} {l:Lf} {x:List Nat×List (List t.den)} {o:Option Nat} {u:Value} (h:Z685 get m t l=some (x,o)) (hK:∀ b,o=some b→b < 1000000) (hl:RL I J β σ w l u) :
  ∀ (β':Bt) (σ':Sg) (k:Nat),σ' k=some (.pool 0 t x.1 x.2)→β' k=o.bind β→RL I J β' σ' w (.slice k 0 none) u:=by
 unfold Z685 at h
 split at h
 ·simp only [Option.some.injEq,Prod.mk.injEq] at h
  obtain ⟨rfl,rfl⟩:=h
  exact fun β' σ' k hk hb=>⟨_,hk,Nat.le_refl 0,fun _ _=>⟨none,0,hl,.inl ⟨rfl,rfl⟩⟩⟩
 ·rename_i b ver
  cases hbm:Nat.blt b m with
  | true=>simp [hbm] at h
  | false =>
   simp only [hbm,cond_false] at h
   split at h
   ·rename_i ver' t' pos inn hx
    cases hv:Nat.beq ver ver' with
    | false=>simp [hv] at h
    | true =>
     simp only [hv,cond_true] at h
     split at h
     ·rename_i inn' hc
      simp only [Option.some.injEq,Prod.mk.injEq] at h
      obtain ⟨rfl,rfl⟩:=h
      obtain ⟨e,hxs⟩:=castLL hc
      subst e
      simp only at hxs
      subst hxs
      have hv:=Nat.eq_of_beq_eq_true hv
      subst hv
      rw [← hag b (hK b rfl)] at hx
      intro β' σ' k hk hb
      obtain ⟨x,hx',h6⟩:=hl
      rw [hx] at hx'
      injection hx' with hx'
      subst hx'
      have hb:β' k=β b:=hb
      refine ⟨_,hk,Nat.le_refl 0,fun _ _=>?_⟩
      have:=h6.2 rfl rfl
      simp only [hb]
      exact this
     ·cases h
   ·cases h
 ·cases h
theorem Z144 {k n:Nat} {l:Lf} {u:Value} (h:preOf get m k l=some n) (hm:m≤1000000) (hl:RL I J β σ w l u) :
  k < m∧∃ t xs,σ k=some (.row 0 t xs)∧∀ (β':Bt) (σ':Sg),σ' k=some (.row 0 t xs)→β' k=β k→RL I J β' σ' w (.slice k 0 (some (0,n))) u:=by
 unfold preOf at h
 split at h
 ·rename_i b
  cases hc:Nat.beq b k&&Nat.blt k m with
  | false=>simp [hc] at h
  | true =>
   simp only [hc,cond_true] at h
   rw [Bool.and_eq_true] at hc
   have hb:=Nat.eq_of_beq_eq_true hc.1
   subst hb
   split at h
   ·rename_i t xs hx
    simp only [Option.some.injEq] at h
    subst h
    rw [← hag _ (Nat.lt_of_lt_of_le (Z327 hc.2) hm)] at hx
    refine ⟨Z327 hc.2,t,xs,hx,fun β' σ' hk hb=>⟨_,hk,Nat.le_refl 0,fun _=>?_⟩⟩
    obtain ⟨x,hx',h6⟩:=hl
    rw [hx] at hx'
    injection hx' with hx'
    subst hx'
    obtain ⟨A,c,g1,g2⟩:=h6.2 rfl
    have e:(xs.drop 0).take xs.length=xs:=by simp
    rcases g2 with ⟨q1,q2⟩ | ⟨blk,o,q1,q2,q3,q4⟩
    ·subst q1; subst q2
     exact ⟨A,0,by simpa using g1,by simp,.inl (by simp),by simp,.inl rfl⟩
    ·exact ⟨A,c,by rw [e]; exact g1,by rw [e]; exact q3,.inr ⟨blk,o,by rw [hb,q1],by simpa using q2⟩,by omega,.inr ⟨blk,o,by rw [hb,q1],by simpa using q2,by simpa using q4⟩⟩
   ·cases h
 ·rename_i b n'
  cases hc:Nat.beq b k&&Nat.blt k m with
  | false=>simp [hc] at h
  | true =>
   simp only [hc,cond_true] at h
   rw [Bool.and_eq_true] at hc
   have hb:=Nat.eq_of_beq_eq_true hc.1
   subst hb
   split at h
   ·rename_i t xs hx
    simp only [Option.some.injEq] at h
    subst h
    rw [← hag _ (Nat.lt_of_lt_of_le (Z327 hc.2) hm)] at hx
    refine ⟨Z327 hc.2,t,xs,hx,fun β' σ' hk hb=>⟨_,hk,Nat.le_refl 0,fun _=>?_⟩⟩
    obtain ⟨x,hx',h6⟩:=hl
    rw [hx] at hx'
    injection hx' with hx'
    subst hx'
    have h7:=h6.2 rfl
    simp only [hb]
    exact h7
   ·cases h
 ·cases h
theorem Z85 {T:Nat} {t:Tc} {l:Lf} {x:t.den} {o:Option Nat} {u:Value} (h:ownVar get m T t l=some (x,o)) (hK:∀ b,o=some b→b < 1000000) (hl:RL I J β σ w l u) :
  OutBox m σ (.var T (fl true t x)) o∧∀ (β':Bt) (σ':Sg) (k:Nat),σ' k=some (.var T (fl true t x))→β' k=o.bind β→RL I J β' σ' w (.ref k 0 0 0 0 0) u∧VarsOk I J β σ w [.var T (fl true t x)] [o] β' σ':=by
 unfold ownVar at h
 split at h
 ·rename_i b
  cases hbm:Nat.blt b m with
  | true=>simp [hbm] at h
  | false =>
   simp only [hbm,cond_false] at h
   split at h
   ·rename_i T' cells hx
    cases hT:Nat.beq T T' with
    | false=>simp [hT] at h
    | true =>
     simp only [hT,cond_true] at h
     have hT:=Nat.eq_of_beq_eq_true hT
     subst hT
     split at h
     ·rename_i y hu
      simp only [Option.some.injEq,Prod.mk.injEq] at h
      obtain ⟨rfl,rfl⟩:=h
      have hbK:=hK b rfl
      rw [← hag b hbK] at hx
      refine ⟨⟨Z322 hbm,hbK,.inl ⟨_,_,_,hx,rfl⟩⟩,fun β' σ' k hk hb=>⟨?_,VarsOk.var (fun c hc vs hv=>?_) VarsOk.nil⟩⟩
      ·obtain ⟨_,x,hx',h6⟩:=hl
       rw [hx] at hx'
       injection hx' with hx'
       subst hx'
       have hb:β' k=β b:=hb
       obtain ⟨blk,h7,h8⟩:=h6
       exact ⟨.inl ⟨rfl,rfl⟩,_,hk,blk,by rw [hb,h7],h8⟩
      ·rw [hx] at hc
       injection hc with hc
       injection hc with _ hc
       subst hc
       obtain ⟨v1,v2,rfl,g1,g2⟩:=Z551 hu hv
       simp only [RLs] at g2
       subst g2
       rw [List.append_nil]
       exact Z457 g1
     ·cases h
   ·cases h
 ·cases h
theorem Z347:∀ {l:List Np} {ls:List Lf} {k:Nat} {x:npDen l} {own:List (Option Nat)},ownNp get m l ls=some (x,own)→(∀ b,some b∈own→b < 1000000)→Z403 m σ (npL k l x).2 own∧∀ T cs,Box.var T cs ∉ (npL k l x).2
 | [],[],k,x,own,h,_=>by
  simp only [ownNp,Option.some.injEq,Prod.mk.injEq] at h
  obtain ⟨_,rfl⟩:=h
  exact ⟨trivial,fun T cs h=>by simp [npL] at h⟩
 | [],_ :: _,_,_,_,h,_=>by simp [ownNp] at h
 | .row t :: r,[],_,_,_,h,_=>by simp [ownNp] at h
 | .pool t :: r,[],_,_,_,h,_=>by simp [ownNp] at h
 | .row t :: r,l :: ls,k,x,own,h,hK=>by
  simp only [ownNp] at h
  cases ho:ownRow get m t l with
  | none=>simp [ho] at h
  | some q =>
   obtain ⟨a,o⟩:=q
   simp only [ho] at h
   cases hr:ownNp get m r ls with
   | none=>simp [hr] at h
   | some q =>
    obtain ⟨z,own'⟩:=q
    simp only [hr,Option.some.injEq,Prod.mk.injEq] at h
    obtain ⟨rfl,rfl⟩:=h
    obtain ⟨h1,h2⟩:=Z347 (k:=k+1) hr (fun b hb=>hK b (by simp [hb]))
    refine ⟨⟨Z234 hag ho (fun b hb=>hK b (by simp [hb])),h1⟩,fun T cs hm=>?_⟩
    simp only [npL,List.mem_cons] at hm
    rcases hm with hm | hm
    ·cases hm
    ·exact h2 T cs hm
 | .pool t :: r,l :: ls,k,x,own,h,hK=>by
  simp only [ownNp] at h
  cases ho:Z685 get m t l with
  | none=>simp [ho] at h
  | some q =>
   obtain ⟨a,o⟩:=q
   simp only [ho] at h
   cases hr:ownNp get m r ls with
   | none=>simp [hr] at h
   | some q =>
    obtain ⟨z,own'⟩:=q
    simp only [hr,Option.some.injEq,Prod.mk.injEq] at h
    obtain ⟨rfl,rfl⟩:=h
    obtain ⟨h1,h2⟩:=Z347 (k:=k+1) hr (fun b hb=>hK b (by simp [hb]))
    refine ⟨⟨Z140 hag ho (fun b hb=>hK b (by simp [hb])),h1⟩,fun T cs hm=>?_⟩
    simp only [npL,List.mem_cons] at hm
    rcases hm with hm | hm
    ·cases hm
    ·exact h2 T cs hm
 | .v t :: r,ls,k,x,own,h,hK=>by
  simp only [ownNp] at h
  split at h
  ·split at h
   ·split at h
    ·rename_i y own' hr
     simp only [Option.some.injEq,Prod.mk.injEq] at h
     obtain ⟨rfl,rfl⟩:=h
     have:=Z347 (l:=r) (k:=k) hr hK
     exact this
    ·cases h
   ·cases h
  ·cases h
theorem Z348:∀ {l:List Np} {ls:List Lf} {k:Nat} {x:npDen l} {own:List (Option Nat)} {vs:List Value},ownNp get m l ls=some (x,own)→(∀ b,some b∈own→b < 1000000)→RLs I J β σ w ls vs →
  ∀ (β':Bt) (σ':Sg),(∀ j y,(npL k l x).2[j]?=some y→σ' (k+j)=some y∧β' (k+j)=ownB β own j)→RLs I J β' σ' w (npL k l x).1 vs
 | [],[],k,x,own,vs,h,_,hv,β',σ',hb=>hv
 | [],_ :: _,_,_,_,_,h,_,_,_,_,_=>by simp [ownNp] at h
 | .row t :: r,[],_,_,_,_,h,_,_,_,_,_=>by simp [ownNp] at h
 | .pool t :: r,[],_,_,_,_,h,_,_,_,_,_=>by simp [ownNp] at h
 | .row t :: r,l :: ls,k,x,own,vs,h,hK,hv,β',σ',hb=>by
  simp only [ownNp] at h
  cases ho:ownRow get m t l with
  | none=>simp [ho] at h
  | some q =>
   obtain ⟨a,o⟩:=q
   simp only [ho] at h
   cases hr:ownNp get m r ls with
   | none=>simp [hr] at h
   | some q =>
    obtain ⟨z,own'⟩:=q
    simp only [hr,Option.some.injEq,Prod.mk.injEq] at h
    obtain ⟨rfl,rfl⟩:=h
    obtain ⟨v,rest,rfl,h1,h2⟩:=hv
    have h0:=hb 0 _ rfl
    refine ⟨v,rest,rfl,Z349 hag ho (fun b hb=>hK b (by simp [hb])) h1 β' σ' k h0.1 h0.2,Z348 (k:=k+1) hr (fun b hb=>hK b (by simp [hb])) h2 β' σ' ?_⟩
    intro j y hy
    have:=hb (j+1) y (by simpa [npL] using hy)
    rw [show k+1+j=k+(j+1) by omega]
    simpa [ownB] using this
 | .pool t :: r,l :: ls,k,x,own,vs,h,hK,hv,β',σ',hb=>by
  simp only [ownNp] at h
  cases ho:Z685 get m t l with
  | none=>simp [ho] at h
  | some q =>
   obtain ⟨a,o⟩:=q
   simp only [ho] at h
   cases hr:ownNp get m r ls with
   | none=>simp [hr] at h
   | some q =>
    obtain ⟨z,own'⟩:=q
    simp only [hr,Option.some.injEq,Prod.mk.injEq] at h
    obtain ⟨rfl,rfl⟩:=h
    obtain ⟨v,rest,rfl,h1,h2⟩:=hv
    have h0:=hb 0 _ rfl
    refine ⟨v,rest,rfl,Z233 hag ho (fun b hb=>hK b (by simp [hb])) h1 β' σ' k h0.1 h0.2,Z348 (k:=k+1) hr (fun b hb=>hK b (by simp [hb])) h2 β' σ' ?_⟩
    intro j y hy
    have:=hb (j+1) y (by simpa [npL] using hy)
    rw [show k+1+j=k+(j+1) by omega]
    simpa [ownB] using this
 | .v t :: r,ls,k,x,own,vs,h,hK,hv,β',σ',hb=>by
  simp only [ownNp] at h
  cases ht:takeL t.sz ls with
  | none=>simp [ht] at h
  | some hh =>
   simp only [ht] at h
   split at h
   ·rename_i y hu
    cases hr:ownNp get m r (dropL t.sz ls) with
    | none=>simp [hr] at h
    | some q =>
     obtain ⟨z,own'⟩:=q
     simp only [hr,Option.some.injEq,Prod.mk.injEq] at h
     obtain ⟨rfl,rfl⟩:=h
     obtain ⟨h1,h2,h3⟩:=hv.take ht
     obtain ⟨v1,v2,e,g1,g2⟩:=Z551 hu h1
     simp only [RLs] at g2
     subst g2
     rw [List.append_nil] at e
     have:=(Z457 (β':=β') (σ':=σ') g1).append (Z348 (k:=k) hr hK (hv.drop (n:=t.sz)) β' σ' hb)
     rw [← e,List.take_append_drop] at this
     exact this
   ·cases h
theorem Z84 {T k:Nat} {np:List Np} {l:Lf} {x:npDen np} {own:List (Option Nat)} {u:Value} (h:ownRec get m T np l=some (x,own)) (hK:∀ b,some b∈own→b < 1000000) (hl:RL I J β σ w l u) :
  Z403 m σ (.var T (npL (k+1) np x).1 :: (npL (k+1) np x).2) own∧∀ (β':Bt) (σ':Sg),(∀ j y,(Box.var T (npL (k+1) np x).1 :: (npL (k+1) np x).2)[j]?=some y→σ' (k+j)=some y∧β' (k+j)=ownB β own j) →
   RL I J β' σ' w (.ref k 0 0 0 0 0) u∧VarsOk I J β σ w (.var T (npL (k+1) np x).1 :: (npL (k+1) np x).2) own β' σ':=by
 unfold ownRec at h
 split at h
 ·rename_i b
  cases hbm:Nat.blt b m with
  | true=>simp [hbm] at h
  | false =>
   simp only [hbm,cond_false] at h
   split at h
   ·rename_i T' cells hx
    cases hT:Nat.beq T T' with
    | false=>simp [hT] at h
    | true =>
     simp only [hT,cond_true] at h
     have hT:=Nat.eq_of_beq_eq_true hT
     subst hT
     split at h
     ·rename_i y own' hn
      simp only [Option.some.injEq,Prod.mk.injEq] at h
      obtain ⟨rfl,rfl⟩:=h
      have hbK:=hK b (by simp)
      rw [← hag b hbK] at hx
      obtain ⟨o1,o2⟩:=Z347 (k:=k+1) hag hn (fun b hb=>hK b (by simp [hb]))
      refine ⟨⟨⟨Z322 hbm,hbK,.inl ⟨_,_,_,hx,rfl⟩⟩,o1⟩,fun β' σ' hb=>?_⟩
      have hrest:∀ j y',(npL (k+1) np y).2[j]?=some y'→σ' (k+1+j)=some y'∧β' (k+1+j)=ownB β own' j:=by
       intro j y' hy
       have:=hb (j+1) y' (by simpa using hy)
       rw [show k+1+j=k+(j+1) by omega]
       simpa [ownB] using this
      have h0:=hb 0 _ rfl
      refine ⟨?_,VarsOk.var (fun c hc vs hv=>?_) ?_⟩
      ·obtain ⟨_,x,hx',h6⟩:=hl
       rw [hx] at hx'
       injection hx' with hx'
       subst hx'
       obtain ⟨blk,h7,h8⟩:=h6
       refine ⟨.inl ⟨rfl,rfl⟩,_,h0.1,blk,?_,h8⟩
       rw [← h7]; exact h0.2
      ·rw [hx] at hc
       injection hc with hc
       injection hc with _ hc
       subst hc
       exact Z348 (k:=k+1) hag hn (fun b hb=>hK b (by simp [hb])) hv β' σ' hrest
      ·intro j T' cs hj
       exact absurd (List.mem_of_getElem? hj) (o2 T' cs)
     ·cases h
   ·cases h
 ·cases h
omit hag
def Low (m:Nat) (β:Bt) (σ:Sg) (β':Bt) (σ':Sg):Prop:=∀ b t xs,b < m→σ b=some (.row 0 t xs)→σ' b=some (.row 0 t xs)∧β' b=β b
theorem Z360:∀ {rp:List Rp} {k:Nat} {x:rpDen rp},(resL k rp x).2.length=newsOf rp
 | [],_,_=>rfl
 | .v _ _ :: r,k,x=>by simp only [resL,newsOf]; exact Z360
 | .pre _ :: r,k,x=>by simp only [resL,newsOf]; exact Z360
 | .new _ :: r,k,x=>by simp only [resL,newsOf,List.length_cons]; rw [Z360]
 | .newp _ :: r,k,x=>by simp only [resL,newsOf,List.length_cons]; rw [Z360]
 | .nvar _ _ :: r,k,x=>by simp only [resL,newsOf,List.length_cons]; rw [Z360]
 | .nrc _ l :: r,k,x=>by
  have np:∀ {l:List Np} {k:Nat} {y:npDen l},(npL k l y).2.length=npNews l:=by
   intro l
   induction l with
   | nil=>intros; rfl
   | cons a l ih =>
    intro k y
    cases a with
    | row t=>simp only [npL,npNews,List.length_cons,ih]
    | pool t=>simp only [npL,npNews,List.length_cons,ih]
    | v t=>simp only [npL,npNews,ih]
  simp only [resL,newsOf,List.length_cons,List.length_append]
  rw [Z360,np]
  omega
theorem Z497:∀ {l:List Np} {k:Nat} {y:npDen l},(npL k l y).2.length=npNews l
 | [],_,_=>rfl
 | .row _ :: r,k,y=>by simp only [npL,npNews,List.length_cons]; rw [Z497]
 | .pool _ :: r,k,y=>by simp only [npL,npNews,List.length_cons]; rw [Z497]
 | .v _ :: r,k,y=>by simp only [npL,npNews]; exact Z497
theorem Z245:∀ {rp:List Rp} {ls:List Lf} {k:Nat} {x:rpDen rp} {own:List (Option Nat)} {us:List Value},retL get m rp ls=some (x,own)→Ag σ get→(∀ b,some b∈own→b < 1000000)→m≤1000000→RLs I J β σ w ls us →
  Z403 m σ (resL k rp x).2 own∧∀ (β':Bt) (σ':Sg),Low m β σ β' σ'→(∀ j y,(resL k rp x).2[j]?=some y→σ' (k+j)=some y∧β' (k+j)=ownB β own j)→RLs I J β' σ' w (resL k rp x).1 us∧VarsOk I J β σ w (resL k rp x).2 own β' σ'
 | [],[],k,x,own,us,h,hag,hK,hm,hl=>by
  simp only [retL,Option.some.injEq,Prod.mk.injEq] at h
  obtain ⟨_,rfl⟩:=h
  exact ⟨trivial,fun _ _ _ _=>⟨hl,VarsOk.nil⟩⟩
 | [],_ :: _,_,_,_,_,h,_,_,_,_=>by simp [retL] at h
 | .v bor t :: r,ls,k,x,own,us,h,hag,hK,hm,hl=>by
  simp only [retL] at h
  cases ht:takeL t.sz ls with
  | none=>simp [ht] at h
  | some hh =>
   simp only [ht] at h
   split at h
   ·rename_i y hu
    cases hr:retL get m r (dropL t.sz ls) with
    | none=>simp [hr] at h
    | some q =>
     obtain ⟨z,own'⟩:=q
     simp only [hr,Option.some.injEq,Prod.mk.injEq] at h
     obtain ⟨rfl,rfl⟩:=h
     obtain ⟨h1,h2,h3⟩:=hl.take ht
     obtain ⟨h4,h5⟩:=Z245 (k:=k) hr hag hK hm (hl.drop (n:=t.sz))
     refine ⟨h4,fun β' σ' hlow hb=>?_⟩
     obtain ⟨v1,v2,e,g1,g2⟩:=Z551 hu h1
     simp only [RLs] at g2
     subst g2
     rw [List.append_nil] at e
     obtain ⟨h6,h7⟩:=h5 β' σ' hlow hb
     have:=(Z457 (β':=β') (σ':=σ') g1).append h6
     rw [← e,List.take_append_drop] at this
     exact ⟨this,h7⟩
   ·cases h
 | .new t :: r,[],_,_,_,_,h,_,_,_,_=>by simp [retL] at h
 | .new t :: r,l :: ls,k,x,own,us,h,hag,hK,hm,hl=>by
  simp only [retL] at h
  cases ho:ownRow get m t l with
  | none=>simp [ho] at h
  | some q =>
   obtain ⟨a,o⟩:=q
   simp only [ho] at h
   cases hr:retL get m r ls with
   | none=>simp [hr] at h
   | some q =>
    obtain ⟨z,own'⟩:=q
    simp only [hr,Option.some.injEq,Prod.mk.injEq] at h
    obtain ⟨rfl,rfl⟩:=h
    obtain ⟨v,rest,rfl,h1,h2⟩:=hl
    have g1:=Z234 hag ho (fun b hb=>hK b (by simp [hb]))
    have g2:=Z349 hag ho (fun b hb=>hK b (by simp [hb])) h1
    obtain ⟨h4,h5⟩:=Z245 (k:=k+1) hr hag (fun b hb=>hK b (by simp [hb])) hm h2
    refine ⟨⟨g1,h4⟩,fun β' σ' hlow hb=>?_⟩
    have h0:=hb 0 _ rfl
    obtain ⟨h6,h7⟩:=h5 β' σ' hlow (fun j y hy=>by
     have:=hb (j+1) y (by simpa [resL] using hy)
     rw [show k+1+j=k+(j+1) by omega]
     simpa [ownB] using this)
    exact ⟨⟨v,rest,rfl,g2 β' σ' k h0.1 h0.2,h6⟩,VarsOk.skip (fun T cs e=>by cases e) h7⟩
 | .nvar T t :: r,[],_,_,_,_,h,_,_,_,_=>by simp [retL] at h
 | .nvar T t :: r,l :: ls,k,x,own,us,h,hag,hK,hm,hl=>by
  simp only [retL] at h
  cases ho:ownVar get m T t l with
  | none=>simp [ho] at h
  | some q =>
   obtain ⟨a,o⟩:=q
   simp only [ho] at h
   cases hr:retL get m r ls with
   | none=>simp [hr] at h
   | some q =>
    obtain ⟨z,own'⟩:=q
    simp only [hr,Option.some.injEq,Prod.mk.injEq] at h
    obtain ⟨rfl,rfl⟩:=h
    obtain ⟨v,rest,rfl,h1,h2⟩:=hl
    obtain ⟨g1,g2⟩:=Z85 hag ho (fun b hb=>hK b (by simp [hb])) h1
    obtain ⟨h4,h5⟩:=Z245 (k:=k+1) hr hag (fun b hb=>hK b (by simp [hb])) hm h2
    refine ⟨⟨g1,h4⟩,fun β' σ' hlow hb=>?_⟩
    have h0:=hb 0 _ rfl
    obtain ⟨h6,h7⟩:=h5 β' σ' hlow (fun j y hy=>by
     have:=hb (j+1) y (by simpa [resL] using hy)
     rw [show k+1+j=k+(j+1) by omega]
     simpa [ownB] using this)
    obtain ⟨g3,g4⟩:=g2 β' σ' k h0.1 h0.2
    exact ⟨⟨v,rest,rfl,g3,h6⟩,VarsOk.append (bs:=[_]) (own:=[_]) rfl g4 h7⟩
 | .pre p :: r,[],_,_,_,_,h,_,_,_,_=>by simp [retL] at h
 | .pre p :: r,l :: ls,k,x,own,us,h,hag,hK,hm,hl=>by
  simp only [retL] at h
  cases ho:preOf get m p l with
  | none=>simp [ho] at h
  | some n =>
   simp only [ho] at h
   cases hr:retL get m r ls with
   | none=>simp [hr] at h
   | some q =>
    obtain ⟨z,own'⟩:=q
    simp only [hr,Option.some.injEq,Prod.mk.injEq] at h
    obtain ⟨rfl,rfl⟩:=h
    obtain ⟨v,rest,rfl,h1,h2⟩:=hl
    obtain ⟨g1,t,xs,g2,g3⟩:=Z144 hag ho hm h1
    obtain ⟨h4,h5⟩:=Z245 (k:=k) hr hag hK hm h2
    refine ⟨h4,fun β' σ' hlow hb=>?_⟩
    obtain ⟨q1,q2⟩:=hlow p t xs g1 g2
    obtain ⟨h6,h7⟩:=h5 β' σ' hlow hb
    exact ⟨⟨v,rest,rfl,g3 β' σ' q1 q2,h6⟩,h7⟩
 | .newp t :: r,[],_,_,_,_,h,_,_,_,_=>by simp [retL] at h
 | .newp t :: r,l :: ls,k,x,own,us,h,hag,hK,hm,hl=>by
  simp only [retL] at h
  cases ho:Z685 get m t l with
  | none=>simp [ho] at h
  | some q =>
   obtain ⟨a,o⟩:=q
   simp only [ho] at h
   cases hr:retL get m r ls with
   | none=>simp [hr] at h
   | some q =>
    obtain ⟨z,own'⟩:=q
    simp only [hr,Option.some.injEq,Prod.mk.injEq] at h
    obtain ⟨rfl,rfl⟩:=h
    obtain ⟨v,rest,rfl,h1,h2⟩:=hl
    have g1:=Z140 hag ho (fun b hb=>hK b (by simp [hb]))
    have g2:=Z233 hag ho (fun b hb=>hK b (by simp [hb])) h1
    obtain ⟨h4,h5⟩:=Z245 (k:=k+1) hr hag (fun b hb=>hK b (by simp [hb])) hm h2
    refine ⟨⟨g1,h4⟩,fun β' σ' hlow hb=>?_⟩
    have h0:=hb 0 _ rfl
    obtain ⟨h6,h7⟩:=h5 β' σ' hlow (fun j y hy=>by
     have:=hb (j+1) y (by simpa [resL] using hy)
     rw [show k+1+j=k+(j+1) by omega]
     simpa [ownB] using this)
    exact ⟨⟨v,rest,rfl,g2 β' σ' k h0.1 h0.2,h6⟩,VarsOk.skip (fun T cs e=>by cases e) h7⟩
 | .nrc T np :: r,[],_,_,_,_,h,_,_,_,_=>by simp [retL] at h
 | .nrc T np :: r,l :: ls,k,x,own,us,h,hag,hK,hm,hl=>by
  simp only [retL] at h
  cases ho:ownRec get m T np l with
  | none=>simp [ho] at h
  | some q =>
   obtain ⟨a,o⟩:=q
   simp only [ho] at h
   cases hr:retL get m r ls with
   | none=>simp [hr] at h
   | some q =>
    obtain ⟨z,own'⟩:=q
    simp only [hr,Option.some.injEq,Prod.mk.injEq] at h
    obtain ⟨rfl,rfl⟩:=h
    obtain ⟨v,rest,rfl,h1,h2⟩:=hl
    obtain ⟨g1,g2⟩:=Z84 (k:=k) hag ho (fun b hb=>hK b (by simp [hb])) h1
    obtain ⟨h4,h5⟩:=Z245 (k:=k+1+npNews np) hr hag (fun b hb=>hK b (by simp [hb])) hm h2
    have hlen:=g1.len
    have hnw:(Box.var T (npL (k+1) np a).1 :: (npL (k+1) np a).2).length=1+npNews np:=by simp only [List.length_cons]; rw [Z497]; omega
    have e:(resL k (.nrc T np :: r) (a,z)).2=(Box.var T (npL (k+1) np a).1 :: (npL (k+1) np a).2)++(resL (k+1+npNews np) r z).2:=rfl
    refine ⟨by rw [e]; exact g1.append h4,fun β' σ' hlow hb=>?_⟩
    rw [e] at hb
    obtain ⟨g3,g4⟩:=g2 β' σ' (fun j y hy=>by
     have hj:j < (Box.var T (npL (k+1) np a).1 :: (npL (k+1) np a).2).length:=(List.getElem?_eq_some_iff.1 hy).1
     have:=hb j y (by rw [List.getElem?_append_left hj]; exact hy)
     rwa [show ownB β (o++own') j=ownB β o j by unfold ownB; rw [List.getElem?_append_left (by omega)]] at this)
    obtain ⟨h6,h7⟩:=h5 β' σ' hlow (fun j y hy=>by
     have:=hb ((1+npNews np)+j) y (by rw [List.getElem?_append_right (by omega),hnw,Nat.add_sub_cancel_left]; exact hy)
     rw [show k+1+npNews np+j=k+(1+npNews np+j) by omega]
     rwa [show ownB β (o++own') (1+npNews np+j)=ownB β own' j by
      unfold ownB; rw [List.getElem?_append_right (by omega),← hlen,hnw,Nat.add_sub_cancel_left]] at this)
    exact ⟨⟨v,rest,rfl,g3,h6⟩,by rw [e]; exact VarsOk.append hlen g4 h7⟩
theorem Z89:∀ {rs:List (Bool×List Rp)} {vs:List (Bool×List Lf)} {k:Nat} {x:rsDen rs} {own:List (Option Nat)} {us:List Value},retAll get m rs vs=some (x,own)→Ag σ get→(∀ b,some b∈own→b < 1000000)→m≤1000000→RT I J β σ w vs us →
  Z403 m σ (resAll k rs x).2 own∧∀ (β':Bt) (σ':Sg),Low m β σ β' σ'→(∀ j y,(resAll k rs x).2[j]?=some y→σ' (k+j)=some y∧β' (k+j)=ownB β own j)→RT I J β' σ' w (resAll k rs x).1 us∧VarsOk I J β σ w (resAll k rs x).2 own β' σ'
 | [],[],k,x,own,us,h,hAg,hK,hm,hl=>by
  simp only [retAll,Option.some.injEq,Prod.mk.injEq] at h
  obtain ⟨_,rfl⟩:=h
  exact ⟨trivial,fun _ _ _ _=>⟨hl,VarsOk.nil⟩⟩
 | [],_ :: _,_,_,_,_,h,_,_,_,_=>by simp [retAll] at h
 | _ :: _,[],_,_,_,_,h,_,_,_,_=>by simp [retAll] at h
 | (ag,rp) :: r,(ag',ls) :: q,k,x,own,us,h,hAg,hK,hm,hl=>by
  simp only [retAll] at h
  cases hag:ag==ag'&&wellL ag' ls with
  | false=>simp [hag] at h
  | true =>
  simp only [hag,cond_true] at h
  rw [Bool.and_eq_true] at hag
  obtain ⟨hag,hwl⟩:=hag
  have hag:=eq_of_beq hag
  subst hag
  cases h1:retL get m rp ls with
  | none=>simp [h1] at h
  | some p =>
   obtain ⟨x1,own1⟩:=p
   simp only [h1] at h
   cases h2:retAll get m r q with
   | none=>simp [h2] at h
   | some p =>
    obtain ⟨x2,own2⟩:=p
    simp only [h2,Option.some.injEq,Prod.mk.injEq] at h
    obtain ⟨rfl,rfl⟩:=h
    obtain ⟨u,us',rfl,h3,h4⟩:=hl
    obtain ⟨h5,h6⟩:=Z89 (k:=k+newsOf rp) h2 hAg (fun b hb=>hK b (by simp [hb])) hm h4
    have key:Z403 m σ (resL k rp x1).2 own1∧∀ (β':Bt) (σ':Sg),Low m β σ β' σ'→(∀ j y,(resL k rp x1).2[j]?=some y→σ' (k+j)=some y∧β' (k+j)=ownB β own1 j)→RP I J β' σ' w (ag,(resL k rp x1).1) u∧VarsOk I J β σ w (resL k rp x1).2 own1 β' σ':=by
     cases ag with
     | true =>
      obtain ⟨vs,rfl,h7⟩:=h3
      obtain ⟨h8,h9⟩:=Z245 (k:=k) h1 hAg (fun b hb=>hK b (by simp [hb])) hm h7
      exact ⟨h8,fun β' σ' hlow hb=>⟨⟨vs,rfl,(h9 β' σ' hlow hb).1⟩,(h9 β' σ' hlow hb).2⟩⟩
     | false =>
      match ls,h3,h1,hwl with
      | [x],h3,h1,hwl =>
       obtain ⟨h8,h9⟩:=Z245 (k:=k) (us:=[u]) h1 hAg (fun b hb=>hK b (by simp [hb])) hm ⟨u,[],rfl,h3,rfl⟩
       refine ⟨h8,fun β' σ' hlow hb=>?_⟩
       obtain ⟨this,hvo⟩:=h9 β' σ' hlow hb
       refine ⟨?_,hvo⟩
       match (resL k rp x1).1,this with
       | [],_=>exact trivial
       | [y],this=>obtain ⟨v,rest,e,h7,_⟩:=this; injection e with e _; subst e; exact h7
       | _ :: _ :: _,_=>exact trivial
      | [],_,_,hwl=>simp [wellL] at hwl
      | _ :: _ :: _,_,_,hwl=>simp [wellL] at hwl
    obtain ⟨h7,h8⟩:=key
    have hlen:=h7.len
    have hnw:(resL k rp x1).2.length=newsOf rp:=Z360
    refine ⟨h7.append h5,fun β' σ' hlow hb=>?_⟩
    obtain ⟨a1,a2⟩:=h8 β' σ' hlow (fun j y hy=>by
     have hj:j < (resL k rp x1).2.length:=(List.getElem?_eq_some_iff.1 hy).1
     have:=hb j y (by simp only [resAll]; rw [List.getElem?_append_left hj]; exact hy)
     rwa [show ownB β (own1++own2) j=ownB β own1 j by
      unfold ownB; rw [List.getElem?_append_left (by omega)]] at this)
    obtain ⟨b1,b2⟩:=h6 β' σ' hlow (fun j y hy=>by
     have:=hb ((resL k rp x1).2.length+j) y (by simp only [resAll]; rw [List.getElem?_append_right (by omega)]; simpa using hy)
     rw [hnw] at this
     rw [show k+newsOf rp+j=k+(newsOf rp+j) by omega]
     rwa [show ownB β (own1++own2) (newsOf rp+j)=ownB β own2 j by
      unfold ownB; rw [List.getElem?_append_right (by omega),← hlen,hnw,Nat.add_sub_cancel_left]] at this)
    exact ⟨⟨u,us',rfl,a1,b1⟩,VarsOk.append hlen a2 b2⟩
theorem Z225:∀ {own:List (Option Nat)},nodup own=true→∀ {i j b:Nat},own[i]?=some (some b)→own[j]?=some (some b)→i=j
 | [],_,i,j,b,hi,_=>by simp at hi
 | o :: r,h,i,j,b,hi,hj=>by
  have hr:nodup r=true:=by
   cases o with
   | none=>exact h
   | some c=>simp only [nodup,Bool.and_eq_true] at h; exact h.2
  have hno:o=some b→∀ k:Nat,r[k]?=some (some b)→False:=by
   rintro rfl k hk
   simp only [nodup,Bool.and_eq_true,Bool.not_eq_true'] at h
   have:=List.any_eq_false.1 h.1 (some b) (List.mem_of_getElem? hk)
   simp [Nat.beq_refl] at this
  cases i with
  | zero =>
   cases j with
   | zero=>rfl
   | succ j =>
    simp only [List.getElem?_cons_zero,List.getElem?_cons_succ,Option.some.injEq] at hi hj
    exact (hno hi j hj).elim
  | succ i =>
   cases j with
   | zero =>
    simp only [List.getElem?_cons_zero,List.getElem?_cons_succ,Option.some.injEq] at hi hj
    exact (hno hj i hi).elim
   | succ j =>
    simp only [List.getElem?_cons_succ] at hi hj
    rw [Z225 hr hi hj]
end
end Go.Abs
