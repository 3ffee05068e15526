import Derived.Test.YtbapchkhohnncaaGreatDoorOpS
set_option linter.unusedSimpArgs false
set_option linter.unusedSectionVars false
set_option linter.unusedVariables false
namespace Go.Abs
def setE (env:Nat→PV) (d:Option Tmp) (v:PV):Nat→PV:=fun t=>match d with | some t'=>if t=t' then v else env t | none=>env t
def valE (env:Nat→PV):Operand→PV
 | .tmp t=>env t
 | .const v=>constV v
 | .func f=>.one (.clos f [])
 | .global _=>.one .dead
def Repr (F:Fr) (N:Nat) (env:Nat→PV) (σ:Sg) (a:Act) (w:World):Prop :=
 a.defers=[]∧N≤a.tmps.size∧∃ I β,Inv F I β (ex σ) w∧∀ t,RV I F.J β (ex σ) w (env t) (a.tmps.getD t undef)
structure Rc where
 dst:Option Tmp
 v:PV
 upd:List (Nat×Box)
 looks:List Nat
 rd:List Nat
 env0:Nat→PV
 σ0:Sg
def Rc.pre (r:Rc) (env:Nat→PV) (σ:Sg):Prop:=(∀ t∈r.looks,env t=r.env0 t)∧∀ b∈r.rd,σ b=r.σ0 b
def Rc.ok (P:Program) (F:Fr) (N:Nat) (ops:Array Oper) (Q:Exit→Act→World→Prop) (i:Nat) (r:Rc):Prop :=
 ∀ env σ a w (K:Act→World→Prop),Repr F N env σ a w→r.pre env σ→(∀ a' w',Repr F N (setE env r.dst r.v) (updF r.upd σ) a' w'→K a' w')→wpOp P ops Q i K a w
theorem Z727 {u:List (Nat×Box)} {σ:Sg} {b:Nat}:updF u σ b=(match (u.find? fun p=>p.1==b) with | some p=>some p.2 | none=>σ b):=by
 induction u with
 | nil=>rfl
 | cons p r ih =>
  obtain ⟨c,x⟩:=p
  simp only [updF,List.find?_cons]
  by_cases h:c=b
  ·subst h; simp [setF]
  ·have:(c==b)=false:=by simpa using h
   rw [Z712 _ _ (fun e=>h e.symm),ih,this]
theorem Z268 {u:List (Nat×Box)} {σ:Sg} {b:Nat} (h:b ∉ u.map (·.1)):updF u σ b=σ b:=by
 induction u with
 | nil=>rfl
 | cons p r ih =>
  obtain ⟨c,x⟩:=p
  simp only [List.map_cons,List.mem_cons,not_or] at h
  simp only [updF]
  rw [Z712 _ _ h.1]
  exact ih h.2
theorem Z728 {u:List (Nat×Box)} {σ σ':Sg} {b:Nat} (h:b∈u.map (·.1)):updF u σ b=updF u σ' b:=by
 induction u with
 | nil=>cases h
 | cons p r ih =>
  obtain ⟨c,x⟩:=p
  simp only [updF]
  by_cases e:b=c
  ·subst e; simp
  ·rw [Z712 _ _ e,Z712 _ _ e]
   simp only [List.map_cons,List.mem_cons] at h
   exact ih (h.resolve_left e)
theorem Z393 {u u':List (Nat×Box)} {σ:Sg} (h:∀ b∈u.map (·.1),b ∉ u'.map (·.1)):updF u (updF u' σ)=updF u' (updF u σ):=by
 funext b
 by_cases h1:b∈u.map (·.1)
 ·rw [Z268 (h b h1),Z728 h1]
 ·by_cases h2:b∈u'.map (·.1)
  ·rw [Z268 h1,Z728 h2]
  ·rw [Z268 h1,Z268 h2,Z268 h2,Z268 h1]
theorem Z366 {env:Nat→PV} {d d':Option Tmp} {v v':PV} (h:∀ t,d=some t→d'≠some t):setE (setE env d v) d' v'=setE (setE env d' v') d v:=by
 funext t
 cases d with
 | none=>cases d' <;> simp [setE]
 | some x =>
  cases d' with
  | none=>simp [setE]
  | some y =>
   have:x≠y:=fun e=>h x rfl (by rw [e])
   simp only [setE]
   by_cases h1:t=x <;> by_cases h2:t=y <;> simp [h1,h2]
   ·exact absurd (h1.symm.trans h2) this
   ·intro e; exact absurd e this
   ·intro e; exact absurd e.symm this
theorem Z251 {env:Nat→PV} {d:Option Tmp} {v:PV} {t:Nat} (h:d≠some t):setE env d v t=env t:=by
 cases d with
 | none=>rfl
 | some x=>simp only [setE]; rw [if_neg (fun e=>h (by rw [e]))]
structure Apart (r s:Rc):Prop where
 d1:∀ t,r.dst=some t→t ∉ s.looks
 d2:∀ t,s.dst=some t→t ∉ r.looks
 d3:∀ t,r.dst=some t→s.dst≠some t
 b1:∀ b∈r.upd.map (·.1),b ∉ s.rd
 b2:∀ b∈s.upd.map (·.1),b ∉ r.rd
 b3:∀ b∈r.upd.map (·.1),b ∉ s.upd.map (·.1)
theorem Apart.pre1 {r s:Rc} (h:Apart r s) {env:Nat→PV} {σ:Sg} (hp:s.pre (setE env r.dst r.v) (updF r.upd σ)):s.pre env σ :=
 ⟨fun t ht=>by rw [← hp.1 t ht,Z251 (fun e=>h.d1 t e ht)],fun b hb=>by rw [← hp.2 b hb,Z268 (fun e=>h.b1 b e hb)]⟩
theorem Apart.pre2 {r s:Rc} (h:Apart r s) {env:Nat→PV} {σ:Sg} (hp:r.pre env σ):r.pre (setE env s.dst s.v) (updF s.upd σ) :=
 ⟨fun t ht=>by rw [← hp.1 t ht,Z251 (fun e=>h.d2 t e ht)],fun b hb=>by rw [← hp.2 b hb,Z268 (fun e=>h.b2 b e hb)]⟩
section
variable (r:Nat→Rc)
def chain:List Nat→(Nat→PV)→Sg→Prop
 | [],_,_=>True
 | i :: l,env,σ=>(r i).pre env σ∧chain l (setE env (r i).dst (r i).v) (updF (r i).upd σ)
def finE:List Nat→(Nat→PV)→(Nat→PV)
 | [],env=>env
 | i :: l,env=>finE l (setE env (r i).dst (r i).v)
def finS:List Nat→Sg→Sg
 | [],σ=>σ
 | i :: l,σ=>finS l (updF (r i).upd σ)
variable {r}
theorem Z186 {i:Nat}:∀ {l:List Nat} {env:Nat→PV} {σ:Sg},l.Pairwise (· < ·)→i∈l→(∀ j∈l,j < i→Apart (r j) (r i))→chain r l env σ →
  (r i).pre env σ∧chain r (l.filter (· != i)) (setE env (r i).dst (r i).v) (updF (r i).upd σ) ∧
  finE r (l.filter (· != i)) (setE env (r i).dst (r i).v)=finE r l env∧finS r (l.filter (· != i)) (updF (r i).upd σ)=finS r l σ
 | j :: l,env,σ,hp,hi,ha,hc=>by
  rw [List.pairwise_cons] at hp
  by_cases e:j=i
  ·subst e
   have hf:(j :: l).filter (· != j)=l:=by
    rw [List.filter_cons_of_neg (by simp)]
    exact List.filter_eq_self.2 fun k hk=>by have:=hp.1 k hk; simp; omega
   rw [hf]
   exact ⟨hc.1,hc.2,rfl,rfl⟩
  ·have hi':i∈l:=(List.mem_cons.1 hi).resolve_left (fun h=>e h.symm)
   have hlt:j < i:=hp.1 i hi'
   have hA:=ha j (by simp) hlt
   obtain ⟨h1,h2,h3,h4⟩:=Z186 hp.2 hi' (fun k hk=>ha k (by simp [hk])) hc.2
   have hf:(j :: l).filter (· != i)=j :: l.filter (· != i):=List.filter_cons_of_pos (by simpa using e)
   have hcE:=Z366 (env:=env) (d:=(r j).dst) (d':=(r i).dst) (v:=(r j).v) (v':=(r i).v) hA.d3
   have hcS:=Z393 (σ:=σ) (u:=(r j).upd) (u':=(r i).upd) hA.b3
   rw [hf]
   refine ⟨hA.pre1 h1,⟨hA.pre2 hc.1,?_⟩,?_,?_⟩
   ·rw [← hcE,hcS]; exact h2
   ·simp only [finE]; rw [← hcE]; exact h3
   ·simp only [finS]; rw [hcS]; exact h4
end
theorem Z264 {a b:Nat} {j:Nat} (h:(a ||| b).testBit j=true):a.testBit j=true∨b.testBit j=true:=by
 rw [Nat.testBit_or] at h; simpa using h
theorem Z304 {acc:List Nat}:∀ {es:List Nat} {s j:Nat},(es.foldl (fun s e=>s ||| 2 ^ e ||| acc.getD e 0) s).testBit j=true →
  s.testBit j=true∨∃ e∈es,e=j∨(acc.getD e 0).testBit j=true
 | [],s,j,h=>.inl h
 | e :: es,s,j,h=>by
  rw [List.foldl_cons] at h
  rcases Z304 h with h | ⟨e',he,h⟩
  ·rcases Z264 h with h | h
   ·rcases Z264 h with h | h
    ·exact .inl h
    ·refine .inr ⟨e,by simp,.inl ?_⟩
     rw [Nat.testBit_two_pow] at h
     simpa using h
   ·exact .inr ⟨e,by simp,.inr h⟩
  ·exact .inr ⟨e',by simp [he],h⟩
theorem Z273:∀ (ops:List Oper) (acc:List Nat),∃ rest,Z415 ops acc=acc++rest∧rest.length=ops.length ∧
  ∀ k o,ops[k]?=some o→∀ j,(rest.getD k 0).testBit j=true→∃ e∈Z610 o,e=j∨((acc++rest).getD e 0).testBit j=true
 | [],acc=>⟨[],by simp [Z415],rfl,fun k o h=>by simp at h⟩
 | x :: ops,acc=>by
  obtain ⟨rest,h1,h2,h3⟩:=Z273 ops (acc++[(Z610 x).foldl (fun s e=>s ||| 2 ^ e ||| acc.getD e 0) 0])
  refine ⟨(Z610 x).foldl (fun s e=>s ||| 2 ^ e ||| acc.getD e 0) 0 :: rest,by rw [Z415,h1]; simp,by simp [h2],?_⟩
  intro k o hk j hj
  cases k with
  | zero =>
   simp only [List.getElem?_cons_zero,Option.some.injEq] at hk
   subst hk
   simp only [List.getD_cons_zero] at hj
   rcases Z304 hj with h | ⟨e,he,h⟩
   ·simp at h
   ·refine ⟨e,he,h.imp id fun h=>?_⟩
    have hlt:e < acc.length:=by
     rcases Nat.lt_or_ge e acc.length with h' | h'
     ·exact h'
     ·rw [List.getD_eq_getElem?_getD,List.getElem?_eq_none h'] at h; simp at h
    rw [List.getD_eq_getElem?_getD,List.getElem?_append_left hlt,← List.getD_eq_getElem?_getD]
    exact h
  | succ k =>
   simp only [List.getElem?_cons_succ] at hk
   simp only [List.getD_cons_succ] at hj
   obtain ⟨e,he,h⟩:=h3 k o hk j hj
   refine ⟨e,he,h.imp id fun h=>?_⟩
   simpa using h
def Closed (l:List Oper) (listed:Array Bool):Prop:=∀ k,listed.getD k false=true→∀ i,(((Z415 l []).getD k 0).testBit i=true)→listed.getD i false=true
theorem Z577 {l:List Oper} {k:Nat} {o:Oper} (hk:l[k]?=some o) {j:Nat} (h:((Z415 l []).getD k 0).testBit j=true) :
  ∃ e∈Z610 o,e=j∨((Z415 l []).getD e 0).testBit j=true:=by
 obtain ⟨rest,h1,_,h3⟩:=Z273 l []
 rw [h1] at h ⊢
 exact h3 k o hk j (by simpa using h)
theorem Z298 {o:Oper} {e:Edge} (he:e∈o.after) (hb:Region.binds .any e=true):e.on∈Z610 o :=
 List.mem_filterMap.2 ⟨e,by simpa using he,by simp [hb]⟩
theorem Z329 {o:Oper} {j:Nat} (h:j∈Z610 o):∃ e∈o.after,Region.binds .any e=true∧e.on=j:=by
 obtain ⟨e,he,h⟩:=List.mem_filterMap.1 h
 cases hb:Region.binds .any e with
 | false=>simp [hb] at h
 | true=>exact ⟨e,by simpa using he,hb,by simpa [hb] using h⟩
theorem Z192:∀ {l:List Oper} {i k:Nat} {o:Oper},Z609 i l=true→l[k]?=some o→∀ e∈Z610 o,e < i+k
 | [],i,k,o,_,h=>by simp at h
 | x :: l,i,0,o,h,hk=>by
  simp only [List.getElem?_cons_zero,Option.some.injEq] at hk
  subst hk
  simp only [Z609,Bool.and_eq_true,List.all_eq_true] at h
  intro e he
  simpa using h.1 e he
 | x :: l,i,k+1,o,h,hk=>by
  simp only [List.getElem?_cons_succ] at hk
  simp only [Z609,Bool.and_eq_true] at h
  intro e he
  have:=Z192 h.2 hk e he
  omega
section
variable {P:Program} {F:Fr} {N:Nat} {ops:Array Oper} {Q:Exit→Act→World→Prop} {r:Nat→Rc}
theorem Z198 {n i:Nat} {listed:Array Bool} (hs:listed.size=n) (hi:i < n) :
  (List.range n).filter (fun k=>!(listed.setIfInBounds i true).getD k true)=((List.range n).filter (fun k=>!listed.getD k true)).filter (· != i):=by
 rw [List.filter_filter]
 apply List.filter_congr
 intro k hk
 have hk:=List.mem_range.1 hk
 by_cases e:k=i
 ·subst e
  simp [hs,hk]
 ·rw [getD_set_ne true (fun h=>e h.symm)]
  simp [e]
theorem Z30 (n:Nat):(List.range n).Pairwise (· < ·):=List.pairwise_lt_range
theorem any_ok (hok:∀ i,i < ops.size→Rc.ok P F N ops Q i (r i))
  (hpair:∀ i j,i < j→j < ops.size→((Z415 ops.toList []).getD j 0).testBit i=true∨Apart (r i) (r j))
  (hearly:Z609 0 ops.toList=true) :
  ∀ (fuel:Nat) (listed:Array Bool) (env:Nat→PV) (σ:Sg) (a:Act) (w:World),listed.size=ops.size→Closed ops.toList listed →
   ((List.range ops.size).filter fun i=>!listed.getD i true).length≤fuel →
   Repr F N env σ a w→chain r ((List.range ops.size).filter fun i=>!listed.getD i true) env σ →
   (∀ a' w',Repr F N (finE r ((List.range ops.size).filter fun i=>!listed.getD i true) env) (finS r ((List.range ops.size).filter fun i=>!listed.getD i true) σ) a' w'→Q .normal a' w') →
   wpAny P .any ops Q fuel listed a w:=by
 have hmin:∀ (listed:Array Bool),listed.size=ops.size→Region.ready .any ops listed=[]→(List.range ops.size).filter (fun i=>!listed.getD i true)=[]:=by
  intro listed hs hr
  cases hL:(List.range ops.size).filter (fun i=>!listed.getD i true) with
  | nil=>rfl
  | cons i L =>
   exfalso
   have hp:((List.range ops.size).filter (fun i=>!listed.getD i true)).Pairwise (· < ·):=(Z30 _).filter _
   rw [hL,List.pairwise_cons] at hp
   have hi:i∈(List.range ops.size).filter (fun i=>!listed.getD i true):=by rw [hL]; simp
   rw [List.mem_filter,List.mem_range] at hi
   have hir:i∈Region.ready .any ops listed:=by
    rw [mem_ready]
    refine ⟨by simpa using hi.2,ops[i]'hi.1,by simp,?_⟩
    intro e he hb
    have hlt:=Z192 hearly (k:=i) (o:=ops[i]'hi.1) (by simp) e.on (Z298 he hb)
    rw [Nat.zero_add] at hlt
    cases hd:listed.getD e.on false with
    | true=>rfl
    | false =>
     exfalso
     have hlt':e.on < ops.size:=Nat.lt_trans hlt hi.1
     have:e.on∈(List.range ops.size).filter (fun i=>!listed.getD i true):=by
      rw [List.mem_filter,List.mem_range]
      refine ⟨hlt',?_⟩
      have hb2:e.on < listed.size:=by omega
      simp [hb2] at hd ⊢
      exact hd
     rw [hL] at this
     rcases List.mem_cons.1 this with h | h
     ·omega
     ·have:=hp.1 _ h; omega
   rw [hr] at hir
   cases hir
 intro fuel
 induction fuel with
 | zero =>
  intro listed env σ a w hs hc hf hR hch hK
  have hL:(List.range ops.size).filter (fun i=>!listed.getD i true)=[]:=List.length_eq_zero_iff.1 (by omega)
  refine ⟨?_,?_⟩
  ·apply List.filter_eq_nil_iff.2
   intro i hi
   have:=List.filter_eq_nil_iff.1 hL i hi
   simp only [Bool.and_eq_true,not_and]
   intro h; exact absurd h this
  ·rw [hL] at hK
   exact hK a w hR
 | succ fuel ih =>
  intro listed env σ a w hs hc hf hR hch hK
  refine ⟨fun hr=>?_,fun i hir=>?_⟩
  ·rw [hmin listed hs hr] at hK
   exact hK a w hR
  ·rw [mem_ready] at hir
   obtain ⟨h0,o,ho,hall⟩:=hir
   have hi:i < ops.size:=(Array.getElem?_eq_some_iff.1 ho).1
   have hmem:i∈(List.range ops.size).filter (fun i=>!listed.getD i true):=by
    rw [List.mem_filter,List.mem_range]; exact ⟨hi,by simp [h0]⟩
   have hbits:∀ k,((Z415 ops.toList []).getD i 0).testBit k=true→listed.getD k false=true:=by
    intro k hk
    obtain ⟨e,he,h⟩:=Z577 (l:=ops.toList) (k:=i) (o:=o) (by simpa using ho) hk
    obtain ⟨e',he',hb,rfl⟩:=Z329 he
    have hl:=hall e' he' hb
    rcases h with rfl | h
    ·exact hl
    ·exact hc _ hl _ h
   have hap:∀ j∈(List.range ops.size).filter (fun i=>!listed.getD i true),j < i→Apart (r j) (r i):=by
    intro j hj hlt
    rw [List.mem_filter,List.mem_range] at hj
    rcases hpair j i hlt hi with h | h
    ·have:=hbits j h
     have hj2:=hj.2
     have hb2:j < listed.size:=by omega
     simp [hb2] at this hj2
     rw [this] at hj2; cases hj2
    ·exact h
   obtain ⟨h1,h2,h3,h4⟩:=Z186 ((Z30 _).filter _) hmem hap hch
   refine hok i hi env σ a w _ hR h1 ?_
   intro a' w' hR'
   have hfs:=Z198 (listed:=listed) hs hi
   refine ih _ _ _ a' w' (by simpa using hs) ?_ ?_ hR' ?_ ?_
   ·intro k hk j hj
    by_cases e:k=i
    ·subst e; exact getD_set_true (hbits j hj)
    ·rw [getD_set_ne false (fun h=>e h.symm)] at hk
     exact getD_set_true (hc k hk j hj)
   ·rw [hfs]
    have:(((List.range ops.size).filter (fun k=>!listed.getD k true)).filter (· != i)).length < ((List.range ops.size).filter (fun k=>!listed.getD k true)).length:=by
     apply List.length_filter_lt_length_iff_exists.2
     exact ⟨i,hmem,by simp⟩
    omega
   ·rw [hfs]; exact h2
   ·rw [hfs,h3,h4]; exact hK
theorem seq_ok (hok:∀ i,i < ops.size→Rc.ok P F N ops Q i (r i)):∀ (n k:Nat) (env:Nat→PV) (σ:Sg) (a:Act) (w:World),k+n=ops.size →
  Repr F N env σ a w→chain r (List.range' k n) env σ →
  (∀ a' w',Repr F N (finE r (List.range' k n) env) (finS r (List.range' k n) σ) a' w'→Q .normal a' w')→wpOps P ops Q (List.range' k n) a w
 | 0,k,env,σ,a,w,_,hR,_,hK=>hK a w hR
 | n+1,k,env,σ,a,w,hn,hR,hch,hK=>by
  rw [List.range'_succ] at hch hK ⊢
  rw [wpOps_cons]
  refine hok k (by omega) env σ a w _ hR hch.1 ?_
  intro a' w' hR'
  exact seq_ok hok n (k+1) _ _ a' w' (by omega) hR' hch.2 hK
theorem Z359 {id:Nat} {draw:Bool} (hm:P.follows .mixedOrders=true) (hok:∀ i,i < ops.size→Rc.ok P F N ops Q i (r i))
  (hord:draw=true→Z609 0 ops.toList=true∧∀ i j,i < j→j < ops.size→((Z415 ops.toList []).getD j 0).testBit i=true∨Apart (r i) (r j))
  {env:Nat→PV} {σ:Sg} {a:Act} {w:World} (hR:Repr F N env σ a w) (hch:chain r (List.range ops.size) env σ)
  (hK:∀ a' w',Repr F N (finE r (List.range ops.size) env) (finS r (List.range ops.size) σ) a' w'→Q .normal a' w') :
  (Code.region id ops draw).wp P Q a w:=by
 cases draw with
 | false =>
  apply wp_region
  rw [List.range_eq_range'] at hch hK ⊢
  exact seq_ok hok ops.size 0 env σ a w (by omega) hR hch hK
 | true =>
  obtain ⟨h1,h2⟩:=hord rfl
  apply wp_region_any hm
  have hfil:(List.range ops.size).filter (fun i=>!(Array.replicate ops.size false).getD i true)=List.range ops.size:=by
   apply List.filter_eq_self.2
   intro i hi
   have:=List.mem_range.1 hi
   simp [this]
  refine any_ok hok h2 h1 ops.size _ env σ a _ (by simp) ?_ ?_ ?_ ?_ ?_
  ·intro k hk
   simp only [Array.getD_eq_getD_getElem?,Array.getElem?_replicate] at hk
   split at hk <;> simp at hk
  ·exact Nat.le_trans (List.length_filter_le _ _) (by simp)
  ·obtain ⟨g1,g2,I,β,g3,g4⟩:=hR
   obtain ⟨g5,g6⟩:=g3.step (.drew _ w (w.drawn+1))
   exact ⟨g1,g2,I,β,g5,fun t=>g6.rv (g4 t)⟩
  ·rw [hfil]; exact hch
  ·rw [hfil]; exact hK
end
end Go.Abs
