import Derived.Test.YtbapchkhohnncaaGreatDoorOpB
import Derived.Laws.BytesString
set_option linter.unusedSimpArgs false
set_option linter.unusedSectionVars false
set_option linter.unusedVariables false
namespace Go.Abs
section
variable {P:Program} {F:Fr} {I:Rg} {β:Bt} {σ:Sg} {w:World} {ty:Nat→Option TyI}
theorem Z666 (h:Inv F I β σ w) {b:Nat} (hb:σ b=none) {C:Array Value} {E:TypeId} {x':Box} {w1:World} (hw1:WStep (fun _=>False) w w1) (hn:w1.heap.size=w.heap.size)
  (hrb:Ext F.J I β σ w I (setB β b (some (w.heap.size,0))) (setF σ b x') (w1.alloc (.cells C E)) →
   RB I F.J (setB β b (some (w.heap.size,0))) (setF σ b x') (w1.alloc (.cells C E)) b x') :
  Inv F I (setB β b (some (w.heap.size,0))) (setF σ b x') (w1.alloc (.cells C E)) ∧
  Ext F.J I β σ w I (setB β b (some (w.heap.size,0))) (setF σ b x') (w1.alloc (.cells C E)) :=
 h.change (b:=b) (x':=x') (bv:=some (w.heap.size,0)) (own:=fun _=>False) (hw1.trans (WStep.alloc _ _ _)) (fun _ h=>h.elim)
  (fun x hx=>by rw [hb] at hx; cases hx) (fun k o hk=>by injection hk with hk; injection hk with hk _; subst hk; exact .inl (Nat.le_refl _)) hrb
theorem Z293 (h:Inv F I β σ w) {T:TypeId} {b:Nat} {ls:List Lf} {us:List Value} (hb:σ b=none) (hl:RLs I F.J β σ w ls us) :
  ∃ w' I' β',(do Pure.pure (Value.pointer (some (← newRow T us.toArray))):Sem Value).run P w=.ok (.pointer (some ⟨w.heap.size,0,none⟩)) w' ∧
   Inv F I' β' (setF σ b (.var T ls)) w'∧Ext F.J I β σ w I' β' (setF σ b (.var T ls)) w'∧RV I' F.J β' (setF σ b (.var T ls)) w' (.one (.ref b 0 0 0 0 0)) (.pointer (some ⟨w.heap.size,0,none⟩)):=by
 have hch:=Z666 h hb (C:=us.toArray) (E:=T) (x':=.var T ls) (WStep.refl _ w) rfl
  (fun hE=>⟨w.heap.size,us,by simp,heap_alloc_new w _,hE.rls hl⟩)
 exact ⟨_,I,_,by simp [newRow],hch.1,hch.2,.inl ⟨rfl,rfl⟩,.var T ls,by simp,w.heap.size,by simp,rfl⟩
def Z560 {α:Type} (n:Nat) (rd:α→List Value→Prop) (xs:List α) (cs:List Value):Prop :=
 cs.length=xs.length*n∧∀ (i:Nat) (x:α),xs[i]?=some x→∃ vs,rd x vs∧vs.length=n∧∀ (j:Nat) (v:Value),vs[j]?=some v→cs[i*n+j]?=some v
theorem Z560.mono {α:Type} {n:Nat} {rd rd':α→List Value→Prop} {xs:List α} {cs:List Value} (h:Z560 n rd xs cs) (hr:∀ x vs,rd x vs→rd' x vs):Z560 n rd' xs cs :=
 ⟨h.1,fun i x hx=>let ⟨vs,h1,h2,h3⟩:=h.2 i x hx; ⟨vs,hr x vs h1,h2,h3⟩⟩
theorem Z560.nil {α:Type} {n:Nat} {rd:α→List Value→Prop}:Z560 n rd [] []:=⟨by simp,fun i x hx=>by simp at hx⟩
theorem Z560.append {α:Type} {n:Nat} {rd:α→List Value→Prop} {xs ys:List α} {cs ds:List Value} (h:Z560 n rd xs cs) (h':Z560 n rd ys ds):Z560 n rd (xs++ys) (cs++ds):=by
 refine ⟨by simp [h.1,h'.1,Nat.add_mul],?_⟩
 intro i x hx
 rw [List.getElem?_append] at hx
 split at hx
 ·rename_i hi
  obtain ⟨vs,h1,h2,h3⟩:=h.2 i x hx
  refine ⟨vs,h1,h2,fun j v hv=>?_⟩
  have:=h3 j v hv
  rw [List.getElem?_append_left]
  ·exact this
  ·rcases Nat.lt_or_ge (i*n+j) cs.length with h' | h'
   ·exact h'
   ·rw [List.getElem?_eq_none h'] at this; cases this
 ·rename_i hi
  obtain ⟨vs,h1,h2,h3⟩:=h'.2 _ x hx
  refine ⟨vs,h1,h2,fun j v hv=>?_⟩
  have:=h3 j v hv
  have e:i*n=xs.length*n+(i - xs.length)*n:=by rw [← Nat.add_mul]; congr 1; omega
  rw [List.getElem?_append_right (by rw [h.1,e]; omega),h.1,show i*n+j - xs.length*n=(i - xs.length)*n+j by omega]
  exact this
theorem Z560.one {α:Type} {n:Nat} {rd:α→List Value→Prop} {x:α} {vs:List Value} (h:rd x vs) (hl:vs.length=n):Z560 n rd [x] vs:=by
 refine ⟨by simp [hl],?_⟩
 intro i y hy
 cases i with
 | zero=>simp at hy; subst hy; exact ⟨vs,h,hl,fun j v hv=>by simpa using hv⟩
 | succ i=>simp at hy
theorem RowAt.cells {α:Type} {K:Rg} {n:Nat} {rd:α→List Value→Prop}:∀ {xs:List α} {a:Addr},RowAt K n rd w xs a →
  ∃ cs,Z560 n rd xs cs∧∀ (j:Nat) (v:Value),cs[j]?=some v→w.cell? ⟨a.block,a.off+j,none⟩=some v
 | [],a,_=>⟨[],.nil,fun j v hv=>by simp at hv⟩
 | x :: r,a,h=>by
  obtain ⟨vs,h1,h2,h3⟩:=h 0 x rfl
  have hr:RowAt K n rd w r ⟨a.block,a.off+n,none⟩:=by
   intro i y hy
   obtain ⟨us,h4,h5,h6⟩:=h (i+1) y (by simpa using hy)
   refine ⟨us,h4,h5,fun j v hv=>?_⟩
   have:=h6 j v hv
   rw [show a.off+(i+1)*n+j=a.off+n+i*n+j by rw [Nat.succ_mul]; omega] at this
   exact this
  obtain ⟨cs,h4,h5⟩:=RowAt.cells hr
  refine ⟨vs++cs,Z560.append (xs:=[x]) (.one h1 h2) h4,?_⟩
  intro j v hv
  rw [List.getElem?_append] at hv
  split at hv
  ·have:=(h3 j v hv).2
   simpa using this
  ·have:=h5 _ v hv
   rw [show a.off+n+(j - vs.length)=a.off+j by omega] at this
   exact this
theorem rd_one {t:Tc} {xs:List t.den} {cs:List Value} (h:Z560 t.sz (RD I w t) xs cs):∀ v∈cs,v.oneCell'=true:=by
 intro v hv
 obtain ⟨k,hk⟩:=List.mem_iff_getElem?.1 hv
 have hlt:k < cs.length:=by
  rcases Nat.lt_or_ge k cs.length with h' | h'
  ·exact h'
  ·rw [List.getElem?_eq_none h'] at hk; cases hk
 rw [h.1] at hlt
 have hz:0 < t.sz:=by
  rcases Nat.eq_zero_or_pos t.sz with h' | h'
  ·rw [h'] at hlt; simp at hlt
  ·exact h'
 have hi:k / t.sz < xs.length:=(Nat.div_lt_iff_lt_mul hz).2 hlt
 obtain ⟨vs,h1,h2,h3⟩:=h.2 (k / t.sz) _ (List.getElem?_eq_getElem hi)
 have hm:k % t.sz < vs.length:=by rw [h2]; exact Nat.mod_lt _ hz
 have:=h3 (k % t.sz) _ (List.getElem?_eq_getElem hm)
 rw [show k / t.sz*t.sz+k % t.sz=k by rw [Nat.mul_comm]; exact Nat.div_add_mod k t.sz] at this
 rw [hk] at this
 injection this with this
 rw [this,← Z458]
 exact h1.flat _ (List.getElem_mem hm)
theorem Z119 (h:Inv F I β σ w) {get:Nat→Option Box} {l:Lf} {t:Tc} {ys:List t.den} {u:Value} (hc:Z596 get l=some ⟨t,ys⟩) (hg:∀ b∈rdOf l,σ b=get b)
  (hl:RL I F.J β σ w l u):∃ A c,u=.slice A ys.length c∧(ys=[]∨∃ a:Addr,A=some a∧a.spot=none∧RowAt (fun _ _=>True) t.sz (RD I w t) w ys a):=by
 cases l with
 | list bor t' xs =>
  simp only [Z596] at hc
  cases hbf:!bor||Abs.flatT t' with
  | false=>rw [hbf] at hc; cases hc
  | true =>
  rw [hbf] at hc
  simp only [cond_true,Option.some.injEq,Sigma.mk.injEq] at hc
  obtain ⟨rfl,hc⟩:=hc
  have hc:=eq_of_heq hc
  subst hc
  obtain ⟨A,c,rfl,_,h3⟩:=hl
  refine ⟨A,c,rfl,h3.imp id ?_⟩
  rintro ⟨a,ha,hs,hr⟩
  refine ⟨a,ha,hs,hr.mono (fun _ _ _=>trivial) (fun _ _ _ _ h=>h) (fun _ _ h=>?_)⟩
  cases bor with
  | false=>exact h.toI
  | true=>exact h.flatT hbf
 | slice b ver rng =>
  obtain ⟨x,hx,hs⟩:=hl
  rw [hg b (by simp [rdOf])] at hx
  simp only [Z596,hx] at hc
  cases x with
  | row ver' t' xs =>
   simp only at hc
   cases hver:Nat.beq ver ver' with
   | false=>simp [hver] at hc
   | true =>
    simp only [hver,cond_true,Option.some.injEq,Sigma.mk.injEq] at hc
    obtain ⟨rfl,hc⟩:=hc
    have hc:=eq_of_heq hc
    subst hc
    have hxσ:σ b=some (.row ver' t' xs):=by rw [hg b (by simp [rdOf])]; exact hx
    have hs:=hs.2 (Nat.eq_of_beq_eq_true hver)
    cases rng with
    | none =>
     obtain ⟨A,c,rfl,hk⟩:=hs
     refine ⟨A,c,rfl,?_⟩
     rcases hk with ⟨hk,_⟩ | ⟨blk,o,hb,rfl,_,_⟩
     ·exact .inl hk
     ·exact .inr ⟨_,rfl,rfl,h.good.rowAt hxσ hb (fun _ _ _=>trivial)⟩
    | some p =>
     obtain ⟨off,n⟩:=p
     obtain ⟨A,c,rfl,_,hk,_⟩:=hs
     refine ⟨A,c,rfl,?_⟩
     rcases hk with hk | ⟨blk,o,hb,rfl⟩
     ·exact .inl hk
     ·exact .inr ⟨_,rfl,rfl,(h.good.rowAt hxσ hb (K:=fun _ _=>True) (fun _ _ _=>trivial)).view off n⟩
  | _=>simp at hc
 | _=>simp [Z596] at hc
theorem Z404 {a:Addr} (h:a.spot=none) (j:Nat):a.add j=⟨a.block,a.off+j,none⟩:=by
 cases a
 simp only at h
 subst h
 unfold Addr.add
 split <;> simp_all
theorem Z705 {α:Type} {ys:List α} {n:Nat} {rd:α→List Value→Prop} {A:Option Addr} {c:Nat} (hy:ys=[]∨∃ a:Addr,A=some a∧a.spot=none∧RowAt (fun _ _=>True) n rd w ys a) :
  ∃ cs,Z560 n rd ys cs∧∀ w',(∀ a v,w.cell? a=some v→w'.cell? a=some v)→(Builtin.firstCells n ys.length (.slice A ys.length c)).run P w'=.ok cs.toArray w':=by
 rcases hy with rfl | ⟨a,rfl,hs,hr⟩
 ·refine ⟨[],.nil,fun w' _=>?_⟩
  cases A with
  | none=>exact run_firstCells_none ..
  | some a=>simpa using run_firstCells_some (P:=P) w' n 0 a 0 c [] (by simp) (fun j v hv=>by simp at hv)
 ·obtain ⟨cs,h1,h2⟩:=hr.cells
  refine ⟨cs,h1,fun w' hw=>?_⟩
  exact run_firstCells_some w' n ys.length a ys.length c cs h1.1 (fun j v hv=>by rw [Z404 hs]; exact hw _ _ (h2 j v hv))
theorem Z8 {t e:TypeId} {i:TyI} (hu:P.underlying t=some (.slice e)) (hi:TyOk P e i) {blk o sLen sCap n c:Nat} {A':Option Addr} {C:Array Value} {E:TypeId} {cs:List Value} {ty':TypeId}
  (hb:w.heap[blk]?=some (Obj.cells C E (0,0))) (hcs:cs.length=n*i.sz) (h1:∀ v∈cs,v.oneCell'=true)
  (hsrc:(Builtin.firstCells i.sz n (.slice A' n c)).run P w=.ok cs.toArray w) (hroom:sLen+n≤sCap) (hC:o+sCap*i.sz≤C.size) :
  (Builtin.append_ #[t,t] ty' #[.slice (some ⟨blk,o,none⟩) sLen sCap,.slice A' n c]).run P w =
   .ok (.slice (some ⟨blk,o,none⟩) (sLen+n) sCap) (w.setRow blk (C.toList.take (o+sLen*i.sz)++cs++C.toList.drop (o+sLen*i.sz+cs.length)).toArray):=by
 have hk:(sLen+n)*i.sz≤sCap*i.sz:=Nat.mul_le_mul_right _ hroom
 rw [Nat.add_mul] at hk
 have hst:=run_storeCells_at (P:=P) blk (o+sLen*i.sz) E cs 0 C w hb (by omega) h1
 simp only [Nat.add_zero] at hst
 simp [Builtin.append_,run_underlying hu,hi.run_size,Builtin.lenOf,hroom,hsrc,Z404,hst]
theorem Z109 {t e:TypeId} {i:TyI} (hu:P.underlying t=some (.slice e)) (hi:TyOk P e i) {A A':Option Addr} {sLen sCap n c:Nat} {olds cs:List Value} {ty':TypeId}
  (hold:(Builtin.firstCells i.sz sLen (.slice A sLen sCap)).run P w.drew=.ok olds.toArray w.drew) (hsrc:(Builtin.firstCells i.sz n (.slice A' n c)).run P w.drew=.ok cs.toArray w.drew)
  (hroom:sCap < sLen+n) (hmax:(sLen+n)*(i.by_+1)≤room) :
  ∃ cap rest,(Builtin.append_ #[t,t] ty' #[.slice A sLen sCap,.slice A' n c]).run P w =
   .ok (.slice (some ⟨w.heap.size,0,none⟩) (sLen+n) cap) (w.drew.alloc (.cells ((olds++cs).toArray++rest) e))∧sLen+n≤cap∧rest.size=(cap - (sLen+n))*i.sz:=by
 obtain ⟨inf,z,hinf,hsz,hby,hz,hzc⟩:=hi.info
 have hn:¬ (sLen+n≤sCap):=by omega
 have hm:(sLen+n)*(i.by_+1)=(sLen+n)*i.by_+(sLen+n):=by rw [Nat.mul_add]; omega
 unfold room at hmax
 have h63':¬ (9223372036854775807 < ((sLen:Int)+(n:Int))):=by omega
 have hfit:=growslice_fits (need:=sLen+n) (old:=sCap) (bytes:=i.by_) hroom (by omega)
 have h48':¬ (281474976710656 < Builtin.nextslicecap (sLen+n) sCap*i.by_):=by omega
 have hzs:z.cells.size=i.sz:=by
  have:=(hi.zero (fun _ _=>False) w).len
  rw [hi.size,← hzc] at this
  simpa using this
 refine ⟨grownCap w (sLen+n) sCap e,Builtin.zeroCells z.cells (grownCap w (sLen+n) sCap e - (sLen+n)),?_,?_,?_⟩
 ·have hty:=run_typeInfo (P:=P) w hinf
  simp [Builtin.append_,run_underlying hu,sizeOf,typeInfo,zeroValue,hinf,hsz,hby,hz,Builtin.lenOf,hn,h63',h48',Question.forced,hold,hsrc,newRow,grownCap]
  congr 2
  apply Array.ext'
  simp
 ·simp only [grownCap,Question.cut]
  omega
 ·simp [Builtin.zeroCells,hzs]
theorem Z111 {t e:TypeId} {i:TyI} (hu:P.underlying t=some (.slice e)) (hi:TyOk P e i) {A A':Option Addr} {c:Nat} {cs:List Value} {ty':TypeId}
  (hcs:cs.length=0*i.sz) (hsrc:(Builtin.firstCells i.sz 0 (.slice A' 0 c)).run P w=.ok cs.toArray w) :
  (Builtin.append_ #[t,t] ty' #[.slice A 0 0,.slice A' 0 c]).run P w=.ok (.slice A 0 0) w:=by
 have:cs=[]:=by simpa using hcs
 subst this
 cases A <;> simp [Builtin.append_,run_underlying hu,hi.run_size,Builtin.lenOf,hsrc,storeCells]
theorem RB_row {t:Tc} {xs:List t.den} {cs:List Value} {I':Rg} {β':Bt} {σ':Sg} {w':World} {b ver blk o:Nat} {C:Array Value} {E:TypeId} (hb:β' b=some (blk,o))
  (hw:w'.heap[blk]?=some (Obj.cells C E (0,0))) (hcs:Z560 t.sz (RD I' w' t) xs cs) (hC:∀ (k:Nat) (v:Value),cs[k]?=some v→C[o+k]?=some v) :
  RB I' F.J β' σ' w' b (.row ver t xs):=by
 refine .inr ⟨blk,o,C,E,hb,hw,?_⟩
 intro i x hx
 obtain ⟨vs,h1,_,h3⟩:=hcs.2 i x hx
 exact ⟨vs,h1,fun j v hv=>by rw [Nat.add_assoc]; exact hC _ v (h3 j v hv)⟩
theorem getElem?_copyL {α:Type} {xs ys:List α} {off m n:Nat} (hk:off+(ys.take m).length≤xs.length) :
  (copyL xs off m ys)[n]?=if n < off then xs[n]? else if n < off+(ys.take m).length then (ys.take m)[n - off]? else xs[n]?:=getElem?_patch hk
theorem Z69 {α:Type} {xs ys:List α} {off m:Nat} (hk:off+(ys.take m).length≤xs.length):(copyL xs off m ys).length=xs.length:=by
 unfold copyL
 simp only [List.length_append,List.length_take,List.length_drop] at hk ⊢
 omega
theorem Z40 {α:Type} {xs ys:List α} {off m:Nat} (h:ys.take m=[]):copyL xs off m ys=xs:=by
 unfold copyL
 rw [h,List.append_nil,List.length_nil,Nat.add_zero,List.take_append_drop]
theorem Z368 {b:Nat} {x:Box} (h:σ b=some x):setF σ b x=σ:=by
 funext c
 by_cases e:c=b
 ·subst e; simp [h]
 ·rw [Z712 _ _ e]
theorem Z352 (h:Inv F I β σ w) {b ver blk o m beg:Nat} {E:TyI} {xs ys:List E.tc.den} {cs:List Value} {C:Array Value} {E':TypeId} (hsz:E.tc.sz=E.sz)
  (hbσ:σ b=some (.row ver E.tc xs)) (hbb:β b=some (blk,o)) (h3:w.heap[blk]?=some (Obj.cells C E' (0,0)))
  (h4:∀ (i:Nat) (x:E.tc.den),xs[i]?=some x→∃ vs,RD I w E.tc x vs∧∀ (j:Nat) (v:Value),vs[j]?=some v→C[o+i*E.tc.sz+j]?=some v)
  (hcs:Z560 E.sz (RD I w E.tc) (ys.take m) cs) (hfit:beg+(ys.take m).length≤xs.length) (hC:o+beg*E.sz+cs.length≤C.size) :
  Inv F I (setB β b (some (blk,o))) (setF σ b (.row ver E.tc (copyL xs beg m ys))) (w.setRow blk (C.toList.take (o+beg*E.sz)++cs++C.toList.drop (o+beg*E.sz+cs.length)).toArray) ∧
  Ext F.J I β σ w I (setB β b (some (blk,o))) (setF σ b (.row ver E.tc (copyL xs beg m ys))) (w.setRow blk (C.toList.take (o+beg*E.sz)++cs++C.toList.drop (o+beg*E.sz+cs.length)).toArray):=by
 have hlb:liveB (σ b):=by rw [hbσ]; trivial
 have hcsl:cs.length=(ys.take m).length*E.sz:=hcs.1
 have hlenC:C.toList.length=C.size:=rfl
 have hpatch:∀ n,((C.toList.take (o+beg*E.sz)++cs++C.toList.drop (o+beg*E.sz+cs.length)).toArray)[n]? =
   if n < o+beg*E.sz then C[n]? else if n < o+beg*E.sz+cs.length then cs[n - (o+beg*E.sz)]? else C[n]?:=by
  intro n
  have:=getElem?_patch (l:=C.toList) (us:=cs) (k:=o+beg*E.sz) (n:=n) (by rw [hlenC]; omega)
  simpa using this
 exact h.change (b:=b) (x':=.row ver E.tc (copyL xs beg m ys)) (bv:=some (blk,o)) (own:=fun k=>k=blk)
  (WStep.setRow (C':=(C.toList.take (o+beg*E.sz)++cs++C.toList.drop (o+beg*E.sz+cs.length)).toArray) h3 rfl (by simp; omega))
  (fun k hk=>⟨hlb,o,by rw [hk,hbb]⟩)
  (fun x hx=>by rw [hbσ] at hx; injection hx with hx; subst hx; exact .inl ⟨rfl,rfl,Z69 hfit,by simp [hbb]⟩)
  (fun k o' hk=>by injection hk with hk; injection hk with hk _; subst hk; exact .inr ⟨hlb,o,hbb⟩)
  (fun hE'=>by
   refine .inr ⟨blk,o,_,E',by simp,setRow_heap w blk _ _ E' (0,0) h3,?_⟩
   intro j y hy
   rw [getElem?_copyL hfit] at hy
   have old:xs[j]?=some y→(∀ n,n < E.sz→¬ (o+beg*E.sz≤o+j*E.sz+n∧o+j*E.sz+n < o+beg*E.sz+cs.length))→∃ vs,RD I (w.setRow blk (C.toList.take (o+beg*E.sz)++cs++C.toList.drop (o+beg*E.sz+cs.length)).toArray) E.tc y vs∧∀ (n:Nat) (v:Value),vs[n]?=some v→((C.toList.take (o+beg*E.sz)++cs++C.toList.drop (o+beg*E.sz+cs.length)).toArray)[o+j*E.tc.sz+n]?=some v:=by
    intro hxj hout
    obtain ⟨vs,h5,h6⟩:=h4 j y hxj
    refine ⟨vs,hE'.rd h5,fun n v hv=>?_⟩
    have hn:n < E.sz:=by
     rw [← hsz,← h5.len]
     rcases Nat.lt_or_ge n vs.length with h' | h'
     ·exact h'
     ·rw [List.getElem?_eq_none h'] at hv; cases hv
    have:=hout n hn
    have h7:=h6 n v hv
    rw [hsz] at h7 ⊢
    rw [hpatch]
    split
    ·exact h7
    ·rw [if_neg (by omega)]; exact h7
   split at hy
   ·rename_i hj
    refine old hy (fun n hn=>?_)
    have:(j+1)*E.sz≤beg*E.sz:=Nat.mul_le_mul_right _ hj
    rw [Nat.succ_mul] at this
    omega
   ·rename_i hj
    split at hy
    ·rename_i hj2
     obtain ⟨vs,h5,_,h6⟩:=hcs.2 _ y hy
     refine ⟨vs,hE'.rd h5,fun n v hv=>?_⟩
     have hcell:=h6 n v hv
     have hlt:(j - beg)*E.sz+n < cs.length:=by
      rcases Nat.lt_or_ge ((j - beg)*E.sz+n) cs.length with h' | h'
      ·exact h'
      ·rw [List.getElem?_eq_none h'] at hcell; cases hcell
     have ej:j*E.sz=beg*E.sz+(j - beg)*E.sz:=by rw [← Nat.add_mul]; congr 1; omega
     rw [hpatch,hsz,if_neg (by omega),if_pos (by omega),show o+j*E.sz+n - (o+beg*E.sz)=(j - beg)*E.sz+n by omega]
     exact hcell
    ·rename_i hj2
     refine old hy (fun n hn=>?_)
     have:(beg+(ys.take m).length)*E.sz≤j*E.sz:=Nat.mul_le_mul_right _ (by omega)
     rw [Nat.add_mul,← hcsl] at this
     omega)
theorem Z108 {get:Nat→Option Box} {fresh:Nat} {E:TyI} {dst:Lf} {ys:List E.tc.den} {rs:List Nat} {e:Eff} (hs:Z412 get fresh E dst ys rs=some e):∀ c∈rs,c∈e.rd:=by
 intro c hc
 unfold Z412 at hs
 split at hs
 ·simp only [Option.some.injEq] at hs; subst hs; exact hc
 ·split at hs
  ·rename_i b ver _ ver' t xs _
   cases hver:Nat.beq ver ver' with
   | false=>simp [hver] at hs
   | true =>
    simp only [hver,cond_true] at hs
    cases hcast:castL t E.tc xs with
    | none=>simp [hcast] at hs
    | some xs' =>
     simp only [hcast,Option.some.injEq] at hs
     subst hs
     simp [hc]
  ·cases hs
 ·split at hs
  ·rename_i b ver off n _ ver' t xs _
   cases hver:Nat.beq ver ver'&&!(Nat.beq E.sz 0) with
   | false=>simp [hver] at hs
   | true =>
    simp only [hver,cond_true] at hs
    cases hcast:castL t E.tc xs with
    | none=>simp [hcast] at hs
    | some xs' =>
     simp only [hcast,Option.some.injEq] at hs
     subst hs
     simp [hc]
  ·cases hs
 ·cases hs
theorem Z16 (h:Inv F I β σ w) {get:Nat→Option Box} {fresh:Nat} {T el:TypeId} {E:TyI} (hund:P.underlying T=some (.slice el)) (hEl:TyOk P el E)
  {dst:Lf} {ys:List E.tc.den} {rs:List Nat} {e:Eff} {ud:Value} {A':Option Addr} {c':Nat} {ty':TypeId}
  (hys:ys=[]∨∃ a:Addr,A'=some a∧a.spot=none∧RowAt (fun _ _=>True) E.tc.sz (RD I w E.tc) w ys a)
  (hs:Z412 get fresh E dst ys rs=some e) (hgd:e.g=true) (hg:∀ b∈e.rd,σ b=get b) (hf:σ fresh=none) (hd:RL I F.J β σ w dst ud) :
  ∃ u' w' I' β',(Builtin.append_ #[T,T] ty' #[ud,.slice A' ys.length c']).run P w=.ok u' w'∧Inv F I' β' (updF e.upd σ) w'∧Ext F.J I β σ w I' β' (updF e.upd σ) w'∧RV I' F.J β' (updF e.upd σ) w' e.v u':=by
 have hsz:=hEl.size
 unfold Z412 at hs
 obtain ⟨cs,hcs,hrunsrc⟩:=Z705 (P:=P) (c:=c') hys
 rw [hsz] at hcs hrunsrc
 have hone:∀ v∈cs,v.oneCell'=true:=rd_one (by rw [hsz]; exact hcs)
 have src0:=hrunsrc w (fun _ _ h=>h)
 have src1:=hrunsrc w.drew (fun _ _ h=>h)
 split at hs
 ·
  simp only [Option.some.injEq] at hs
  subst hs
  simp only [RL] at hd
  subst hd
  simp only [decide_eq_true_eq] at hgd
  by_cases hy0:ys.length=0
  ·rw [hy0] at src0 ⊢
   have hy0':=List.length_eq_zero_iff.1 hy0
   subst hy0'
   have hrun:=Z111 (ty':=ty') hund hEl (A:=none) (cs:=cs) (by simpa using hcs.1) src0
   have hch:=h.change (b:=fresh) (x':=.row 0 E.tc []) (bv:=none) (own:=fun _=>False) (WStep.refl _ w) (fun _ h=>h.elim) (fun x hx=>by rw [hf] at hx; cases hx)
    (fun _ _ hk=>by cases hk) (fun _=>.inl ⟨rfl,by simp⟩)
   exact ⟨_,_,I,_,hrun,hch.1,hch.2,.row 0 E.tc [],by simp [updF],Nat.le_refl _,fun _=>⟨none,0,rfl,.inl ⟨rfl,rfl⟩⟩⟩
  ·obtain ⟨cap,rest,hrun,hcap,hrest⟩:=Z109 (ty':=ty') (A:=none) (sLen:=0) (sCap:=0) (n:=ys.length) (olds:=[]) hund hEl (run_firstCells_none ..) src1 (by omega) (by simpa using hgd)
   have hch:=Z666 h hf (C:=([]++cs).toArray++rest) (E:=el) (x':=.row 0 E.tc ys) (w1:=w.drew) (WStep.drew _ w _) rfl
    (fun hE'=>RB_row (cs:=cs) (blk:=w.heap.size) (o:=0) (by simp) (heap_alloc_new w.drew _) ((by rw [← hsz] at hcs; exact hcs:Z560 E.tc.sz _ _ _).mono (fun _ _=>hE'.rd)) (by
     intro k v hk
     have hlt:k < cs.length:=by
      rcases Nat.lt_or_ge k cs.length with h' | h'
      ·exact h'
      ·rw [List.getElem?_eq_none h'] at hk; cases hk
     rw [Nat.zero_add,Array.getElem?_append_left (by simpa using hlt)]
     simpa using hk))
   refine ⟨_,_,I,_,hrun,hch.1,hch.2,.row 0 E.tc ys,by simp [updF],Nat.le_refl _,fun _=>⟨_,cap,by simp,.inr ⟨w.heap.size,0,by simp,rfl,by omega,?_⟩⟩⟩
   refine ⟨_,el,(0,0),heap_alloc_new w.drew _,?_⟩
   simp [hcs.1,hrest,hsz]
   rw [Nat.zero_add] at hcap hrest
   have:cap*E.sz=ys.length*E.sz+(cap - ys.length)*E.sz:=by rw [← Nat.add_mul]; congr 1; omega
   omega
 ·
  rename_i b ver
  split at hs
  ·rename_i ver' t xs hb
   cases hver:Nat.beq ver ver' with
   | false=>simp [hver] at hs
   | true =>
    simp only [hver,cond_true] at hs
    have hver:=Nat.eq_of_beq_eq_true hver
    subst hver
    cases hcast:castL t E.tc xs with
    | none=>simp [hcast] at hs
    | some xs' =>
     simp only [hcast,Option.some.injEq] at hs
     subst hs
     obtain ⟨et,hxs⟩:=Z184 hcast
     subst et
     simp only at hxs
     subst hxs
     simp only [decide_eq_true_eq] at hgd
     have hbσ:σ b=some (.row ver E.tc xs'):=by rw [hg b (by simp),hb]
     have hlb:liveB (σ b):=by rw [hbσ]; trivial
     obtain ⟨x,hx,hsl⟩:=hd
     rw [hbσ] at hx
     injection hx with hx
     subst hx
     obtain ⟨A,c,rfl,hk⟩:=hsl.2 rfl
     by_cases hfit:xs'.length+ys.length≤c
     ·rcases hk with ⟨hk,hc⟩ | ⟨blk,o,hbb,rfl,hlc,hcap⟩
      ·subst hc
       subst hk
       have hy0:ys.length=0:=by simp at hfit; simp [hfit]
       rw [hy0] at src0 ⊢
       have hy0':=List.length_eq_zero_iff.1 hy0
       subst hy0'
       have hrun:=Z111 (ty':=ty') hund hEl (A:=A) (cs:=cs) (by simpa using hcs.1) src0
       have hch:=h.change (b:=b) (x':=.row (ver+1) E.tc ([]++[])) (bv:=none) (own:=fun _=>False) (WStep.refl _ w) (fun _ h=>h.elim)
        (fun x hx=>by rw [hbσ] at hx; injection hx with hx; subst hx; exact .inr (Nat.lt_succ_self _))
        (fun _ _ hk=>by cases hk) (fun _=>.inl ⟨rfl,by simp⟩)
       exact ⟨_,_,I,_,hrun,hch.1,hch.2,.row (ver+1) E.tc ([]++[]),by simp [updF],Nat.le_refl _,fun _=>⟨A,0,rfl,.inl ⟨rfl,rfl⟩⟩⟩
      ·obtain ⟨C,E',fr,hblk,hCs⟩:=hcap
       rcases h.good.box b _ hbσ with ⟨_,h2⟩ | ⟨blk',o',C',E'',h2,h3,h4⟩
       ·rw [hbb] at h2; cases h2
       ·rw [hbb] at h2; injection h2 with h2; injection h2 with e1 e2; subst e1; subst e2
        rw [h3] at hblk; injection hblk with hblk; injection hblk with e1 e2 e3; subst e1; subst e2; subst e3
        rw [hsz] at hCs
        have hlen:(xs'.length+ys.length)*E.sz≤c*E.sz:=Nat.mul_le_mul_right _ hfit
        rw [Nat.add_mul] at hlen
        have hrun:=Z8 (ty':=ty') hund hEl h3 hcs.1 hone src0 hfit hCs
        have hcsl:cs.length=ys.length*E.sz:=hcs.1
        have hlenC:C'.toList.length=C'.size:=rfl
        have hpatch:∀ n,((C'.toList.take (o+xs'.length*E.sz)++cs++C'.toList.drop (o+xs'.length*E.sz+cs.length)).toArray)[n]? =
          if n < o+xs'.length*E.sz then C'[n]? else if n < o+xs'.length*E.sz+cs.length then cs[n - (o+xs'.length*E.sz)]? else C'[n]?:=by
         intro n
         have:=getElem?_patch (l:=C'.toList) (us:=cs) (k:=o+xs'.length*E.sz) (n:=n) (by rw [hlenC]; omega)
         simpa using this
        have hch:=h.change (b:=b) (x':=.row (ver+1) E.tc (xs'++ys)) (bv:=some (blk,o)) (own:=fun k=>k=blk)
         (WStep.setRow (C':=(C'.toList.take (o+xs'.length*E.sz)++cs++C'.toList.drop (o+xs'.length*E.sz+cs.length)).toArray) h3 rfl (by simp; omega))
         (fun k hk=>⟨hlb,o,by rw [hk,hbb]⟩)
         (fun x hx=>by rw [hbσ] at hx; injection hx with hx; subst hx; exact .inr (Nat.lt_succ_self _))
         (fun k o' hk=>by injection hk with hk; injection hk with hk _; subst hk; exact .inr ⟨hlb,o,hbb⟩)
         (fun hE'=>by
          refine .inr ⟨blk,o,_,E'',by simp,setRow_heap w blk _ _ E'' (0,0) h3,?_⟩
          intro j y hy
          rw [List.getElem?_append] at hy
          split at hy
          ·rename_i hj
           obtain ⟨vs,h5,h6⟩:=h4 j y hy
           refine ⟨vs,hE'.rd h5,fun n v hv=>?_⟩
           have hn:n < E.tc.sz:=by
            rw [← h5.len]
            rcases Nat.lt_or_ge n vs.length with h' | h'
            ·exact h'
            ·rw [List.getElem?_eq_none h'] at hv; cases hv
           have:(j+1)*E.tc.sz≤xs'.length*E.tc.sz:=Nat.mul_le_mul_right _ hj
           rw [Nat.succ_mul] at this
           rw [hpatch,if_pos (by rw [← hsz]; omega)]
           exact h6 n v hv
          ·rename_i hj
           obtain ⟨vs,h5,_,h6⟩:=hcs.2 _ y hy
           refine ⟨vs,hE'.rd h5,fun n v hv=>?_⟩
           have hcell:=h6 n v hv
           have hlt:(j - xs'.length)*E.sz+n < cs.length:=by
            rcases Nat.lt_or_ge ((j - xs'.length)*E.sz+n) cs.length with h' | h'
            ·exact h'
            ·rw [List.getElem?_eq_none h'] at hcell; cases hcell
           have ej:j*E.sz=xs'.length*E.sz+(j - xs'.length)*E.sz:=by rw [← Nat.add_mul]; congr 1; omega
           rw [hpatch,hsz,if_neg (by omega),if_pos (by omega),show o+j*E.sz+n - (o+xs'.length*E.sz)=(j - xs'.length)*E.sz+n by omega]
           exact hcell)
        refine ⟨_,_,I,_,hrun,hch.1,hch.2,.row (ver+1) E.tc (xs'++ys),by simp [updF],Nat.le_refl _,fun _=>⟨_,c,by simp,.inr ⟨blk,o,by simp,rfl,by simpa using hfit,?_⟩⟩⟩
        refine ⟨_,E'',(0,0),setRow_heap w blk _ _ E'' (0,0) h3,?_⟩
        rw [hsz]
        simp
        omega
     ·have hold:∃ olds,Z560 E.tc.sz (RD I w E.tc) xs' olds∧∀ w',(∀ a v,w.cell? a=some v→w'.cell? a=some v) →
        (Builtin.firstCells E.tc.sz xs'.length (.slice A xs'.length c)).run P w'=.ok olds.toArray w':=by
       refine Z705 (P:=P) ?_
       rcases hk with ⟨hk,_⟩ | ⟨blk,o,hbb,rfl,_,_⟩
       ·exact .inl hk
       ·exact .inr ⟨_,rfl,rfl,h.good.rowAt hbσ hbb (fun _ _ _=>trivial)⟩
      obtain ⟨olds,hol,hrunold⟩:=hold
      rw [hsz] at hrunold
      obtain ⟨cap,rest,hrun,hcap,hrest⟩:=Z109 (ty':=ty') (sLen:=xs'.length) (sCap:=c) (n:=ys.length) hund hEl (hrunold w.drew (fun _ _ h=>h)) src1 (by omega) hgd
      have hall:Z560 E.tc.sz (RD I w E.tc) (xs'++ys) (olds++cs):=hol.append (by rw [← hsz] at hcs; exact hcs)
      have hch:=h.change (b:=b) (x':=.row (ver+1) E.tc (xs'++ys)) (bv:=some (w.heap.size,0)) (own:=fun _=>False)
       ((WStep.drew _ w _).trans (WStep.alloc _ w.drew (.cells ((olds++cs).toArray++rest) el))) (fun _ h=>h.elim)
       (fun x hx=>by rw [hbσ] at hx; injection hx with hx; subst hx; exact .inr (Nat.lt_succ_self _))
       (fun k o' hk=>by injection hk with hk; injection hk with hk _; subst hk; exact .inl (Nat.le_refl _))
       (fun hE'=>RB_row (cs:=olds++cs) (blk:=w.heap.size) (o:=0) (by simp) (heap_alloc_new w.drew _) (hall.mono (fun _ _=>hE'.rd)) (by
        intro k v hk
        have hlt:k < (olds++cs).length:=by
         rcases Nat.lt_or_ge k (olds++cs).length with h' | h'
         ·exact h'
         ·rw [List.getElem?_eq_none h'] at hk; cases hk
        rw [Nat.zero_add,Array.getElem?_append_left (by simpa using hlt)]
        simpa using hk))
      refine ⟨_,_,I,_,hrun,hch.1,hch.2,.row (ver+1) E.tc (xs'++ys),by simp [updF],Nat.le_refl _,fun _=>⟨_,cap,by simp,.inr ⟨w.heap.size,0,by simp,rfl,by simpa using hcap,?_⟩⟩⟩
      refine ⟨_,el,(0,0),heap_alloc_new w.drew _,?_⟩
      have h8:=hall.1
      have:cap*E.tc.sz=(xs'++ys).length*E.tc.sz+(cap - (xs'.length+ys.length))*E.tc.sz:=by rw [← Nat.add_mul]; congr 1; simp; omega
      rw [← hsz] at hrest
      simp at h8 this ⊢
      omega
  ·cases hs
 ·
  rename_i b ver off nn
  split at hs
  ·rename_i ver' t xs hb
   cases hver:Nat.beq ver ver'&&!(Nat.beq E.sz 0) with
   | false=>simp [hver] at hs
   | true =>
    simp only [hver,cond_true] at hs
    rw [Bool.and_eq_true,Bool.not_eq_true'] at hver
    obtain ⟨hver,hz⟩:=hver
    have hver:=Nat.eq_of_beq_eq_true hver
    subst hver
    have hz:E.sz≠0:=fun e=>by rw [e] at hz; cases hz
    cases hcast:castL t E.tc xs with
    | none=>simp [hcast] at hs
    | some xs' =>
     simp only [hcast,Option.some.injEq] at hs
     subst hs
     obtain ⟨et,hxs⟩:=Z184 hcast
     subst et
     simp only at hxs
     subst hxs
     simp only [decide_eq_true_eq] at hgd
     have hbσ:σ b=some (.row ver E.tc xs'):=by rw [hg b (by simp),hb]
     obtain ⟨x,hx,hsl⟩:=hd
     rw [hbσ] at hx
     injection hx with hx
     subst hx
     obtain ⟨A,c,rfl,hlc,_,hxc,hk⟩:=hsl.2 rfl
     have htake:ys.take ys.length=ys:=List.take_length
     generalize hv:((xs'.drop off).take nn).length=vl at hgd hlc ⊢
     have hvl:off+vl≤xs'.length∨vl=0:=by
      rw [← hv]; simp; omega
     have hlen':∀ {zs:List E.tc.den},zs.length=xs'.length→((zs.drop off).take (vl+ys.length)).length=vl+ys.length:=by
      intro zs hzs; simp; omega
     rcases hk with hk | ⟨blk,o,hbb,rfl,hcap⟩
     ·subst hk
      have hv0:vl=0:=by omega
      have hy0:ys.length=0:=by omega
      have hy0':=List.length_eq_zero_iff.1 hy0
      subst hy0'
      subst hv0
      have hrun:=Z111 (ty':=ty') hund hEl (A:=A) (cs:=cs) (by simpa using hcs.1) src0
      have hcl:copyL xs' (off+0) ([]:List E.tc.den).length []=xs':=Z40 (by simp)
      rw [hcl]
      refine ⟨_,w,I,β,hrun,?_,?_,?_⟩
      ·show Inv F I β (setF σ b (.row ver E.tc xs')) w
       rw [Z368 hbσ]; exact h
      ·show Ext F.J I β σ w I β (setF σ b (.row ver E.tc xs')) w
       rw [Z368 hbσ]; exact Ext.refl ..
      ·refine ⟨.row ver E.tc xs',by simp [updF],Nat.le_refl _,fun _=>⟨A,0,by simp,by simp,.inl (by simp),hxc,.inl rfl⟩⟩
     ·obtain ⟨C,E',fr,hblk,hCs⟩:=hcap
      rcases h.good.box b _ hbσ with ⟨_,h2⟩ | ⟨blk',o',C',E'',h2,h3,h4⟩
      ·rw [hbb] at h2; cases h2
      ·rw [hbb] at h2; injection h2 with h2; injection h2 with e1 e2; subst e1; subst e2
       rw [h3] at hblk; injection hblk with hblk; injection hblk with e1 e2 e3; subst e1; subst e2; subst e3
       rw [hsz] at hCs
       rw [Nat.add_mul] at hCs
       have hroom:vl+ys.length≤c:=by omega
       have hC1:o+off*E.sz+c*E.sz≤C'.size:=by omega
       have hrun:=Z8 (ty':=ty') (o:=o+off*E.sz) (sLen:=vl) hund hEl h3 hcs.1 hone src0 hroom hC1
       have hcsl:cs.length=ys.length*E.sz:=hcs.1
       have hpos:o+off*E.sz+vl*E.sz=o+(off+vl)*E.sz:=by rw [Nat.add_mul]; omega
       have hle:(vl+ys.length)*E.sz≤c*E.sz:=Nat.mul_le_mul_right _ hroom
       rw [Nat.add_mul] at hle
       have hp:=Z352 (ys:=ys) (m:=ys.length) (beg:=off+vl) h hsz hbσ hbb h3 h4 (by rw [htake]; exact hcs) (by rw [htake]; omega) (by omega)
       rw [hpos] at hrun
       have hcl:(copyL xs' (off+vl) ys.length ys).length=xs'.length:=Z69 (by rw [htake]; omega)
       refine ⟨_,_,I,_,by rw [hsz]; exact hrun,hp.1,hp.2,.row ver E.tc (copyL xs' (off+vl) ys.length ys),by simp [updF],Nat.le_refl _,fun _=>⟨_,c,by rw [hlen' hcl],by rw [hlen' hcl]; omega,.inr ⟨blk,o,by simp,by rw [hsz]⟩,by rw [hcl]; exact hxc,.inr ⟨blk,o,by simp,by rw [hsz],?_⟩⟩⟩
       refine ⟨_,E'',(0,0),setRow_heap w blk _ _ E'' (0,0) h3,?_⟩
       rw [hsz,Nat.add_mul]
       simp
       omega
  ·cases hs
 ·cases hs
theorem Z292 (hty:TysOk P ty) (h:Inv F I β σ w) {get:Nat→Option Box} {fresh:Nat} {T:TypeId} {dst src:Lf} {e:Eff} {ud us:Value} {ty':TypeId}
  (hs:Z257 ty get fresh T dst src=some e) (hgd:e.g=true) (hg:∀ b∈e.rd,σ b=get b) (hf:σ fresh=none) (hd:RL I F.J β σ w dst ud) (hsr:RL I F.J β σ w src us) :
  ∃ u' w' I' β',(Builtin.append_ #[T,T] ty' #[ud,us]).run P w=.ok u' w'∧Inv F I' β' (updF e.upd σ) w'∧Ext F.J I β σ w I' β' (updF e.upd σ) w'∧RV I' F.J β' (updF e.upd σ) w' e.v u':=by
 unfold Z257 at hs
 cases hT:ty T with
 | none=>simp [hT] at hs
 | some TI =>
  obtain ⟨d,hund,hds,_⟩:=(hty T TI hT).desc
  cases hDs:TI.ds with
  | slice el =>
   rw [hDs] at hds
   simp only [DsOk] at hds
   subst hds
   cases hE:ty el with
   | none=>simp [hT,hDs,hE] at hs
   | some E =>
    have hEl:=hty el E hE
    simp only [hT,hDs,hE] at hs
    split at hs
    ·simp only [RL] at hsr
     subst hsr
     exact Z16 h hund hEl (ys:=[]) (.inl rfl) hs hgd hg hf hd
    ·cases hc:Z596 get src with
     | none=>simp [hc] at hs
     | some q =>
      obtain ⟨t,ys⟩:=q
      simp only [hc] at hs
      cases hcast:castL t E.tc ys with
      | none=>simp [hcast] at hs
      | some ys' =>
       simp only [hcast] at hs
       obtain ⟨et,hy⟩:=Z184 hcast
       subst et
       simp only at hy
       subst hy
       obtain ⟨A,c,rfl,hys⟩:=Z119 h hc (fun b hb=>hg b (Z108 hs b hb)) hsr
       exact Z16 h hund hEl hys hs hgd hg hf hd
  | _=>simp [hT,hDs] at hs
theorem Z60 {T T' ty' el:TypeId} {E:TyI} (hu:P.underlying T=some (.slice el)) (hE:TyOk P el E) {A A':Option Addr} {dl dc sl sc:Nat} {cs:List Value}
  (hsrc:(Builtin.firstCells E.sz (Nat.min sl dl) (.slice A' sl sc)).run P w=.ok cs.toArray w) {w':World} (hst:∀ a,A=some a→(storeCells a cs 0).run P w=.ok () w') (hn:A=none→w'=w) :
  (Builtin.copy_ #[T,T'] ty' #[.slice A dl dc,.slice A' sl sc]).run P w=.ok (goInt (Nat.min sl dl)) w':=by
 cases A with
 | none =>
  have:=hn rfl
  subst this
  simp [Builtin.copy_,run_underlying hu,hE.run_size,Builtin.lenOf,hsrc]
 | some a =>
  have:=hst a rfl
  simp [Builtin.copy_,run_underlying hu,hE.run_size,Builtin.lenOf,hsrc,this]
theorem Z604 (hty:TysOk P ty) (h:Inv F I β σ w) {get:Nat→Option Box} {T T' ty':TypeId} {dst src:Lf} {e:Eff} {ud us:Value}
  (hs:Z534 ty get T dst src=some e) (hg:∀ b∈e.rd,σ b=get b) (hd:RL I F.J β σ w dst ud) (hsr:RL I F.J β σ w src us) :
  ∃ u' w' I' β',(Builtin.copy_ #[T,T'] ty' #[ud,us]).run P w=.ok u' w'∧Inv F I' β' (updF e.upd σ) w'∧Ext F.J I β σ w I' β' (updF e.upd σ) w'∧RV I' F.J β' (updF e.upd σ) w' e.v u':=by
 unfold Z534 at hs
 split at hs
 ·rename_i TI b ver rng t' ys hT hc
  split at hs
  ·rename_i el ver' t xs hDs hb
   split at hs
   ·rename_i E ys' hE hcast
    cases hver:Nat.beq ver ver'&&!(Nat.beq E.sz 0) with
    | false=>simp [hver] at hs
    | true =>
     simp only [hver,cond_true] at hs
     rw [Bool.and_eq_true,Bool.not_eq_true'] at hver
     obtain ⟨hver,hz⟩:=hver
     have hver:=Nat.eq_of_beq_eq_true hver
     subst hver
     have hz:E.sz≠0:=fun e=>by rw [e] at hz; cases hz
     split at hs
     ·rename_i hEt
      subst hEt
      simp only [Option.some.injEq] at hs
      subst hs
      obtain ⟨et,hy⟩:=Z184 hcast
      subst et
      simp only at hy
      subst hy
      obtain ⟨d,hund,hds,_⟩:=(hty T TI hT).desc
      rw [hDs] at hds
      simp only [DsOk] at hds
      subst hds
      have hEl:=hty el E hE
      have hsz:=hEl.size
      have hbσ:σ b=some (.row ver E.tc xs):=by rw [hg b (by simp),hb]
      have hlb:liveB (σ b):=by rw [hbσ]; trivial
      obtain ⟨A',c',rfl,hys⟩:=Z119 h hc (fun c hc=>hg c (by simp [hc])) hsr
      obtain ⟨x,hx,hsl⟩:=hd
      rw [hbσ] at hx
      injection hx with hx
      subst hx
      have hsl:=hsl.2 rfl
      obtain ⟨A,c,hud,hA⟩:∃ A c,ud=.slice A (view rng xs).length c∧(view rng xs=[]∨∃ blk o,β b=some (blk,o)∧A=some ⟨blk,o+begOf rng*E.tc.sz,none⟩):=by
       cases rng with
       | none =>
        obtain ⟨A,c,h1,h2⟩:=hsl
        refine ⟨A,c,h1,?_⟩
        rcases h2 with ⟨h2,_⟩ | ⟨blk,o,h2,h3,_⟩
        ·exact .inl h2
        ·exact .inr ⟨blk,o,h2,by simpa [begOf] using h3⟩
       | some p =>
        obtain ⟨off,n⟩:=p
        obtain ⟨A,c,h1,_,h2,_⟩:=hsl
        exact ⟨A,c,h1,h2⟩
      subst hud
      have hmin:copyN (view rng xs).length ys'=Nat.min ys'.length (view rng xs).length:=by
       unfold copyN
       rw [List.length_take]
       exact Nat.min_comm _ _
      obtain ⟨cs,hcs,hrunsrc⟩:∃ cs,Z560 E.sz (RD I w E.tc) (ys'.take (view rng xs).length) cs∧(Builtin.firstCells E.sz (Nat.min ys'.length (view rng xs).length) (.slice A' ys'.length c')).run P w=.ok cs.toArray w:=by
       have hz':(ys'.take (view rng xs).length)=[]∨∃ a:Addr,A'=some a∧a.spot=none∧RowAt (fun _ _=>True) E.tc.sz (RD I w E.tc) w (ys'.take (view rng xs).length) a:=by
        rcases hys with hys | ⟨a,h1,h2,h3⟩
        ·exact .inl (by rw [hys,List.take_nil])
        ·refine .inr ⟨a,h1,h2,fun i y hy=>?_⟩
         rw [List.getElem?_take] at hy
         split at hy
         ·exact h3 i y hy
         ·cases hy
       obtain ⟨cs,h1,h2⟩:=Z705 (P:=P) (c:=c') hz'
       rw [hsz] at h1 h2
       refine ⟨cs,h1,?_⟩
       have:=h2 w (fun _ _ h=>h)
       rw [show (ys'.take (view rng xs).length).length=Nat.min ys'.length (view rng xs).length from hmin] at this
       cases A' with
       | none=>exact this
       | some a=>exact this
      by_cases hnil:ys'.take (view rng xs).length=[]
      ·have hcs0:cs=[]:=by
        have:=hcs.1
        rw [hnil,List.length_nil,Nat.zero_mul] at this
        exact List.length_eq_zero_iff.1 this
       subst hcs0
       have hrun:=Z60 (P:=P) (T':=T') (ty':=ty') (dc:=c) hund hEl (A:=A) hrunsrc (w':=w) (fun a _=>by simp [storeCells]) (fun _=>rfl)
       rw [Z40 hnil]
       refine ⟨_,w,I,β,hrun,?_,?_,?_⟩
       ·show Inv F I β (setF σ b (.row ver E.tc xs)) w
        rw [Z368 hbσ]; exact h
       ·show Ext F.J I β σ w I β (setF σ b (.row ver E.tc xs)) w
        rw [Z368 hbσ]; exact Ext.refl ..
       ·show _=_
        rw [hmin]
        rfl
      ·have hv0:view rng xs≠[]:=fun e=>hnil (by rw [e]; simp)
       rcases hA with hA | ⟨blk,o,hbb,rfl⟩
       ·exact absurd hA hv0
       ·have hfit:begOf rng+(ys'.take (view rng xs).length).length≤xs.length:=by
         rw [List.length_take]
         cases rng with
         | none=>simp only [begOf,view]; omega
         | some p =>
          obtain ⟨off,n⟩:=p
          have:(view (some (off,n)) xs).length≠0:=fun e=>hv0 (List.length_eq_zero_iff.1 e)
          simp only [begOf,view,List.length_take,List.length_drop] at this ⊢
          omega
        rcases h.good.box b _ hbσ with ⟨h2,_⟩ | ⟨blk',o',C,E',h2,h3,h4⟩
        ·subst h2
         exact absurd (by cases rng <;> simp [view]) hv0
        ·rw [hbb] at h2; injection h2 with h2; injection h2 with e1 e2; subst e1; subst e2
         have hcsl:cs.length=(ys'.take (view rng xs).length).length*E.sz:=hcs.1
         have hC:o+xs.length*E.tc.sz≤C.size:=by
          rw [hsz]
          have hx0:0 < xs.length:=by
           rcases Nat.eq_zero_or_pos xs.length with e | e
           ·have:=List.length_eq_zero_iff.1 e
            subst this
            exact absurd (by cases rng <;> simp [view]) hv0
           ·exact e
          obtain ⟨vs,h5,h6⟩:=h4 (xs.length - 1) _ (List.getElem?_eq_getElem (by omega))
          have hl5:=h5.len
          rw [hsz] at hl5
          have h7:=h6 (E.sz - 1) _ (List.getElem?_eq_getElem (by omega))
          rcases Nat.lt_or_ge (o+(xs.length - 1)*E.tc.sz+(E.sz - 1)) C.size with h' | h'
          ·have:xs.length*E.sz=(xs.length - 1)*E.sz+E.sz:=by
            conv=>lhs; rw [show xs.length=(xs.length - 1)+1 by omega]
            rw [Nat.succ_mul]
           rw [hsz] at h'
           omega
          ·rw [Array.getElem?_eq_none h'] at h7; cases h7
         have hlen:(begOf rng+(ys'.take (view rng xs).length).length)*E.sz≤xs.length*E.sz:=Nat.mul_le_mul_right _ hfit
         rw [Nat.add_mul,← hcsl] at hlen
         have hone:∀ v∈cs,v.oneCell'=true:=rd_one (by rw [hsz]; exact hcs)
         rw [hsz] at hC
         have hlenC:C.toList.length=C.size:=rfl
         have hst:=run_storeCells_at (P:=P) blk (o+begOf rng*E.sz) E' cs 0 C w h3 (by omega) hone
         simp only [Nat.add_zero] at hst
         have hrun:=Z60 (P:=P) (T':=T') (ty':=ty') (dc:=c) hund hEl (A:=some ⟨blk,o+begOf rng*E.tc.sz,none⟩) hrunsrc (fun a ha=>by injection ha with ha; subst ha; rw [hsz]; exact hst) (fun e=>by cases e)
         have hpatch:∀ n,((C.toList.take (o+begOf rng*E.sz)++cs++C.toList.drop (o+begOf rng*E.sz+cs.length)).toArray)[n]? =
           if n < o+begOf rng*E.sz then C[n]? else if n < o+begOf rng*E.sz+cs.length then cs[n - (o+begOf rng*E.sz)]? else C[n]?:=by
          intro n
          have:=getElem?_patch (l:=C.toList) (us:=cs) (k:=o+begOf rng*E.sz) (n:=n) (by rw [hlenC]; omega)
          simpa using this
         have hch:=h.change (b:=b) (x':=.row ver E.tc (copyL xs (begOf rng) (view rng xs).length ys')) (bv:=some (blk,o)) (own:=fun k=>k=blk)
          (WStep.setRow (C':=(C.toList.take (o+begOf rng*E.sz)++cs++C.toList.drop (o+begOf rng*E.sz+cs.length)).toArray) h3 rfl (by simp; omega))
          (fun k hk=>⟨hlb,o,by rw [hk,hbb]⟩)
          (fun x hx=>by rw [hbσ] at hx; injection hx with hx; subst hx; exact .inl ⟨rfl,rfl,Z69 hfit,by simp [hbb]⟩)
          (fun k o' hk=>by injection hk with hk; injection hk with hk _; subst hk; exact .inr ⟨hlb,o,hbb⟩)
          (fun hE'=>by
           refine .inr ⟨blk,o,_,E',by simp,setRow_heap w blk _ _ E' (0,0) h3,?_⟩
           intro j y hy
           rw [getElem?_copyL hfit] at hy
           have old:xs[j]?=some y→(∀ n,n < E.sz→¬ (o+begOf rng*E.sz≤o+j*E.sz+n∧o+j*E.sz+n < o+begOf rng*E.sz+cs.length))→∃ vs,RD I (w.setRow blk (C.toList.take (o+begOf rng*E.sz)++cs++C.toList.drop (o+begOf rng*E.sz+cs.length)).toArray) E.tc y vs∧∀ (n:Nat) (v:Value),vs[n]?=some v→((C.toList.take (o+begOf rng*E.sz)++cs++C.toList.drop (o+begOf rng*E.sz+cs.length)).toArray)[o+j*E.tc.sz+n]?=some v:=by
            intro hxj hout
            obtain ⟨vs,h5,h6⟩:=h4 j y hxj
            refine ⟨vs,hE'.rd h5,fun n v hv=>?_⟩
            have hn:n < E.sz:=by
             rw [← hsz,← h5.len]
             rcases Nat.lt_or_ge n vs.length with h' | h'
             ·exact h'
             ·rw [List.getElem?_eq_none h'] at hv; cases hv
            have:=hout n hn
            have h7:=h6 n v hv
            rw [hsz] at h7 ⊢
            rw [hpatch]
            split
            ·exact h7
            ·rw [if_neg (by omega)]; exact h7
           split at hy
           ·rename_i hj
            refine old hy (fun n hn=>?_)
            have:(j+1)*E.sz≤begOf rng*E.sz:=Nat.mul_le_mul_right _ hj
            rw [Nat.succ_mul] at this
            omega
           ·rename_i hj
            split at hy
            ·rename_i hj2
             obtain ⟨vs,h5,_,h6⟩:=hcs.2 _ y hy
             refine ⟨vs,hE'.rd h5,fun n v hv=>?_⟩
             have hcell:=h6 n v hv
             have hlt:(j - begOf rng)*E.sz+n < cs.length:=by
              rcases Nat.lt_or_ge ((j - begOf rng)*E.sz+n) cs.length with h' | h'
              ·exact h'
              ·rw [List.getElem?_eq_none h'] at hcell; cases hcell
             have ej:j*E.sz=begOf rng*E.sz+(j - begOf rng)*E.sz:=by rw [← Nat.add_mul]; congr 1; omega
             rw [hpatch,hsz,if_neg (by omega),if_pos (by omega),show o+j*E.sz+n - (o+begOf rng*E.sz)=(j - begOf rng)*E.sz+n by omega]
             exact hcell
            ·rename_i hj2
             refine old hy (fun n hn=>?_)
             have:(begOf rng+(ys'.take (view rng xs).length).length)*E.sz≤j*E.sz:=Nat.mul_le_mul_right _ (by omega)
             rw [Nat.add_mul,← hcsl] at this
             omega)
         exact ⟨_,_,I,_,hrun,hch.1,hch.2,by show _=_; rw [hmin]; rfl⟩
     ·cases hs
   ·cases hs
  ·cases hs
 ·cases hs
end
theorem Z421 {I:Rg} {w:World} {xs:List Int} {cs:List Value} (h:Z560 1 (RD I w (.int .u8)) xs cs):cs=xs.map (Value.int .u8):=by
 apply List.ext_getElem?
 intro i
 by_cases hi:i < xs.length
 ·obtain ⟨vs,h1,h2,h3⟩:=h.2 i xs[i] (List.getElem?_eq_getElem hi)
  have h1:vs=[.int .u8 xs[i]]:=h1
  subst h1
  have:=h3 0 _ rfl
  rw [Nat.mul_one,Nat.add_zero] at this
  rw [this,List.getElem?_map,List.getElem?_eq_getElem hi]
  rfl
 ·have hl:=h.1
  rw [List.getElem?_eq_none (by omega),List.getElem?_eq_none (by simp; omega)]
theorem Z149 {P:Program} {I:Rg} {w:World} {A:Option Addr} {xs:List Int} {c:Nat}
  (hk:xs=[]∨∃ a:Addr,A=some a∧a.spot=none∧RowAt (fun _ _=>True) 1 (RD I w (.int .u8)) w xs a) :
  (Conv.bytesToString (.slice A xs.length c)).run P w=.ok (.string (Z581 xs)) w:=by
 rcases hk with rfl | ⟨a,rfl,hs,hr⟩
 ·cases A with
  | none=>rfl
  | some a=>exact run_bytesToString w a 0 c [] (by simp [loadCells,loadCellsFrom,Sem.run_pure])
 ·obtain ⟨cs,h1,h2⟩:=hr.cells
  have e:=Z421 h1
  subst e
  refine run_bytesToString w a xs.length c xs ?_
  have:=run_loadCells_list (P:=P) w a (xs.map (Value.int .u8)) (fun j v hv=>by rw [Z404 hs]; exact h2 j v hv)
  simpa using this
end Go.Abs
