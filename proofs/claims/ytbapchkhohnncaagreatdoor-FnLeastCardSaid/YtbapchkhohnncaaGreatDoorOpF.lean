import Derived.Test.YtbapchkhohnncaaGreatDoorOpE
set_option linter.unusedSimpArgs false
set_option linter.unusedSectionVars false
set_option linter.unusedVariables false
namespace Go.Abs
section
variable {P:Program} {F:Fr} {I:Rg} {β:Bt} {σ:Sg} {w:World} {ty:Nat→Option TyI}
theorem do_len (hty:TysOk P ty) (h:Inv F I β σ w) {get:Nat→Option Box} {T ty':TypeId} {l:Lf} {e:Eff} {u:Value} (hs:Z716 ty get T l=some e)
  (hg:∀ b∈e.rd,σ b=get b) (hl:RL I F.J β σ w l u):e.upd=[]∧∃ u',(Builtin.len_ #[T] ty' #[u]).run P w=.ok u' w∧RV I F.J β σ w e.v u':=by
 unfold Z716 at hs
 cases hT:ty T with
 | none=>simp [hT] at hs
 | some TI =>
  obtain ⟨d,hund,hds,_⟩:=(hty T TI hT).desc
  simp only [hT] at hs
  cases hDs:TI.ds with
  | str =>
   rw [hDs] at hds
   simp only [DsOk] at hds
   subst hds
   simp only [hDs] at hs
   cases l with
   | sc v =>
    cases v with
    | string s =>
     have:=Z445 hs
     subst this
     simp only [RL] at hl
     subst hl
     exact ⟨rfl,.int .i64 (s.size:Int),by simp [Builtin.len_,run_underlying hund,goInt],rfl⟩
    | _=>simp at hs
   | _=>simp at hs
  | slice el =>
   rw [hDs] at hds
   simp only [DsOk] at hds
   subst hds
   simp only [hDs] at hs
   have hrun:∀ A n c,(Builtin.len_ #[T] ty' #[.slice A n c]).run P w=.ok (.int .i64 (n:Int)) w:=fun A n c=>by
    simp [Builtin.len_,run_underlying hund,goInt]
   cases l with
   | arr b ver ix base n hi =>
    have:=Z445 hs
    subst this
    obtain ⟨_,x,_,A,_,rfl⟩:=hl
    exact ⟨rfl,_,hrun _ _ _,rfl⟩
   | sc v =>
    cases v with
    | slice A n c =>
     cases A with
     | some _=>simp at hs
     | none =>
      cases n with
      | succ _=>simp at hs
      | zero =>
       cases c with
       | succ _=>simp at hs
       | zero =>
        have:=Z445 (rd:=[]) hs
        subst this
        simp only [RL] at hl
        subst hl
        exact ⟨rfl,_,hrun _ _ _,rfl⟩
    | _=>simp at hs
   | list bor t xs =>
    simp only at hs
    have:=Z445 hs
    subst this
    obtain ⟨A,c,rfl,_⟩:=hl
    exact ⟨rfl,_,hrun _ _ _,rfl⟩
   | slice b ver rng =>
    obtain ⟨x,hx,hsl⟩:=hl
    simp only at hs
    cases hb:get b with
    | none=>simp [hb] at hs
    | some y =>
     cases y with
     | row ver' t xs =>
      simp only [hb] at hs
      cases hver:Nat.beq ver ver' with
      | false=>simp [hver] at hs
      | true =>
       simp only [hver,cond_true] at hs
       have hver:=Nat.eq_of_beq_eq_true hver
       subst hver
       cases rng with
       | none =>
        have:=Z445 hs
        subst this
        have hxb:σ b=some (.row ver t xs):=by rw [hg b (by simp),hb]
        rw [hx] at hxb; injection hxb with hxb; subst hxb
        obtain ⟨A,c,rfl,_⟩:=hsl.2 rfl
        exact ⟨rfl,_,hrun _ _ _,rfl⟩
       | some p =>
        obtain ⟨off,n⟩:=p
        have:=Z445 hs
        subst this
        have hxb:σ b=some (.row ver t xs):=by rw [hg b (by simp),hb]
        rw [hx] at hxb; injection hxb with hxb; subst hxb
        obtain ⟨A,c,rfl,_⟩:=hsl.2 rfl
        exact ⟨rfl,_,hrun _ _ _,rfl⟩
     | _=>simp [hb] at hs
   | _=>simp at hs
  | _=>simp [hDs] at hs
theorem Z280:∀ {ps:List PV} {ids:List Nat} {vs:List Value},capIds ps=some ids→RVs I F.J β σ w ps vs→CapsAt β σ ids vs
 | [],ids,vs,h,hv=>by
  simp only [capIds,Option.some.injEq] at h
  subst h
  exact hv
 | p :: r,ids,vs,h,hv=>by
  obtain ⟨v,rest,rfl,h1,h2⟩:=hv
  match p,h,h1 with
  | .one (.ref b 0 0 0 0 0),h,h1 =>
   simp only [capIds] at h
   cases hr:capIds r with
   | none=>simp [hr] at h
   | some l =>
    simp only [hr,Option.some.injEq] at h
    subst h
    obtain ⟨_,x,hx,hra⟩:=h1
    exact ⟨v,rest,rfl,⟨x,hx,hra⟩,Z280 hr h2⟩
theorem Z706 {ρ:Operand→PV} {ev:Operand→Value}:∀ {xs:List Operand},(∀ x∈xs,RV I F.J β σ w (ρ x) (ev x))→RVs I F.J β σ w (xs.map ρ) (xs.map ev)
 | [],_=>rfl
 | x :: r,h=>⟨ev x,r.map ev,rfl,h x (by simp),Z706 fun y hy=>h y (by simp [hy])⟩
theorem rt_nth:∀ {xs:List (Bool×List Lf)} {vs:List Value} {n:Nat} {p:Bool×List Lf},RT I F.J β σ w xs vs→nth xs n=some p→∃ v,vs[n]?=some v∧RP I F.J β σ w p v
 | [],vs,n,p,_,h=>by simp [nth] at h
 | q :: r,vs,0,p,h,hn=>by
  obtain ⟨v,rest,rfl,h1,_⟩:=h
  simp only [nth,Option.some.injEq] at hn
  subst hn
  exact ⟨v,rfl,h1⟩
 | q :: r,vs,n+1,p,h,hn=>by
  obtain ⟨v,rest,rfl,_,h2⟩:=h
  obtain ⟨v',h3,h4⟩:=rt_nth h2 (by simpa [nth] using hn)
  exact ⟨v',by simpa using h3,h4⟩
theorem Z701 {ag:Bool} {ls:List Lf} {p:PV} {v:Value} (h:mkvO ag ls=some p) (hp:RP I F.J β σ w (ag,ls) v):RV I F.J β σ w p v:=by
 cases ag with
 | true =>
  simp only [mkvO,Option.some.injEq] at h
  subst h
  exact hp
 | false =>
  match ls,h,hp with
  | [l],h,hp =>
   simp only [mkvO,Option.some.injEq] at h
   subst h
   exact hp
  | [],h,_=>simp [mkvO] at h
  | _ :: _ :: _,h,_=>simp [mkvO] at h
theorem Z520 {T:TypeId} {i:TyI} (hT:TyOk P T i) {vs:List Value} {off:Nat} {ls sub:List Lf} {p:PV} (hl:RLs I F.J β σ w ls vs) (hs:subL off i.sz ls=some sub) (hp:mkvO i.ag sub=some p) :
  ∃ u,(part T vs.toArray off).run P w=.ok u w∧RV I F.J β σ w p u:=by
 obtain ⟨h1,h2,h3⟩:=hl.sub hs
 cases hag:i.ag with
 | true =>
  have:p=.agg sub:=by simpa [mkvO,hag] using hp.symm
  subst this
  refine ⟨.agg ((vs.drop off).take i.sz).toArray,?_,_,rfl,h1⟩
  simp [part,hT.run_isAgg,hT.run_size,hag]
 | false =>
  match sub,hp,h1 with
  | [l],hp,h1 =>
   have:p=.one l:=by simpa [mkvO,hag] using hp.symm
   subst this
   obtain ⟨u,r,h4,h5,_⟩:=h1
   have hz:i.sz=1:=by simpa using h3.symm
   have h6:vs[off]?=some u:=by
    have:=congrArg (fun l=>l[0]?) h4
    simp [List.getElem?_take,hz] at this
    exact this
   exact ⟨u,by simp [part,hT.run_isAgg,hag,h6],h5⟩
  | [],hp,_=>simp [mkvO,hag] at hp
  | _ :: _ :: _,hp,_=>simp [mkvO,hag] at hp
theorem Z364:∀ {ls:List Lf} {us vs:List Value},scVals ls=some us→RLs I F.J β σ w ls vs→vs=us
 | [],us,vs,h,hl=>by
  simp only [scVals,Option.some.injEq] at h
  subst h
  exact hl
 | l :: r,us,vs,h,hl=>by
  match l,h,hl with
  | .sc v,h,hl =>
   obtain ⟨u,rest,rfl,h1,h2⟩:=hl
   simp only [scVals] at h
   cases hr:scVals r with
   | none=>simp [hr] at h
   | some q =>
    simp only [hr,Option.some.injEq] at h
    subst h
    simp only [RL] at h1
    rw [h1,Z364 hr h2]
theorem Z213 {p:PV} {n:Int} (h:intOf? p=some n):∃ k,p=.one (.sc (.int k n)):=by
 match p,h with
 | .one (.sc (.int k m)),h =>
  simp only [intOf?,Option.some.injEq] at h
  exact ⟨k,by rw [h]⟩
theorem Z278 {s:ByteArray} {i:Nat} (h:i < s.size):s[i]?=some s[i]∧byteAt s (i:Int)=(s[i].toNat:Int):=by
 refine ⟨by simp [h],?_⟩
 have h':i < s.data.size:=h
 simp only [byteAt,Int.toNat_natCast,Array.getElem?_eq_getElem h',Option.getD_some]
 rfl
theorem Z99 (hty:TysOk P ty) (h:Inv F I β σ w) {get:Nat→Option Box} {fresh:Nat} {ρ:Operand→PV} {ev:Operand→Value} {o:Oper} {e:Eff}
  (hs:stepOp ty get fresh ρ o.op=some e) (hgd:e.g=true) (hg:∀ b∈e.rd,σ b=get b) (hf:σ fresh=none) (hv:∀ x∈o.op.operands,RV I F.J β σ w (ρ x) (ev x)) :
  Does P F (updF e.upd σ) e.v I β σ w (execOp ev o):=by
 obtain ⟨dst,op,type,pos,after,guard⟩:=o
 simp only at hs hv
 cases op with
 | move x =>
  have:=Z445 (rd:=[]) hs
  subst this
  exact Does.pure' h (by simp [execOp]) (hv x (by simp [Op.operands]))
 | assign x =>
  have:=Z445 (rd:=[]) hs
  subst this
  exact Does.pure' h (by simp [execOp]) (hv x (by simp [Op.operands]))
 | alloc T =>
  simp only [stepOp] at hs
  cases hT:ty T with
  | none=>simp [hT] at hs
  | some i =>
   simp only [hT,Option.some.injEq] at hs
   subst hs
   obtain ⟨z,hz,hzc⟩:=(hty T i hT).run_zero w
   have hzl:z.cells=i.zero.toArray:=by apply Array.ext'; simpa using hzc
   obtain ⟨w',I',β',h1,h2,h3,h4⟩:=Z293 (T:=T) (P:=P) h hf (RLs.of_sc i.zero)
   refine ⟨_,_,w',?_,.inl rfl,I',β',h2,h3,h4⟩
   simp only [execOp]
   exact run_v (by simpa [Instr.alloc,hz,newVar,hzl] using h1)
 | box T x =>
  simp only [stepOp] at hs
  cases hl:(ρ x).leaves get with
  | none=>simp [hl] at hs
  | some q =>
   obtain ⟨ls,rd⟩:=q
   simp only [hl,Option.some.injEq] at hs
   subst hs
   have hx:=Z80 hl hg (hv x (by simp [Op.operands]))
   obtain ⟨w',I',β',h1,h2,h3,h4⟩:=Z293 (T:=T) (P:=P) h hf hx
   refine ⟨_,_,w',?_,.inl rfl,I',β',h2,h3,h4⟩
   simp only [execOp]
   exact run_v (by simpa [Instr.box,newVar] using h1)
 | build T parts =>
  simp only [stepOp] at hs
  cases hT:ty T with
  | none=>simp [hT] at hs
  | some TI =>
   cases hp:partsL get ρ parts.toList with
   | none=>simp [hT,hp] at hs
   | some q =>
    obtain ⟨ps,rd⟩:=q
    simp only [hT,hp] at hs
    have hvp:∀ p∈parts.toList,RV I F.J β σ w (ρ p.2) (ev p.2):=fun p hp=>hv p.2 (by simp [Op.operands]; exact ⟨p.1,by simpa using hp⟩)
    have fin:∀ ls,eff (.agg ls) rd=some e→((∃ fs,TI.ds=.struct fs∧fillL (fun i=>match nth fs i with | some (off,t)=>(match sizeT ty t with | some s=>some (off,s) | none=>none) | none=>none) (TI.zero.map .sc) ps=some ls) ∨
      (∃ n e s,TI.ds=.arr n e∧sizeT ty e=some s∧fillL (fun i=>some (i*s,s)) (TI.zero.map .sc) ps=some ls))→Does P F (updF e.upd σ) e.v I β σ w (execOp ev ⟨dst,.build T parts,type,pos,after,guard⟩):=by
     intro ls he hfl
     have:=Z445 he
     subst this
     obtain ⟨u,h1,h2⟩:=Z434 hty h hT hp hg hvp hfl
     exact Does.pure' h (by simp [execOp,h1]) h2
    cases hDs:TI.ds with
    | struct fs =>
     simp only [hDs] at hs
     split at hs
     ·rename_i ls hfl
      exact fin ls hs (.inl ⟨fs,hDs,hfl⟩)
     ·cases hs
    | arr n el =>
     simp only [hDs] at hs
     cases hse:sizeT ty el with
     | none=>simp [hse] at hs
     | some s =>
      simp only [hse] at hs
      split at hs
      ·rename_i ls hfl
       exact fin ls hs (.inr ⟨n,el,s,hDs,hse,hfl⟩)
      ·cases hs
    | _=>simp [hDs] at hs
 | buildSlice T len parts =>
  simp only [stepOp] at hs
  cases hT:ty T with
  | none=>simp [hT] at hs
  | some TI =>
   cases hp:partsL get ρ parts.toList with
   | none=>simp [hT,hp] at hs
   | some q =>
    obtain ⟨ps,rd⟩:=q
    simp only [hT,hp] at hs
    have hvp:∀ p∈parts.toList,RV I F.J β σ w (ρ p.2) (ev p.2):=fun p hp=>hv p.2 (by simp [Op.operands]; exact ⟨p.1,by simpa using hp⟩)
    cases hDs:TI.ds with
    | slice el =>
     simp only [hDs] at hs
     cases hE:ty el with
     | none=>simp [hE] at hs
     | some E =>
      simp only [hE] at hs
      split at hs
      ·cases hs
      ·rename_i ls hfl
       split at hs
       ·cases hs
       ·rename_i ls' gone him
        split at hs
        ·rename_i xs hun
         simp only [Option.some.injEq] at hs
         subst hs
         have hfg:fresh ∉ gone:=by
          intro hm
          have h1:=Z476 him fresh hm
          have h2:=hg fresh (by simp [hm])
          rw [hf] at h2
          rw [← h2] at h1
          cases h1
         obtain ⟨u,w',I',β',h1,h2,h3,h4⟩:=Z43 hty h hT hDs hE hp hg hvp hfl him hun (of_decide_eq_true hgd) hf hfg
         exact ⟨_,u,w',by simp [execOp,h1],.inl rfl,I',β',h2,h3,h4⟩
        ·cases hs
    | _=>simp [hDs] at hs
 | load T a =>
  simp only [stepOp] at hs
  have ha:=hv a (by simp [Op.operands])
  cases hr:ρ a with
  | one l =>
   rw [hr] at hs ha
   obtain ⟨h0,u,h1,h2⟩:=Z605 hty h hs hg ha
   rw [h0]
   exact Does.pure' h (by simp [execOp,h1]) h2
  | _=>rw [hr] at hs; cases hs
 | store T a x =>
  simp only [stepOp] at hs
  have ha:=hv a (by simp [Op.operands])
  have hx:=hv x (by simp [Op.operands])
  cases hr:ρ a with
  | one l =>
   rw [hr] at hs ha
   obtain ⟨h0,w',I',β',h1,h2,h3⟩:=Z437 hty h hs hg ha hx
   rw [h0]
   exact ⟨_,undef,w',by simp [execOp,h1],.inr ⟨rfl,rfl⟩,I',β',h2,h3,trivial⟩
  | _=>rw [hr] at hs; cases hs
 | nilCheck x =>
  simp only [stepOp] at hs
  have hx:=hv x (by simp [Op.operands])
  cases hr:ρ x with
  | one l =>
   rw [hr] at hs hx
   simp only at hs
   cases hlv:Z483 get l with
   | false=>simp [hlv] at hs
   | true =>
    simp only [hlv,cond_true] at hs
    have:=Z445 hs
    subst this
    have hu:∃ a,ev x=.pointer (some a):=by
     cases l with
     | ref b ver i base len d =>
      obtain ⟨_,y,hy,hra⟩:=hx
      simp only [Z483,solid] at hlv
      rw [← hg b (by simp [rdOf]),hy] at hlv
      cases y with
      | var T cells=>obtain ⟨blk,_,hu⟩:=hra; exact ⟨_,hu⟩
      | row ver' t xs=>obtain ⟨_,blk,o,_,hu⟩:=hra.2 (Nat.eq_of_beq_eq_true hlv); exact ⟨_,hu⟩
      | pool ver' t xs inn=>obtain ⟨_,blk,o,_,hu⟩:=hra.2 (Nat.eq_of_beq_eq_true hlv); exact ⟨_,hu⟩
      | gone=>simp at hlv
     | eref bor t xs i base len d=>obtain ⟨_,_,a,hu,_⟩:=hx; exact ⟨_,hu⟩
     | _=>simp [Z483] at hlv
    obtain ⟨a,hu⟩:=hu
    refine Does.pure' h (u:=ev x) ?_ hx
    simp [execOp,hu]
  | _=>rw [hr] at hs; cases hs
 | binOp op T x y yT =>
  simp only [stepOp] at hs
  have hx:=hv x (by simp [Op.operands])
  have hy:=hv y (by simp [Op.operands])
  split at hs
  ·rename_i a b hra hrb
   rw [hra] at hx
   rw [hrb] at hy
   simp only [RV,RL] at hx hy
   cases hT:ty T with
   | none=>simp [hT] at hs
   | some TI =>
    simp only [hT] at hs
    split at hs
    ·rename_i g v hb
     simp only [Option.some.injEq] at hs
     subst hs
     refine Does.pure' h (u:=v) ?_ rfl
     have:=Z177 (w:=w) hty hT hb hgd x y
     simp only [execOp,hx,hy]
     exact run_v this
    ·cases hs
  ·rename_i ls ms hra hrb
   rw [hra] at hx
   rw [hrb] at hy
   obtain ⟨us,hu,hus⟩:=hx
   obtain ⟨vs,hv',hvs⟩:=hy
   split at hs
   ·rename_i TI us' vs' hT h1 h2
    have:=Z364 h1 hus
    subst this
    have:=Z364 h2 hvs
    subst this
    cases hc:TI.cmp with
    | false=>simp [hc] at hs
    | true =>
     simp only [hc,cond_true] at hs
     split at hs
     ·rename_i eb he
      obtain ⟨hq1,hq2⟩:=(hty T TI hT).eql hc w us vs eb he
      cases op with
      | eql =>
       have:=Z445 (rd:=[]) hs
       subst this
       refine Does.pure' h (u:=.bool eb) ?_ rfl
       have hb:=Z150 hq2
       simp only [execOp,hu,hv']
       refine run_v ?_
       rw [Sem.run_bind,(hq1 x y).1]
       exact hb
      | neq =>
       have:=Z445 (rd:=[]) hs
       subst this
       refine Does.pure' h (u:=.bool (!eb)) ?_ rfl
       have hb:=Z153 hq2
       simp only [execOp,hu,hv']
       refine run_v ?_
       rw [Sem.run_bind,(hq1 x y).2]
       exact hb
      | _=>simp at hs
     ·cases hs
   ·cases hs
  ·rename_i l hra hrb
   split at hs
   ·unfold eqNil at hs
    split at hs
    ·rename_i TI hT
     split at hs
     ·rename_i el hds
      split at hs
      ·rename_i t xs hc
       have:=Z445 hs
       subst this
       rw [hra] at hx
       rw [hrb] at hy
       have hy:ev y=.slice none 0 0:=hy
       obtain ⟨A,c,hu,hA⟩:=Z118 (fun b hb=>hg b hb) hc hx
       obtain ⟨d,hd1,hd2,_⟩:=(hty T TI hT).desc
       rw [hds] at hd2
       have hd2:d=.slice el:=hd2
       subst hd2
       refine Does.pure' h (u:=.bool A.isNone) ?_ ⟨_,rfl,fun e=>?_⟩
       ·simp only [execOp,hu,hy]
        refine run_v ?_
        rw [Sem.run_bind,show eqGuard .eql T x y (.slice A xs.length c) (.slice none 0 0)=pure () from rfl]
        exact Z151 hd1 _ _ _
       ·have:=hA (by cases A with | none=>rfl | some a=>cases e)
        subst this
        rfl
      ·cases hs
     ·cases hs
    ·cases hs
   ·cases hs
  ·cases hs
 | unOp op T x =>
  simp only [stepOp] at hs
  have hx:=hv x (by simp [Op.operands])
  split at hs
  ·rename_i a hra
   rw [hra] at hx
   simp only [RV,RL] at hx
   split at hs
   ·rename_i v hu
    have:=Z445 (rd:=[]) hs
    subst this
    refine Does.pure' h (u:=v) ?_ rfl
    have:=Z389 (P:=P) (w:=w) hu
    simp [execOp,hx,this]
   ·cases hs
  ·cases hs
 | convert src dt x =>
  simp only [stepOp] at hs
  have hx:=hv x (by simp [Op.operands])
  split at hs
  ·rename_i S D k n hS hD hrx
   rw [hrx] at hx
   simp only [RV,RL] at hx
   split at hs
   ·rename_i k' hDs
    have:=Z445 (rd:=[]) hs
    subst this
    obtain ⟨d,hund,hds,_⟩:=(hty dt D hD).desc
    rw [hDs] at hds
    simp only [DsOk] at hds
    subst hds
    obtain ⟨d',hund',_⟩:=(hty src S hS).desc
    refine Does.pure' h (u:=.int k' (k'.wrap n)) ?_ rfl
    have:(convert src dt (.int k n)).run P w=.ok (.int k' (k'.wrap n)) w:=by
     simp [convert,run_underlying hund,run_underlying hund',Conv.intToInt]
    simp [execOp,hx,this]
   ·cases hs
  ·rename_i S D l hno hS hD hrx
   rw [hrx] at hx
   split at hs
   ·rename_i e xs hSds hDds hc
    split at hs
    ·rename_i E hE
     split at hs
     ·rename_i hEds
      have:=Z445 hs
      subst this
      obtain ⟨d,hund,hds,_⟩:=(hty dt D hD).desc
      rw [hDds] at hds
      simp only [DsOk] at hds
      subst hds
      obtain ⟨d',hund',hds',_⟩:=(hty src S hS).desc
      rw [hSds] at hds'
      simp only [DsOk] at hds'
      subst hds'
      obtain ⟨d'',hund'',hds'',_⟩:=(hty e E hE).desc
      rw [hEds] at hds''
      simp only [DsOk] at hds''
      subst hds''
      obtain ⟨A,c,hu,hk⟩:=Z119 h hc hg hx
      refine Does.pure' h (u:=.string (Z581 xs)) ?_ rfl
      have:=Z149 (P:=P) (w:=w) (c:=c) hk
      rw [hu] at hx
      simp [execOp,hu,run_convert_bytes_string w src dt e A xs.length c hund' hund'' hund,this]
     ·cases hs
    ·cases hs
   ·cases hs
  ·cases hs
 | makeFunc fn first captured =>
  simp only [stepOp] at hs
  cases fn with
  | func f =>
   simp only at hs
   split at hs
   ·rename_i ids hfirst hids
    have:=Z445 (rd:=[]) hs
    subst this
    have hcap:=Z280 hids (Z706 (ev:=ev) fun x hx=>hv x (by simp [Op.operands]; exact .inr (by simpa using hx)))
    refine Does.pure' h (u:=.func (.func f) #[] (captured.toList.map ev).toArray) ?_ ⟨_,rfl,hcap⟩
    have hf0:first=#[]:=by apply Array.ext'; simpa using hfirst
    subst hf0
    simp [execOp,Instr.makeFunc]
    apply Array.ext'
    simp
   ·cases hs
  | _=>simp at hs
 | makeSlice T l c =>
  simp only [stepOp] at hs
  have hl:=hv l (by simp [Op.operands])
  have hc:=hv c (by simp [Op.operands])
  split at hs
  ·rename_i TI n m hT hln hcm
   obtain ⟨k,hlk⟩:=Z213 hln
   obtain ⟨k',hck⟩:=Z213 hcm
   rw [hlk] at hl
   rw [hck] at hc
   simp only [RV,RL] at hl hc
   split at hs
   ·rename_i el hDs
    split at hs
    ·rename_i E hE
     simp only [Option.some.injEq] at hs
     subst hs
     simp only [Bool.and_eq_true,decide_eq_true_eq] at hgd
     obtain ⟨⟨hnm,h0⟩,hb⟩:=hgd
     subst hnm
     obtain ⟨u,w',I',β',h1,h2,h3,h4⟩:=Z72 (k:=k) (k':=k') hty h hT hDs hE h0 hb hf
     exact ⟨_,u,w',by simp [execOp,hl,hc,h1],.inl rfl,I',β',h2,h3,h4⟩
    ·cases hs
   ·cases hs
  ·cases hs
 | slice T x lo hi mx =>
  cases mx with
  | some mx =>
   cases lo with
   | none=>simp [stepOp] at hs
   | some lo =>
    cases hi with
    | none=>simp [stepOp] at hs
    | some hi =>
     simp only [stepOp] at hs
     have hx:=hv x (by simp [Op.operands])
     have hlo:=hv lo (by simp [Op.operands])
     have hhi:=hv hi (by simp [Op.operands])
     have hmx:=hv mx (by simp [Op.operands])
     split at hs
     ·rename_i l lo' hi' m' hrx hl1 hl2 hl3
      rw [hrx] at hx
      obtain ⟨k1,hk1⟩:=Z213 hl1
      obtain ⟨k2,hk2⟩:=Z213 hl2
      obtain ⟨k3,hk3⟩:=Z213 hl3
      rw [hk1] at hlo
      rw [hk2] at hhi
      rw [hk3] at hmx
      simp only [RV,RL] at hlo hhi hmx
      obtain ⟨h0,u,h1,h2⟩:=Z294 (kl:=k1) (kh:=k2) (km:=k3) hty h hs hgd hg hx
      rw [h0]
      refine Does.pure' h ?_ h2
      simp [execOp,hlo,hhi,hmx,h1]
     ·cases hs
  | none =>
   simp only [stepOp] at hs
   have hx:=hv x (by simp [Op.operands])
   split at hs
   ·rename_i l lo' hi' hrx hlo hhi
    rw [hrx] at hx
    have opt:∀ {z:Option Operand} {z':Option Int},(∀ y∈z,RV I F.J β σ w (ρ y) (ev y))→optInt ρ z=some z'→∃ k,z.map ev=z'.map (Value.int k):=by
     intro z z' hz hzz
     cases z with
     | none=>simp only [optInt,Option.some.injEq] at hzz; subst hzz; exact ⟨.i64,rfl⟩
     | some y =>
      simp only [optInt] at hzz
      cases hy:intOf? (ρ y) with
      | none=>simp [hy] at hzz
      | some n =>
       simp only [hy,Option.some.injEq] at hzz
       subst hzz
       obtain ⟨k,hk⟩:=Z213 hy
       have:=hz y (by simp)
       rw [hk] at this
       simp only [RV,RL] at this
       exact ⟨k,by simp [this]⟩
    obtain ⟨kl,hkl⟩:=opt (fun y hy=>hv y (by cases hy; simp [Op.operands])) hlo
    obtain ⟨kh,hkh⟩:=opt (fun y hy=>hv y (by cases hy; simp [Op.operands])) hhi
    obtain ⟨h0,u,h1,h2⟩:=Z436 (kl:=kl) (kh:=kh) hty h hs hgd hg hx
    rw [h0]
    refine Does.pure' h ?_ h2
    simp [execOp,hkl,hkh,h1]
   ·cases hs
 | fieldAddr S x f =>
  simp only [stepOp] at hs
  have hx:=hv x (by simp [Op.operands])
  cases hT:ty S with
  | none=>simp [hT] at hs
  | some TI =>
   obtain ⟨d,hund,hds,_⟩:=(hty S TI hT).desc
   simp only [hT] at hs
   cases hDs:TI.ds with
   | struct fs =>
    simp only [hDs] at hs
    rw [hDs] at hds
    obtain ⟨fields,rfl,hfs⟩:=hds
    cases hn:nth fs f with
    | none=>simp [hn] at hs
    | some q =>
     obtain ⟨off,t⟩:=q
     simp only [hn] at hs
     rw [nth_eq,← hfs] at hn
     simp only [List.getElem?_map] at hn
     cases hfi:fields.toList[f]? with
     | none=>simp [hfi] at hn
     | some fd =>
      simp only [hfi,Option.map_some,Option.some.injEq,Prod.mk.injEq] at hn
      obtain ⟨rfl,rfl⟩:=hn
      cases hst:ty fd.type with
      | none=>simp [sizeT,hst] at hs
      | some TF =>
       have hTF:=hty fd.type TF hst
       cases hz:TF.sz with
       | zero=>simp [sizeT,hst,hz] at hs
       | succ zz =>
        simp only [sizeT,hst,hz] at hs
        have hrun:∀ blk o,(Instr.fieldAt S (.pointer (some ⟨blk,o,none⟩)) f).run P w=.ok (.pointer (some ⟨blk,o+fd.offset,none⟩)) w:=by
         intro blk o
         have hfi':fields[f]?=some fd:=by simpa using hfi
         simp [Instr.fieldAt,Instr.sureAddr,run_underlying hund,hfi',fieldPlace,hTF.run_size,hz,Z406]
        split at hs
        ·rename_i b ver i base hrx
         rw [hrx] at hx
         cases hsol:solid get (.ref b ver i base 0 0) with
         | false=>simp [hsol] at hs
         | true =>
          simp only [hsol,cond_true] at hs
          have:=Z445 hs
          subst this
          obtain ⟨_,y,hy,hra⟩:=hx
          have hyg:=hg b (by simp)
          rw [hy] at hyg
          simp only [solid,← hyg] at hsol
          cases y with
          | var T' cells =>
           obtain ⟨blk,hbb,hu⟩:=hra
           refine Does.pure' h (u:=.pointer (some ⟨blk,base+fd.offset,none⟩)) ?_ ⟨.inl ⟨rfl,rfl⟩,_,hy,blk,hbb,by simp⟩
           simp only [execOp,hu]
           exact run_v (by simpa using hrun blk base)
          | row ver' t' xs =>
           obtain ⟨hi,blk,o,hbb,hu⟩:=hra.2 (Nat.eq_of_beq_eq_true hsol)
           refine Does.pure' h (u:=.pointer (some ⟨blk,o+i*t'.sz+(base+fd.offset),none⟩)) ?_ ⟨.inl ⟨rfl,rfl⟩,_,hy,hra.1,fun _=>⟨hi,blk,o,hbb,by simp⟩⟩
           simp only [execOp,hu]
           exact run_v (by simpa [Nat.add_assoc] using hrun blk (o+i*t'.sz+base))
          | pool ver' t' xs inn =>
           obtain ⟨hi,blk,o,hbb,hu⟩:=hra.2 (Nat.eq_of_beq_eq_true hsol)
           refine Does.pure' h (u:=.pointer (some ⟨blk,o+i+(base+fd.offset),none⟩)) ?_ ⟨.inl ⟨rfl,rfl⟩,_,hy,hra.1,fun _=>⟨hi,blk,o,hbb,by simp⟩⟩
           simp only [execOp,hu]
           exact run_v (by simpa [Nat.add_assoc] using hrun blk (o+i+base))
          | gone=>simp at hsol
        ·rename_i bor t' xs i base hrx
         rw [hrx] at hx
         have:=Z445 (rd:=[]) hs
         subst this
         obtain ⟨_,hi,a,hu,hrow⟩:=hx
         refine Does.pure' h (u:=.pointer (some ⟨a.block,a.off+i*t'.sz+(base+fd.offset),none⟩)) ?_ ⟨.inl ⟨rfl,rfl⟩,hi,a,by simp,hrow⟩
         simp only [execOp,hu]
         exact run_v (by simpa [Nat.add_assoc] using hrun a.block (a.off+i*t'.sz+base))
        ·cases hs
   | _=>simp [hDs] at hs
 | field S x f =>
  simp only [stepOp] at hs
  have hx:=hv x (by simp [Op.operands])
  cases hT:ty S with
  | none=>simp [hT] at hs
  | some TI =>
   obtain ⟨d,hund,hds,_⟩:=(hty S TI hT).desc
   simp only [hT] at hs
   split at hs
   ·rename_i fs ls hDs hrx
    rw [hrx] at hx
    obtain ⟨vs,hu,hvs⟩:=hx
    rw [hDs] at hds
    obtain ⟨fields,rfl,hfs⟩:=hds
    cases hn:nth fs f with
    | none=>simp [hn] at hs
    | some q =>
     obtain ⟨off,t⟩:=q
     simp only [hn] at hs
     rw [nth_eq,← hfs] at hn
     simp only [List.getElem?_map] at hn
     cases hfi:fields.toList[f]? with
     | none=>simp [hfi] at hn
     | some fd =>
      simp only [hfi,Option.map_some,Option.some.injEq,Prod.mk.injEq] at hn
      obtain ⟨rfl,rfl⟩:=hn
      cases hst:ty fd.type with
      | none=>simp [hst] at hs
      | some TF =>
       have hTF:=hty fd.type TF hst
       simp only [hst] at hs
       split at hs
       ·rename_i sub hsub
        obtain ⟨p,hp,rfl⟩:=Z299 hs
        obtain ⟨u,h1,h2⟩:=Z520 hTF hvs hsub hp
        refine Does.pure' h (u:=u) ?_ h2
        have hfi':fields[f]?=some fd:=by simpa using hfi
        have:(Instr.field S (.agg vs.toArray) f).run P w=.ok u w:=by
         simp [Instr.field,run_underlying hund,hfi',asAgg,h1]
        simp only [execOp,hu]
        exact run_v this
       ·cases hs
   ·cases hs
 | indexAddr T x i =>
  simp only [stepOp] at hs
  have hx:=hv x (by simp [Op.operands])
  have hi:=hv i (by simp [Op.operands])
  split at hs
  ·rename_i l n hrx hin
   obtain ⟨k,hk⟩:=Z213 hin
   rw [hrx] at hx
   rw [hk] at hi
   simp only [RV,RL] at hi
   obtain ⟨h0,u,h1,h2⟩:=Z71 (k:=k) hty h hs hgd hg hx
   rw [h0]
   refine Does.pure' h ?_ h2
   simp [execOp,hi,h1]
  ·cases hs
 | index T x i =>
  simp only [stepOp] at hs
  have hx:=hv x (by simp [Op.operands])
  have hi:=hv i (by simp [Op.operands])
  split at hs
  ·rename_i TI n hT hin
   obtain ⟨d,hund,hds,_⟩:=(hty T TI hT).desc
   obtain ⟨k,hk⟩:=Z213 hin
   rw [hk] at hi
   simp only [RV,RL] at hi
   split at hs
   ·rename_i s hDs hrx
    rw [hrx] at hx
    simp only [RV,RL] at hx
    rw [hDs] at hds
    simp only [DsOk] at hds
    subst hds
    simp only [Option.some.injEq] at hs
    subst hs
    obtain ⟨h0,h1⟩:=Z568 hgd
    obtain ⟨m,rfl⟩:=Int.eq_ofNat_of_zero_le h0
    have hm:m < s.size:=by omega
    obtain ⟨h2,h3⟩:=Z278 hm
    refine Does.pure' h (u:=.int .u8 (byteAt s (m:Int))) ?_ rfl
    have:(Instr.index T (.string s) (.int k (m:Int))).run P w=.ok (.int .u8 (byteAt s (m:Int))) w:=by
     simp [Instr.index,asIntOf,run_underlying hund,hm,h3]
    simp only [execOp,hx,hi]
    exact run_v this
   ·rename_i len el ls hDs hrx
    rw [hrx] at hx
    obtain ⟨vs,hu,hvs⟩:=hx
    rw [hDs] at hds
    simp only [DsOk] at hds
    subst hds
    cases hE:ty el with
    | none=>simp [hE] at hs
    | some E =>
     have hEl:=hty el E hE
     simp only [hE] at hs
     split at hs
     ·rename_i sub hag hsz hsub
      split at hs
      ·rename_i l hp
       simp only [Option.some.injEq] at hs
       subst hs
       obtain ⟨h0,h1⟩:=Z568 hgd
       obtain ⟨m,rfl⟩:=Int.eq_ofNat_of_zero_le h0
       have hm:m < len:=by omega
       obtain ⟨h2,h3,h4⟩:=hvs.sub hsub
       simp only [List.drop_zero] at h2 h3
       obtain ⟨u,h5,h6⟩:=Z353 hp h2 (by simp; omega)
       have h7:vs[m]?=some u:=by
        rw [List.getElem?_take_of_lt (by simpa using hm)] at h5
        simpa using h5
       refine Does.pure' h (u:=u) ?_ h6
       have:(Instr.index T (.agg vs.toArray) (.int k (m:Int))).run P w=.ok u w:=by
        simp [Instr.index,asIntOf,run_underlying hund,hm,hEl.run_size,hsz,part,hEl.run_isAgg,hag,h7]
       simp only [execOp,hu,hi]
       exact run_v this
      ·cases hs
     ·cases hs
   ·cases hs
  ·cases hs
 | extract t ix =>
  simp only [stepOp] at hs
  have hx:=hv t (by simp [Op.operands])
  split at hs
  ·rename_i xs hrx
   rw [hrx] at hx
   obtain ⟨vs,hu,hvs⟩:=hx
   cases hn:nth xs ix with
   | none=>simp [hn] at hs
   | some q =>
    obtain ⟨ag,ls⟩:=q
    simp only [hn] at hs
    obtain ⟨p,hp,rfl⟩:=Z299 hs
    obtain ⟨v,h1,h2⟩:=rt_nth hvs hn
    refine Does.pure' h (u:=v) ?_ (Z701 hp h2)
    simp [execOp,hu,Instr.extract,h1]
  ·cases hs
 | call c =>
  obtain ⟨callee,args,argTypes⟩:=c
  simp only [stepOp] at hs
  cases callee with
  | builtin b =>
   have hva:∀ x∈args.toList,RV I F.J β σ w (ρ x) (ev x):=fun x hx=>hv x (by simp [Op.operands,Call.operands]; simpa using hx)
   have hmap:args.map ev=(args.toList.map ev).toArray:=by apply Array.ext'; simp
   cases b with
   | len =>
    simp only at hs
    split at hs
    ·rename_i x T hargs hat
     split at hs
     ·rename_i l hrx
      have hx:=hva x (by simp [hargs])
      rw [hrx] at hx
      obtain ⟨h0,u,h1,h2⟩:=do_len (ty':=type) hty h hs hg hx
      rw [h0]
      refine Does.pure' h ?_ h2
      have hat':argTypes=#[T]:=by apply Array.ext'; simpa using hat
      simp [execOp,resolve,invoke,builtin,hmap,hargs,hat',h1]
     ·cases hs
    ·cases hs
   | append =>
    simp only at hs
    split at hs
    ·rename_i x y T T' hargs hat
     split at hs
     ·rename_i d s hrx hry
      cases hTT:Nat.beq T T' with
      | false=>simp [hTT] at hs
      | true =>
       simp only [hTT,cond_true] at hs
       have hTT:=Nat.eq_of_beq_eq_true hTT
       subst hTT
       have hx:=hva x (by simp [hargs])
       have hy:=hva y (by simp [hargs])
       rw [hrx] at hx
       rw [hry] at hy
       obtain ⟨u,w',I',β',h1,h2,h3,h4⟩:=Z292 (ty':=type) hty h hs hgd hg hf hx hy
       have hat':argTypes=#[T,T]:=by apply Array.ext'; simpa using hat
       exact ⟨_,u,w',by simp [execOp,resolve,invoke,builtin,hmap,hargs,hat',h1],.inl rfl,I',β',h2,h3,h4⟩
     ·cases hs
    ·cases hs
   | copy =>
    simp only at hs
    split at hs
    ·rename_i x y T T' hargs hat
     split at hs
     ·rename_i d s hrx hry
      have hx:=hva x (by simp [hargs])
      have hy:=hva y (by simp [hargs])
      rw [hrx] at hx
      rw [hry] at hy
      obtain ⟨u,w',I',β',h1,h2,h3,h4⟩:=Z604 (T':=T') (ty':=type) hty h hs hg hx hy
      have hat':argTypes=#[T,T']:=by apply Array.ext'; simpa using hat
      exact ⟨_,u,w',by simp [execOp,resolve,invoke,builtin,hmap,hargs,hat',h1],.inl rfl,I',β',h2,h3,h4⟩
     ·cases hs
    ·cases hs
   | clear =>
    simp only at hs
    split at hs
    ·rename_i x T hargs hat
     split at hs
     ·rename_i l hrx
      have hx:=hva x (by simp [hargs])
      rw [hrx] at hx
      obtain ⟨u,w',I',β',h1,h2,h3,h4⟩:=Z435 (ty':=type) hty h hs hg hx
      have hat':argTypes=#[T]:=by apply Array.ext'; simpa using hat
      exact ⟨_,u,w',by simp [execOp,resolve,invoke,builtin,hmap,hargs,hat',h1],.inl rfl,I',β',h2,h3,h4⟩
     ·cases hs
    ·cases hs
   | min =>
    simp only at hs
    split at hs
    ·rename_i x y hargs
     split at hs
     ·rename_i k a k' b hrx hry
      split at hs
      ·rename_i hk
       subst hk
       have:=Z445 (rd:=[]) hs
       subst this
       have hx:=hva x (by simp [hargs])
       have hy:=hva y (by simp [hargs])
       rw [hrx] at hx
       rw [hry] at hy
       simp only [RV,RL] at hx hy
       refine Does.pure' h (u:=.int k (if b < a then b else a)) ?_ rfl
       simp [execOp,resolve,invoke,builtin,hmap,hargs,hx,hy,Builtin.min_,Builtin.min2]
      ·cases hs
     ·cases hs
    ·cases hs
   | max =>
    simp only at hs
    split at hs
    ·rename_i x y hargs
     split at hs
     ·rename_i k a k' b hrx hry
      split at hs
      ·rename_i hk
       subst hk
       have:=Z445 (rd:=[]) hs
       subst this
       have hx:=hva x (by simp [hargs])
       have hy:=hva y (by simp [hargs])
       rw [hrx] at hx
       rw [hry] at hy
       simp only [RV,RL] at hx hy
       refine Does.pure' h (u:=.int k (if a < b then b else a)) ?_ rfl
       simp [execOp,resolve,invoke,builtin,hmap,hargs,hx,hy,Builtin.max_,Builtin.max2]
      ·cases hs
     ·cases hs
    ·cases hs
   | _=>simp at hs
  | _=>simp at hs
 | _=>simp [stepOp] at hs
end
end Go.Abs
