import Derived.Test.YtbapchkhohnncaaGreatDoorOpC
set_option linter.unusedSimpArgs false
set_option linter.unusedSectionVars false
set_option linter.unusedVariables false
namespace Go.Abs
section
variable {P:Program} {F:Fr} {I:Rg} {β:Bt} {σ:Sg} {w:World} {ty:Nat→Option TyI}
theorem Z459:∀ (vs:List Value) (k off:Nat) (cs:Array Value),off+k+vs.length≤cs.size →
  ((vs.zipIdx k).foldl (fun cs (p:Value×Nat)=>cs.setIfInBounds (off+p.2) p.1) cs).toList=cs.toList.take (off+k)++vs++cs.toList.drop (off+k+vs.length)
 | [],k,off,cs,_=>by simp
 | v :: r,k,off,cs,h=>by
  simp only [List.length_cons] at h
  simp only [List.zipIdx_cons,List.foldl_cons]
  have:=Z459 r (k+1) off (cs.setIfInBounds (off+k) v) (by simp; omega)
  rw [this]
  have e:=list_seg_step cs.toList (off+k) v r (by simp; omega)
  simpa [Array.toList_setIfInBounds,Nat.add_assoc] using e
theorem Z454 {place:Nat→Option (Nat×Nat)} {i off s:Nat} {cs:Array Value} {v:Value} {rest:List (Nat×Value)} (hp:place i=some (off,s)) (hl:v.cells.toList.length=s) (hc:off+s≤cs.size) :
  Instr.fill place cs ((i,v) :: rest)=Instr.fill place (cs.toList.take off++v.cells.toList++cs.toList.drop (off+s)).toArray rest:=by
 have hsz:v.cells.size=s:=by simpa using hl
 have h1:¬ (v.cells.size≠s∨off+v.cells.size > cs.size):=by omega
 have hf:=Z459 v.cells.toList 0 off cs (by omega)
 simp only [Nat.add_zero,hl] at hf
 simp only [Instr.fill,hp]
 rw [if_neg (by simpa using h1)]
 congr 1
 apply Array.ext'
 rw [← hf,← Array.foldl_toList]
 simp [Array.toList_zipIdx]
theorem Z197 {get:Nat→Option Box} {ρ:Operand→PV} {ev:Operand→Value} {place place':Nat→Option (Nat×Nat)} (hpl:∀ i p,place i=some p→place' i=some p) :
  ∀ {parts:List (Nat×Operand)} {ps:List (Nat×List Lf)} {rd:List Nat} {cells ls:List Lf} {zs:List Value},partsL get ρ parts=some (ps,rd)→(∀ b∈rd,σ b=get b) →
   (∀ p∈parts,RV I F.J β σ w (ρ p.2) (ev p.2))→RLs I F.J β σ w cells zs→fillL place cells ps=some ls →
   ∃ out,Instr.fill place' zs.toArray (parts.map fun p=>(p.1,ev p.2))=some out∧RLs I F.J β σ w ls out.toList
 | [],ps,rd,cells,ls,zs,hp,hg,hv,hc,hf=>by
  simp only [partsL,Option.some.injEq,Prod.mk.injEq] at hp
  obtain ⟨rfl,rfl⟩:=hp
  simp only [fillL,Option.some.injEq] at hf
  subst hf
  exact ⟨zs.toArray,rfl,by simpa using hc⟩
 | (i,x) :: r,ps,rd,cells,ls,zs,hp,hg,hv,hc,hf=>by
  simp only [partsL] at hp
  cases hl:(ρ x).leaves get with
  | none=>simp [hl] at hp
  | some q =>
   obtain ⟨xl,xr⟩:=q
   cases hr:partsL get ρ r with
   | none=>simp [hl,hr] at hp
   | some q =>
    obtain ⟨ps',rds⟩:=q
    simp only [hl,hr,Option.some.injEq,Prod.mk.injEq] at hp
    obtain ⟨rfl,rfl⟩:=hp
    simp only [fillL] at hf
    cases hpi:place i with
    | none=>simp [hpi] at hf
    | some q =>
     obtain ⟨off,s⟩:=q
     simp only [hpi] at hf
     cases hst:storeL cells s off 0 0 xl with
     | none=>simp [hst] at hf
     | some cells' =>
      simp only [hst] at hf
      have hx:=Z80 hl (fun b hb=>hg b (by simp [hb])) (hv (i,x) (by simp))
      obtain ⟨h1,h2,h3⟩:=Z259 hst hc hx (.inl ⟨rfl,rfl⟩)
      simp only [Nat.add_zero] at h1 h3
      obtain ⟨out,h4,h5⟩:=Z197 hpl hr (fun b hb=>hg b (by simp [hb])) (fun p hp=>hv p (by simp [hp])) h1 hf
      refine ⟨out,?_,h5⟩
      rw [List.map_cons,Z454 (hpl i _ hpi) h2 (by simpa using h3)]
      simpa using h4
theorem Z137 {f:Field→Option (Nat×Nat)}:∀ {fs:List Field},(∀ x∈fs,(f x).isSome=true)→∃ ps:List (Nat×Nat),fs.mapM f=some ps∧∀ i:Nat,ps[i]?=(fs[i]?).bind f
 | [],_=>⟨[],by simp,by simp⟩
 | x :: r,h=>by
  obtain ⟨p,hp⟩:=Option.isSome_iff_exists.1 (h x (by simp))
  obtain ⟨ps,h1,h2⟩:=Z137 (fs:=r) (fun y hy=>h y (by simp [hy]))
  refine ⟨p :: ps,by simp [List.mapM_cons,hp,h1],?_⟩
  intro i
  cases i with
  | zero=>simp [hp]
  | succ i=>simp [h2]
theorem nth_eq {α:Type}:∀ (l:List α) (i:Nat),nth l i=l[i]?
 | [],_=>by simp [nth]
 | _ :: _,0=>rfl
 | _ :: r,i+1=>by simp [nth,nth_eq r i]
theorem RLs.of_sc:∀ (vs:List Value),RLs I F.J β σ w (vs.map .sc) vs
 | []=>rfl
 | v :: r=>⟨v,r,rfl,rfl,RLs.of_sc r⟩
theorem Z434 (hty:TysOk P ty) (h:Inv F I β σ w) {get:Nat→Option Box} {ρ:Operand→PV} {ev:Operand→Value} {T:TypeId} {TI:TyI} {parts:Array (Nat×Operand)} {ps:List (Nat×List Lf)} {rd:List Nat} {ls:List Lf}
  (hT:ty T=some TI) (hp:partsL get ρ parts.toList=some (ps,rd)) (hg:∀ b∈rd,σ b=get b) (hv:∀ p∈parts.toList,RV I F.J β σ w (ρ p.2) (ev p.2))
  (hf:(∃ fs,TI.ds=.struct fs∧fillL (fun i=>match nth fs i with | some (off,t)=>(match sizeT ty t with | some s=>some (off,s) | none=>none) | none=>none) (TI.zero.map .sc) ps=some ls) ∨
   (∃ n e s,TI.ds=.arr n e∧sizeT ty e=some s∧fillL (fun i=>some (i*s,s)) (TI.zero.map .sc) ps=some ls)) :
  ∃ u,(Instr.build T (parts.map fun (i,x)=>(i,ev x))).run P w=.ok u w∧RV I F.J β σ w (.agg ls) u:=by
 have hTy:=hty T TI hT
 obtain ⟨inf,z,hinf,hsz,hby,hz,hzc⟩:=hTy.info
 obtain ⟨d,hund,hds,_⟩:=hTy.desc
 have hzl:z.cells=TI.zero.toArray:=by apply Array.ext'; simpa using hzc
 have hmap:(parts.map fun (i,x)=>(i,ev x)).toList=parts.toList.map fun p=>(p.1,ev p.2):=by simp
 rcases hf with ⟨fs,hDs,hfill⟩ | ⟨n,e,s,hDs,hse,hfill⟩
 ·rw [hDs] at hds
  obtain ⟨fields,rfl,hfs⟩:=hds
  obtain ⟨places,h1,h2⟩:=Z137 (f:=fun f=>(P.info? f.type).map fun i=>(f.offset,i.size)) (fs:=fields.toList) (fun f hf=>by
   simpa using hTy.flds fields hund f hf)
  have hpl:∀ i p,(match nth fs i with | some (off,t)=>(match sizeT ty t with | some s=>some (off,s) | none=>none) | none=>none)=some p→places.toArray[i]?=some p:=by
   intro i p hi
   rw [nth_eq,← hfs] at hi
   simp only [List.getElem?_map] at hi
   cases hfi:fields.toList[i]? with
   | none=>simp [hfi] at hi
   | some f =>
    simp only [hfi,Option.map_some] at hi
    cases hst:ty f.type with
    | none=>simp [sizeT,hst] at hi
    | some TF =>
     simp only [sizeT,hst,Option.some.injEq] at hi
     subst hi
     obtain ⟨inf',z',hinf',hsz',_⟩:=(hty f.type TF hst).info
     have:=h2 i
     rw [hfi] at this
     simp [hinf',hsz'] at this
     simpa using this
  obtain ⟨out,h3,h4⟩:=Z197 hpl hp hg hv (RLs.of_sc TI.zero) hfill
  refine ⟨.agg out,?_,out.toList,by simp,h4⟩
  refine run_build w T _ out ?_
  rw [hmap]
  simp only [Program.built,hinf,hund,hz,h1,hzl]
  exact h3
 ·rw [hDs] at hds
  simp only [DsOk] at hds
  subst hds
  cases hE:ty e with
  | none=>simp [sizeT,hE] at hse
  | some E =>
   simp only [sizeT,hE,Option.some.injEq] at hse
   subst hse
   obtain ⟨inf',z',hinf',hsz',_⟩:=(hty e E hE).info
   obtain ⟨out,h3,h4⟩:=Z197 (place':=fun i=>some (i*E.sz,E.sz)) (fun i p h=>h) hp hg hv (RLs.of_sc TI.zero) hfill
   refine ⟨.agg out,?_,out.toList,by simp,h4⟩
   refine run_build w T _ out ?_
   rw [hmap]
   simp only [Program.built,hinf,hund,hz,hinf',hsz',hzl]
   exact h3
theorem Z358 (z:List Value):∀ (n:Nat),((List.range (n*z.length)).map fun k=>z.toArray[k % z.toArray.size]!)=(List.replicate n z).flatten
 | 0=>by simp
 | n+1=>by
  have ih:=Z358 z n
  rcases Nat.eq_zero_or_pos z.length with hz | hz
  ·have:z=[]:=List.length_eq_zero_iff.1 hz
   subst this
   simp
  ·rw [Nat.succ_mul,List.range_add,List.map_append,ih,List.replicate_succ',List.flatten_append]
   congr 1
   simp only [List.map_map,List.flatten_cons,List.flatten_nil,List.append_nil]
   apply List.ext_getElem?
   intro k
   simp only [List.getElem?_map,List.getElem?_range]
   by_cases hk:k < z.length
   ·have:(n*z.length+k) % z.length=k:=by rw [Nat.mul_comm,Nat.mul_add_mod]; exact Nat.mod_eq_of_lt hk
    simp [hk,this]
   ·simp [hk]
theorem Z692 (z:List Value):∀ n,repL (z.map Lf.sc) n=((List.replicate n z).flatten).map .sc
 | 0=>rfl
 | n+1=>by simp [repL,Z692 z n,List.replicate_succ]
theorem Z167 {t:Tc}:∀ {n:Nat} {ls:List Lf} {xs:List t.den} {vs:List Value},unflN t n ls=some xs→RLs I F.J β σ w ls vs→xs.length=n∧Z560 t.sz (RD I w t) xs vs
 | 0,[],xs,vs,h,hl=>by
  simp only [unflN,Option.some.injEq] at h
  subst h
  simp only [RLs] at hl
  subst hl
  exact ⟨rfl,.nil⟩
 | 0,_ :: _,xs,vs,h,hl=>by simp [unflN] at h
 | n+1,ls,xs,vs,h,hl=>by
  simp only [unflN] at h
  cases h1:unfl false t ls with
  | none=>simp [h1] at h
  | some q =>
   obtain ⟨x,r⟩:=q
   simp only [h1] at h
   cases h2:unflN t n r with
   | none=>simp [h2] at h
   | some ys =>
    simp only [h2,Option.some.injEq] at h
    subst h
    obtain ⟨v1,v2,rfl,h3,h4⟩:=RLs.unfl h1 hl
    obtain ⟨h5,h6⟩:=Z167 h2 h4
    exact ⟨by simp [h5],Z560.append (xs:=[x]) (.one h3 h3.len) h6⟩
theorem Z43 (hty:TysOk P ty) (h:Inv F I β σ w) {get:Nat→Option Box} {fresh:Nat} {ρ:Operand→PV} {ev:Operand→Value} {T el:TypeId} {TI E:TyI} {len:Nat} {parts:Array (Nat×Operand)}
  {ps:List (Nat×List Lf)} {rd:List Nat} {ls ls':List Lf} {gone:List Nat} {xs:List E.tc.den}
  (hT:ty T=some TI) (hDs:TI.ds=.slice el) (hE:ty el=some E) (hp:partsL get ρ parts.toList=some (ps,rd)) (hg:∀ b∈gone++rd,σ b=get b) (hv:∀ p∈parts.toList,RV I F.J β σ w (ρ p.2) (ev p.2))
  (hfill:fillL (fun i=>some (i*E.sz,E.sz)) (repL (E.zero.map .sc) len) ps=some ls) (him:immL get ls=some (ls',gone)) (hun:unflN E.tc len ls'=some xs) (hb:len*E.sz≤16777216)
  (hf:σ fresh=none) (hfg:fresh ∉ gone) :
  ∃ u w' I' β',(Instr.buildSlice T len (parts.map fun (i,x)=>(i,ev x))).run P w=.ok u w'∧Inv F I' β' (updF ((fresh,.row 0 E.tc xs) :: goneU gone) σ) w' ∧
   Ext F.J I β σ w I' β' (updF ((fresh,.row 0 E.tc xs) :: goneU gone) σ) w'∧RV I' F.J β' (updF ((fresh,.row 0 E.tc xs) :: goneU gone) σ) w' (.one (.slice fresh 0 none)) u:=by
 have hTy:=hty T TI hT
 have hEl:=hty el E hE
 obtain ⟨d,hund,hds,_⟩:=hTy.desc
 rw [hDs] at hds
 simp only [DsOk] at hds
 subst hds
 obtain ⟨inf,z,hinf,hsz,hby,hz,hzc⟩:=hEl.info
 have hzl:z.cells=E.zero.toArray:=by apply Array.ext'; simpa using hzc
 have hzlen:E.zero.length=E.sz:=by rw [← hEl.size]; exact (hEl.zero (fun _ _=>False) w).len
 rw [Z692] at hfill
 obtain ⟨out,h3,h4⟩:=Z197 (place':=fun i=>some (i*E.sz,E.sz)) (fun i p h=>h) hp (fun b hb=>hg b (by simp [hb])) hv (RLs.of_sc _) hfill
 obtain ⟨I1,hI1,hE1,hls'⟩:=Z316 him (fun b hb=>hg b (by simp [hb])) h h4
 obtain ⟨hxl,hcs⟩:=Z167 hun hls'
 have hf1:updF (goneU gone) σ fresh=none:=by rw [Z103 hfg]; exact hf
 have hch:=Z666 hI1 hf1 (C:=out) (E:=el) (x':=.row 0 E.tc xs) (WStep.refl _ w) rfl
  (fun hE'=>RB_row (cs:=out.toList) (blk:=w.heap.size) (o:=0) (by simp) (heap_alloc_new w _) (hcs.mono (fun _ _=>hE'.rd)) (by intro k v hk; simpa using hk))
 have hmap:(parts.map fun (i,x)=>(i,ev x)).toList=parts.toList.map fun p=>(p.1,ev p.2):=by simp
 have hinit:∀ zz:Array Value,(len*E.sz=0∨zz=z.cells)→((Array.range (len*E.sz)).map (zz[· % zz.size]!))=((List.replicate len E.zero).flatten).toArray:=by
  intro zz hzz
  apply Array.ext'
  rw [← Z358,hzlen]
  rcases hzz with h0 | rfl
  ·rw [h0]; simp
  ·rw [hzl]; simp
 refine ⟨.slice (some ⟨w.heap.size,0,none⟩) len len,_,I1,_,?_,hch.1,hE1.trans hch.2,.row 0 E.tc xs,by simp [updF],Nat.le_refl _,fun _=>⟨_,len,by rw [hxl],.inr ⟨w.heap.size,0,by simp,rfl,by omega,?_⟩⟩⟩
 ·have hnb:¬ (16777216 < len*E.sz):=by omega
  have hrs:=hEl.run_size w
  have hrz:(zeroValue el).run P w=.ok z w:=by simp [zeroValue,typeInfo,hinf,hz]
  by_cases h0:len*E.sz=0
  ·have hnil:(List.replicate len E.zero).flatten=[]:=by
    rw [← List.length_eq_zero_iff]
    simp [hzlen,h0]
   rw [hnil] at h3
   simp only [Instr.buildSlice]
   simp [run_underlying hund,hrs,h0,hmap,newRow,Array.range_zero',h3]
  ·have hi1:=hinit z.cells (.inr rfl)
   simp only [Instr.buildSlice]
   simp [run_underlying hund,hrs,h0,hnb,hrz,hmap,newRow,hi1,h3]
 ·refine ⟨out,el,(0,0),heap_alloc_new w _,?_⟩
  have:=hcs.1
  rw [hxl] at this
  simp at this ⊢
  omega
theorem Z283 {t:Tc} {z:List Value} (hz:RD I w t t.dflt z):∀ n,Z560 t.sz (RD I w t) (List.replicate n t.dflt) (List.replicate n z).flatten
 | 0=>.nil
 | n+1=>by
  rw [List.replicate_succ,List.replicate_succ,List.flatten_cons]
  exact Z560.append (xs:=[t.dflt]) (.one hz hz.len) (Z283 hz n)
theorem Z435 (hty:TysOk P ty) (h:Inv F I β σ w) {get:Nat→Option Box} {T ty':TypeId} {l:Lf} {e:Eff} {u:Value}
  (hs:Z376 ty get T l=some e) (hg:∀ b∈e.rd,σ b=get b) (hl:RL I F.J β σ w l u) :
  ∃ u' w' I' β',(Builtin.clear_ #[T] ty' #[u]).run P w=.ok u' w'∧Inv F I' β' (updF e.upd σ) w'∧Ext F.J I β σ w I' β' (updF e.upd σ) w'∧RV I' F.J β' (updF e.upd σ) w' e.v u':=by
 unfold Z376 at hs
 split at hs
 ·rename_i TI b ver off n hT
  split at hs
  ·rename_i el ver' t xs hDs hb
   split at hs
   ·rename_i E hE
    cases hver:Nat.beq ver ver'&&!(Nat.beq E.sz 0) with
    | false=>simp [hver] at hs
    | true =>
     simp only [hver,cond_true] at hs
     rw [Bool.and_eq_true,Bool.not_eq_true'] at hver
     obtain ⟨hver,hz⟩:=hver
     have hver:=Nat.eq_of_beq_eq_true hver
     subst hver
     have hz:E.sz≠0:=fun e=>by rw [e] at hz; cases hz
     split at hs
     ·rename_i hEt
      subst hEt
      simp only [Option.some.injEq] at hs
      subst hs
      obtain ⟨d,hund,hds,_⟩:=(hty T TI hT).desc
      rw [hDs] at hds
      simp only [DsOk] at hds
      subst hds
      have hEl:=hty el E hE
      have hsz:=hEl.size
      have hbσ:σ b=some (.row ver E.tc xs):=by rw [hg b (by simp),hb]
      obtain ⟨x,hx,hsl⟩:=hl
      rw [hbσ] at hx
      injection hx with hx
      subst hx
      obtain ⟨A,c,rfl,hlc,hk,hxc,hcap⟩:=hsl.2 rfl
      generalize hv:((xs.drop off).take n).length=vl at hlc ⊢
      have hvl:off+vl≤xs.length∨vl=0:=by rw [← hv]; simp; omega
      have htk:(List.replicate vl E.tc.dflt).take vl=List.replicate vl E.tc.dflt:=by rw [List.take_of_length_le (by simp)]
      by_cases hv0:vl=0
      ·subst hv0
       have hcl:copyL xs off 0 (List.replicate 0 E.tc.dflt)=xs:=Z40 (by simp)
       rw [hcl]
       refine ⟨.tuple #[],w,I,β,?_,?_,?_,rfl⟩
       ·cases A <;> simp [Builtin.clear_,run_underlying hund]
       ·show Inv F I β (setF σ b (.row ver E.tc xs)) w
        rw [Z368 hbσ]; exact h
       ·show Ext F.J I β σ w I β (setF σ b (.row ver E.tc xs)) w
        rw [Z368 hbσ]; exact Ext.refl ..
      ·rcases hcap with hcap | ⟨blk,o,hbb,rfl,C,E',fr,hblk,hCs⟩
       ·omega
       ·rcases h.good.box b _ hbσ with ⟨_,h2⟩ | ⟨blk',o',C',E'',h2,h3,h4⟩
        ·rw [hbb] at h2; cases h2
        ·rw [hbb] at h2; injection h2 with h2; injection h2 with e1 e2; subst e1; subst e2
         rw [h3] at hblk; injection hblk with hblk; injection hblk with e1 e2 e3; subst e1; subst e2; subst e3
         rw [hsz,Nat.add_mul] at hCs
         obtain ⟨inf,z,hinf,hszi,hby,hzv,hzc⟩:=hEl.info
         have hzl:z.cells=E.zero.toArray:=by apply Array.ext'; simpa using hzc
         have hzlen:E.zero.length=E.sz:=by rw [← hEl.size]; exact (hEl.zero (fun _ _=>False) w).len
         have hcells:(Builtin.zeroCells z.cells vl).toList=(List.replicate vl E.zero).flatten:=by
          rw [← Z358,hzl]
          simp [Builtin.zeroCells]
         have hcs:=Z283 (hEl.zero I w) vl
         rw [hsz] at hcs
         have hone:∀ v∈(List.replicate vl E.zero).flatten,v.oneCell'=true:=rd_one (by rw [hsz]; exact hcs)
         have hcsl:((List.replicate vl E.zero).flatten).length=vl*E.sz:=by have:=hcs.1; rwa [List.length_replicate] at this
         have hle:vl*E.sz≤c*E.sz:=Nat.mul_le_mul_right _ hlc
         have hst:=run_storeCells_at (P:=P) blk (o+off*E.sz) E'' (List.replicate vl E.zero).flatten 0 C' w h3 (by omega) hone
         simp only [Nat.add_zero] at hst
         have hp:=Z352 (ys:=List.replicate vl E.tc.dflt) (m:=vl) (beg:=off) h hsz hbσ hbb h3 h4 (by rw [htk]; exact hcs) (by rw [htk,List.length_replicate]; omega) (by omega)
         refine ⟨.tuple #[],_,I,_,?_,hp.1,hp.2,rfl⟩
         obtain ⟨q,rfl⟩:∃ q,vl=q+1:=⟨vl - 1,by omega⟩
         rw [hsz]
         simp [Builtin.clear_,run_underlying hund,zeroValue,run_typeInfo _ hinf,hzv,hcells,hst]
     ·cases hs
   ·cases hs
  ·cases hs
 ·cases hs
theorem Z72 (hty:TysOk P ty) (h:Inv F I β σ w) {fresh:Nat} {T el:TypeId} {TI E:TyI} {k k':IntKind} {n:Int}
  (hT:ty T=some TI) (hDs:TI.ds=.slice el) (hE:ty el=some E) (h0:0≤n) (hb:n.toNat*(E.by_+1)≤room) (hf:σ fresh=none) :
  ∃ u w' I' β',(Instr.makeSlice T (.int k n) (.int k' n)).run P w=.ok u w'∧Inv F I' β' (updF [(fresh,.row 0 E.tc (List.replicate n.toNat E.tc.dflt))] σ) w' ∧
   Ext F.J I β σ w I' β' (updF [(fresh,.row 0 E.tc (List.replicate n.toNat E.tc.dflt))] σ) w'∧RV I' F.J β' (updF [(fresh,.row 0 E.tc (List.replicate n.toNat E.tc.dflt))] σ) w' (.one (.slice fresh 0 none)) u:=by
 have hTy:=hty T TI hT
 have hEl:=hty el E hE
 obtain ⟨d,hund,hds,_⟩:=hTy.desc
 rw [hDs] at hds
 simp only [DsOk] at hds
 subst hds
 obtain ⟨inf,z,hinf,hsz,hby,hz,hzc⟩:=hEl.info
 have hzl:z.cells=E.zero.toArray:=by apply Array.ext'; simpa using hzc
 have hzlen:E.zero.length=E.sz:=by rw [← hEl.size]; exact (hEl.zero (fun _ _=>False) w).len
 unfold room at hb
 have hm:n.toNat*(E.by_+1)=n.toNat*E.by_+n.toNat:=by rw [Nat.mul_add]; omega
 have hbytes:(inf.bytes:Int)*n≤281474976710656:=by
  rw [hby]
  have:((E.by_*n.toNat:Nat):Int)≤281474976710656:=by rw [Nat.mul_comm]; omega
  rwa [Int.natCast_mul,Int.toNat_of_nonneg h0] at this
 have hrun:=run_make (P:=P) w T el inf z hund hinf hz k k' n n h0 (Int.le_refl _) hbytes (by omega)
 have hcells:madeCells z.cells (n.toNat*inf.size)=((List.replicate n.toNat E.zero).flatten).toArray:=by
  apply Array.ext'
  rw [← Z358,hzlen,hsz,hzl]
  simp [madeCells]
 rw [hcells] at hrun
 have hch:=Z666 h hf (C:=((List.replicate n.toNat E.zero).flatten).toArray) (E:=el) (x':=.row 0 E.tc (List.replicate n.toNat E.tc.dflt)) (WStep.refl _ w) rfl
  (fun hE'=>RB_row (cs:=(List.replicate n.toNat E.zero).flatten) (blk:=w.heap.size) (o:=0) (by simp) (heap_alloc_new w _) ((Z283 (hEl.zero I w) n.toNat).mono (fun _ _=>hE'.rd)) (by intro k v hk; simpa using hk))
 refine ⟨_,_,I,_,hrun,hch.1,hch.2,.row 0 E.tc (List.replicate n.toNat E.tc.dflt),by simp [updF],Nat.le_refl _,fun _=>⟨_,n.toNat,by simp,.inr ⟨w.heap.size,0,by simp,rfl,by simp,?_⟩⟩⟩
 refine ⟨_,el,(0,0),heap_alloc_new w _,?_⟩
 have:=(Z283 (hEl.zero I w) n.toNat).1
 simp at this ⊢
 omega
end
end Go.Abs
