import Derived.Test.YtbapchkhohnncaaGreatDoorLeaf
set_option linter.unusedSimpArgs false
set_option linter.unusedSectionVars false
set_option linter.unusedVariables false
namespace Go.Abs
def updF:List (Nat×Box)→Sg→Sg
 | [],σ=>σ
 | (b,x) :: u,σ=>setF (updF u σ) b x
theorem Z458 {v:Value}:Value.flat v=v.oneCell':=by cases v <;> rfl
def Does (P:Program) (F:Fr) (σ':Sg) (v:PV) (I:Rg) (β:Bt) (σ:Sg) (w:World) (s:Sem Next):Prop :=
 ∃ nx u w',s.run P w=.ok nx w'∧(nx=.value u∨(nx=.skip∧u=undef)) ∧
  ∃ I' β',Inv F I' β' σ' w'∧Ext F.J I β σ w I' β' σ' w'∧RV I' F.J β' σ' w' v u
section
variable {P:Program} {F:Fr} {I:Rg} {β:Bt} {σ:Sg} {w:World} {ty:Nat→Option TyI}
theorem Does.pure' (h:Inv F I β σ w) {s:Sem Next} {u:Value} {v:PV} (hr:s.run P w=.ok (.value u) w) (hv:RV I F.J β σ w v u):Does P F σ v I β σ w s :=
 ⟨_,u,w,hr,.inl rfl,I,β,h,.refl ..,hv⟩
theorem run_v {s:Sem Value} {u:Value} {w w':World} (h:s.run P w=.ok u w'):(do Pure.pure (Next.value (← s)):Sem Next).run P w=.ok (.value u) w':=by
 simp [h]
theorem Z156 {get:Nat→Option Box} {l:Lf} {u:Value} (hs:solid get l=true) (hg:∀ b∈rdOf l,σ b=get b) (h:RL I F.J β σ w l u) :
  u.oneCell'=true:=by
 cases l with
 | sc v =>
  simp only [RL] at h; subst h
  cases u <;> simp [solid] at hs <;> rfl
 | list bor t xs=>obtain ⟨A,c,rfl,_⟩:=h; rfl
 | slice b ver rng =>
  obtain ⟨x,hx,hk⟩:=h
  rw [hg b (by simp [rdOf])] at hx
  simp only [solid,hx] at hs
  cases x with
  | row ver' t xs =>
   have:=(hk.2 (Nat.eq_of_beq_eq_true hs))
   cases rng with
   | none=>obtain ⟨A,c,rfl,_⟩:=this; rfl
   | some p=>obtain ⟨A,c,rfl,_⟩:=this; rfl
  | pool ver' t pos inn =>
   simp only [Bool.and_eq_true] at hs
   cases rng with
   | none=>obtain ⟨A,c,rfl,_⟩:=hk.2 (Nat.eq_of_beq_eq_true hs.2) rfl; rfl
   | some p=>simp at hs
  | _=>simp at hs
 | ref b ver i base len d =>
  obtain ⟨_,x,hx,hk⟩:=h
  rw [hg b (by simp [rdOf])] at hx
  simp only [solid,hx] at hs
  cases x with
  | var T cells=>obtain ⟨blk,_,rfl⟩:=hk; rfl
  | row ver' t xs=>obtain ⟨_,blk,o,_,rfl⟩:=hk.2 (Nat.eq_of_beq_eq_true hs); rfl
  | pool ver' t pos inn=>obtain ⟨_,blk,o,_,rfl⟩:=hk.2 (Nat.eq_of_beq_eq_true hs); rfl
  | gone=>simp at hs
 | eref bor t xs i base len d=>obtain ⟨_,_,a,rfl,_⟩:=h; rfl
 | arr b ver i base n hi=>obtain ⟨_,x,_,A,_,rfl⟩:=h; rfl
 | clos f caps=>obtain ⟨vs,rfl,_⟩:=h; rfl
 | inn b p=>rw [← Z458]; exact h.1
 | iref b p i base len d=>rw [← Z458]; exact h.1
 | ub p=>simp [solid] at hs
 | dead=>simp [solid] at hs
theorem Z282 {u:Value} (h:u.oneCell'=true):u.cells.toList=[u]:=by
 cases u <;> first | rfl | (simp [Value.oneCell'] at h)
theorem Z80 {get:Nat→Option Box} {p:PV} {ls:List Lf} {rd:List Nat} {u:Value} (h:p.leaves get=some (ls,rd)) (hg:∀ b∈rd,σ b=get b) (hv:RV I F.J β σ w p u) :
  RLs I F.J β σ w ls u.cells.toList:=by
 cases p with
 | one l =>
  simp only [PV.leaves] at h
  cases hs:solid get l with
  | false=>simp [hs] at h
  | true =>
   simp only [hs,cond_true,Option.some.injEq,Prod.mk.injEq] at h
   obtain ⟨rfl,rfl⟩:=h
   rw [Z282 (Z156 hs hg hv)]
   exact ⟨u,[],rfl,hv,rfl⟩
 | agg ls' =>
  simp only [PV.leaves,Option.some.injEq,Prod.mk.injEq] at h
  obtain ⟨rfl,rfl⟩:=h
  obtain ⟨vs,rfl,h⟩:=hv
  simpa [Value.cells] using h
 | tup xs=>simp [PV.leaves] at h
theorem Z157 {get:Nat→Option Box}:∀ {ls:List Lf} {vs:List Value},solids get ls=true→(∀ b∈rdsOf ls,σ b=get b)→RLs I F.J β σ w ls vs→∀ v∈vs,v.oneCell'=true
 | [],vs,_,_,h=>by simp only [RLs] at h; subst h; simp
 | l :: r,vs,hs,hg,h=>by
  obtain ⟨v,rest,rfl,h1,h2⟩:=h
  simp only [solids,Bool.and_eq_true] at hs
  intro u hu
  rcases List.mem_cons.1 hu with rfl | hu
  ·exact Z156 hs.1 (fun b hb=>hg b (by simp [rdsOf,hb])) h1
  ·exact Z157 hs.2 (fun b hb=>hg b (by simp [rdsOf,hb])) h2 u hu
theorem Z100 {get:Nat→Option Box} {p:PV} {ls:List Lf} {rd:List Nat} {u:Value} (h:p.stored get=some (ls,rd)) (hg:∀ b∈rd,σ b=get b) (hv:RV I F.J β σ w p u) :
  RLs I F.J β σ w ls u.cells.toList∧∀ v∈u.cells.toList,v.oneCell'=true:=by
 cases p with
 | one l =>
  simp only [PV.stored] at h
  cases hs:solid get l with
  | false=>simp [hs] at h
  | true =>
   simp only [hs,cond_true,Option.some.injEq,Prod.mk.injEq] at h
   obtain ⟨rfl,rfl⟩:=h
   have h1:=Z156 hs hg hv
   rw [Z282 h1]
   exact ⟨⟨u,[],rfl,hv,rfl⟩,by simpa using h1⟩
 | agg ls' =>
  simp only [PV.stored] at h
  cases hs:solids get ls' with
  | false=>simp [hs] at h
  | true =>
   simp only [hs,cond_true,Option.some.injEq,Prod.mk.injEq] at h
   obtain ⟨rfl,rfl⟩:=h
   obtain ⟨vs,rfl,h⟩:=hv
   exact ⟨by simpa [Value.cells] using h,by simpa [Value.cells] using Z157 hs hg h⟩
 | tup xs=>simp [PV.stored] at h
theorem Z248 {T:TypeId} {i:TyI} (hT:TyOk P T i) {blk off:Nat} {sub:List Value} {ls:List Lf} {v:PV} (hl:sub.length=i.sz)
  (hc:∀ j u,sub[j]?=some u→w.cell? ⟨blk,off+j,none⟩=some u) (hr:RLs I F.J β σ w ls sub) (hv:mkvO i.ag ls=some v) :
  ∃ u,(Instr.loadAt T (.pointer (some ⟨blk,off,none⟩))).run P w=.ok u w∧RV I F.J β σ w v u:=by
 have hadd:∀ j,(⟨blk,off,none⟩:Addr).add j=⟨blk,off+j,none⟩:=fun j=>by unfold Addr.add; split <;> simp_all
 cases hag:i.ag with
 | true =>
  have hv':v=.agg ls:=by simpa [mkvO,hag] using hv.symm
  subst hv'
  have h1:=run_loadCells_list (P:=P) w ⟨blk,off,none⟩ sub (fun j u hj=>by rw [hadd]; exact hc j u hj)
  refine ⟨.agg sub.toArray,?_,sub,rfl,hr⟩
  rw [hl] at h1
  simp [Instr.loadAt,Instr.sureAddr,loadVar,hT.run_isAgg,hT.run_size,hag,h1]
 | false =>
  match ls,hv,hr with
  | [l],hv,hr =>
   have hv':v=.one l:=by simpa [mkvO,hag] using hv.symm
   subst hv'
   obtain ⟨u,r,rfl,h1,h2⟩:=hr
   have:=hc 0 u rfl
   simp only [Nat.add_zero] at this
   refine ⟨u,?_,h1⟩
   simp [Instr.loadAt,Instr.sureAddr,loadVar,hT.run_isAgg,hag,this]
  | [],hv,_=>simp [mkvO,hag] at hv
  | _ :: _ :: _,hv,_=>simp [mkvO,hag] at hv
theorem Z204 {α:Type} {xs:List α} {i:Nat} {d:α} (h:i < xs.length):xs[i]?=some (xs.getD i d):=by
 simp [List.getD,List.getElem?_eq_getElem h]
theorem Z63 {vs:List Value} {k s j:Nat} {u:Value} (h:((vs.drop k).take s)[j]?=some u):vs[k+j]?=some u:=by
 rw [List.getElem?_take] at h
 split at h
 ·rwa [List.getElem?_drop] at h
 ·cases h
theorem Z299 {v:Option PV} {rd:List Nat} {e:Eff} (h:effO v rd=some e):∃ p,v=some p∧e={ g:=true,v:=p,upd:=[],rd }:=by
 cases v with
 | none=>cases h
 | some p=>exact ⟨p,rfl,(Option.some.inj h).symm⟩
theorem Z445 {v:PV} {rd:List Nat} {e:Eff} (h:eff v rd=some e):e={ g:=true,v,upd:=[],rd }:=(Option.some.inj h).symm
theorem Z361 {get:Nat→Option Box} {T:TypeId} {i:TyI} (hT:TyOk P T i) {K:Rg} {t:Tc} {xs:List t.den} {ix base len d:Nat} {a:Addr} {ls:List Lf} {v:PV} {bor:Bool}
  (hrow:RowAt K t.sz (RD (both I F.J bor) w t) w xs a) (hi:ix < xs.length) (ho:offOk len d) (hl:loadL (fl bor t (xs.getD ix t.dflt)) i.sz base len d=some ls) (hv:mkvO i.ag ls=some v) :
  ∃ u,(Instr.loadAt T (.pointer (some ⟨a.block,a.off+ix*t.sz+(base+d),none⟩))).run P w=.ok u w∧RV I F.J β σ w v u:=by
 obtain ⟨vs,h1,h2,h3⟩:=hrow ix _ (Z204 hi)
 obtain ⟨h4,h5,h6⟩:=Z324 hl (RLs.of_rdb (J:=F.J) (β:=β) (σ:=σ) h1) ho
 refine Z248 hT ?_ ?_ h4 hv
 ·rw [List.length_take]; omega
 ·intro j u hj
  have:=(h3 _ u (Z63 hj)).2
  rwa [show a.off+ix*t.sz+(base+d+j)=a.off+ix*t.sz+(base+d)+j by omega] at this
theorem Z605 (hty:TysOk P ty) (h:Inv F I β σ w) {get:Nat→Option Box} {T:TypeId} {l:Lf} {e:Eff} {u:Value} (hs:Z535 ty get T l=some e)
  (hg:∀ b∈e.rd,σ b=get b) (hl:RL I F.J β σ w l u):e.upd=[]∧∃ u',(Instr.loadAt T u).run P w=.ok u' w∧RV I F.J β σ w e.v u':=by
 unfold Z535 at hs
 cases hT:ty T with
 | none=>rw [hT] at hs; cases hs
 | some i =>
  have hTy:=hty T i hT
  simp only [hT] at hs
  cases l with
  | eref bor t xs ix base len d =>
   simp only at hs
   cases hld:loadL (fl bor t (xs.getD ix t.dflt)) i.sz base len d with
   | none=>simp only [hld] at hs; cases hs
   | some ls =>
    simp only [hld] at hs
    obtain ⟨p,hp,rfl⟩:=Z299 hs
    obtain ⟨ho,hi,a,rfl,hrow⟩:=hl
    exact ⟨rfl,Z361 (get:=get) hTy hrow hi ho hld hp⟩
  | ref b ver ix base len d =>
   simp only at hs
   obtain ⟨ho,x,hx,hr⟩:=hl
   cases hb:get b with
   | none=>simp only [hb] at hs; cases hs
   | some y =>
    simp only [hb] at hs
    have hxy:e.rd=[b]→x=y:=fun hrd=>by
     have:=hg b (by simp [hrd])
     rw [hx,hb] at this; exact Option.some.inj this
    cases y with
    | var T' cells =>
     simp only at hs
     cases hld:loadL cells i.sz base len d with
     | none=>simp only [hld] at hs; cases hs
     | some ls =>
      simp only [hld] at hs
      obtain ⟨p,hp,rfl⟩:=Z299 hs
      have:=hxy rfl
      subst this
      obtain ⟨blk,h1,rfl⟩:=hr
      obtain ⟨blk',vs,h2,h3,h4⟩:=h.good.box b _ hx
      rw [h1] at h2; injection h2 with h2; injection h2 with h2 _; subst h2
      obtain ⟨h5,h6,_⟩:=Z324 hld h4 ho
      refine ⟨rfl,Z248 hTy ?_ ?_ h5 hp⟩
      ·rw [List.length_take]; omega
      ·intro j u hj
       rw [Z584 h3]
       simpa using Z63 hj
    | row ver' t xs =>
     simp only at hs
     cases hver:Nat.beq ver ver' with
     | false=>simp [hver] at hs
     | true =>
      simp only [hver,cond_true] at hs
      cases hld:loadL (fl false t (xs.getD ix t.dflt)) i.sz base len d with
      | none=>simp only [hld] at hs; cases hs
      | some ls =>
       simp only [hld] at hs
       obtain ⟨p,hp,rfl⟩:=Z299 hs
       have:=hxy rfl
       subst this
       obtain ⟨hi,blk,o,h1,rfl⟩:=hr.2 (Nat.eq_of_beq_eq_true hver)
       have hrow:=h.good.rowAt hx h1 (K:=fun _ _=>True) (fun _ _ _=>trivial)
       exact ⟨rfl,Z361 (get:=get) (bor:=false) hTy (hrow.mono (fun _ _ h=>h) (fun _ _ _ _ h=>h) (fun _ _ h=>h.ofI)) hi ho hld hp⟩
    | pool ver' t pos inn=>simp at hs
    | gone=>simp at hs
  | _=>simp at hs
end
end Go.Abs
