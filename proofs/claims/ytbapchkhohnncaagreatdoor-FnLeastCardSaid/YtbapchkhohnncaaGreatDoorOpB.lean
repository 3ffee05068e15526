import Derived.Test.YtbapchkhohnncaaGreatDoorOpA
set_option linter.unusedSimpArgs false
set_option linter.unusedSectionVars false
set_option linter.unusedVariables false
namespace Go.Abs
section
variable {P:Program} {F:Fr} {I:Rg} {β:Bt} {σ:Sg} {w:World} {ty:Nat→Option TyI}
theorem Z659 {b:Nat}:∀ {l:List Nat},mem b l=true↔b∈l
 | []=>by simp [mem]
 | c :: r=>by
  simp only [mem,Bool.or_eq_true,List.mem_cons,Z659 (l:=r)]
  constructor
  ·rintro (h | h)
   ·exact .inl (Nat.eq_of_beq_eq_true h)
   ·exact .inr h
  ·rintro (rfl | h)
   ·exact .inl (Nat.beq_refl b)
   ·exact .inr h
theorem Z103 {b:Nat}:∀ {gone:List Nat},b ∉ gone→updF (goneU gone) σ b=σ b
 | [],_=>rfl
 | c :: r,h=>by
  simp only [goneU,List.map_cons,updF]
  rw [Z712 _ _ (fun e=>h (by simp [e]))]
  exact Z103 (fun hr=>h (by simp [hr]))
theorem Z316 {get:Nat→Option Box}:∀ {ls ls':List Lf} {gone:List Nat} {us:List Value},immL get ls=some (ls',gone)→(∀ b∈gone,σ b=get b) →
  Inv F I β σ w→RLs I F.J β σ w ls us→∃ I',Inv F I' β (updF (goneU gone) σ) w∧Ext F.J I β σ w I' β (updF (goneU gone) σ) w∧RLs I' F.J β (updF (goneU gone) σ) w ls' us
 | [],ls',gone,us,h,_,hI,hl=>by
  simp only [immL,Option.some.injEq,Prod.mk.injEq] at h
  obtain ⟨rfl,rfl⟩:=h
  exact ⟨I,hI,.refl ..,hl⟩
 | l :: r,ls',gone,us,h,hg,hI,hl=>by
  obtain ⟨v,rest,rfl,h1,h2⟩:=hl
  have plain:(match immL get r with | some (ls,gone)=>some (l :: ls,gone) | none=>none)=some (ls',gone) →
    ∃ I',Inv F I' β (updF (goneU gone) σ) w∧Ext F.J I β σ w I' β (updF (goneU gone) σ) w∧RLs I' F.J β (updF (goneU gone) σ) w ls' (v :: rest):=by
   intro h
   cases hr:immL get r with
   | none=>rw [hr] at h; cases h
   | some p =>
    obtain ⟨q,g⟩:=p
    rw [hr] at h
    simp only [Option.some.injEq,Prod.mk.injEq] at h
    obtain ⟨rfl,rfl⟩:=h
    obtain ⟨I',hI',hE,hq⟩:=Z316 hr hg hI h2
    exact ⟨I',hI',hE,v,rest,rfl,hE.rl h1,hq⟩
  cases l with
  | slice b ver rng =>
   simp only [immL] at h
   cases hb:get b with
   | none=>simp only [hb] at h; cases h
   | some y =>
    cases y with
    | row ver' t xs =>
     simp only [hb] at h
     cases hver:Nat.beq ver ver' with
     | false=>simp [hver] at h
     | true =>
      simp only [hver,cond_true] at h
      have hver:=Nat.eq_of_beq_eq_true hver
      subst hver
      cases hr:immL get r with
      | none=>simp only [hr] at h; cases h
      | some p =>
       obtain ⟨q,g⟩:=p
       simp only [hr] at h
       cases hm:mem b g with
       | true=>simp [hm] at h
       | false =>
        simp only [hm,cond_false,Option.some.injEq,Prod.mk.injEq] at h
        obtain ⟨rfl,rfl⟩:=h
        have hnb:b ∉ g:=fun hx=>by rw [Z659.2 hx] at hm; cases hm
        obtain ⟨I1,hI1,hE1,hq⟩:=Z316 hr (fun c hc=>hg c (by simp [hc])) hI h2
        have hbσ:updF (goneU g) σ b=some (.row ver t xs):=by
         rw [Z103 hnb,hg b (by simp),hb]
        obtain ⟨hI2,hE2⟩:=hI1.freeze hbσ
        exact ⟨_,hI2,hE1.trans hE2,v,rest,rfl,Z74 hI1.good hbσ (hE1.rl h1),hE2.rls hq⟩
    | _=>simp [hb] at h
  | sc _=>exact plain h
  | list _ _ _=>exact plain h
  | ref _ _ _ _ _ _=>exact plain h
  | eref _ _ _ _ _ _ _=>exact plain h
  | arr _ _ _ _ _ _=>exact plain h
  | clos _ _=>exact plain h
  | inn _ _=>exact plain h
  | iref _ _ _ _ _ _=>exact plain h
  | ub _=>exact plain h
  | dead=>exact plain h
theorem Z154 {T:TypeId} {i:TyI} (hT:TyOk P T i) {blk off:Nat} {C:Array Value} {E:TypeId} (hb:w.heap[blk]?=some (Obj.cells C E (0,0))) {ux:Value}
  (hl:ux.cells.toList.length=i.sz) (h1:∀ v∈ux.cells.toList,v.oneCell'=true) (hsz:off+i.sz≤C.size) :
  (Instr.storeAt T (.pointer (some ⟨blk,off,none⟩)) ux).run P w=.ok () (w.setRow blk (C.toList.take off++ux.cells.toList++C.toList.drop (off+i.sz)).toArray):=by
 have hs:=run_storeCells_at (P:=P) blk off E ux.cells.toList 0 C w hb (by omega) h1
 have hn:ux.cells.size=i.sz:=by simpa using hl
 simp only [Nat.add_zero,hl] at hs
 simp [Instr.storeAt,Instr.sureAddr,storeVar,hT.run_size,hn]
 simpa using hs
theorem getElem?_patch {α:Type} {l us:List α} {k n:Nat} (hk:k+us.length≤l.length) :
  (l.take k++us++l.drop (k+us.length))[n]?=if n < k then l[n]? else if n < k+us.length then us[n - k]? else l[n]?:=by
 simp only [List.getElem?_append,List.length_append,List.length_take,List.getElem?_take,List.getElem?_drop]
 by_cases h1:n < k
 ·simp [h1,show n < min k l.length by omega,show n < min k l.length+us.length by omega]
 ·by_cases h2:n < k+us.length
  ·simp [h1,h2,show ¬ n < min k l.length by omega,show n < min k l.length+us.length by omega,show min k l.length=k by omega]
  ·simp [h1,h2,show ¬ n < min k l.length+us.length by omega,show min k l.length=k by omega]
   congr 1; omega
theorem Z382 {T:TypeId} {i:TyI} (hTy:TyOk P T i) (h:Inv F I β σ w) {b ver ix base len d:Nat} {t:Tc} {xs:List t.den} {ua ux:Value} {vi cells':List Lf} {x':t.den}
  (hxb:σ b=some (.row ver t xs)) (hr:RefAt β b ver ix base d ua (.row ver t xs)) (ho:offOk len d) (hz0:i.sz≠0) (hvi:RLs I F.J β σ w vi ux.cells.toList) (hone:∀ v∈ux.cells.toList,v.oneCell'=true)
  (hsl:storeL (fl false t (xs.getD ix t.dflt)) i.sz base len d vi=some cells') (huf:unfl false t cells'=some (x',[])) :
  ∃ w',(Instr.storeAt T ua ux).run P w=.ok () w'∧Inv F I β (setF σ b (.row ver t (xs.set ix x'))) w'∧Ext F.J I β σ w I β (setF σ b (.row ver t (xs.set ix x'))) w':=by
 obtain ⟨hi,blk,o,h1,rfl⟩:=hr.2 rfl
 rcases h.good.box b _ hxb with ⟨h2,h3⟩ | ⟨blk',o',C,E,h2,h3,h4⟩
 ·rw [h1] at h3; cases h3
 ·rw [h1] at h2; injection h2 with h2; injection h2 with e1 e2; subst e1; subst e2
  have hβ:setB β b (some (blk,o))=β:=by
   funext c; by_cases e:c=b
   ·subst e; simp [h1]
   ·rw [Z711 _ _ e]
  obtain ⟨vs,h5,h6⟩:=h4 ix _ (Z204 hi)
  obtain ⟨h7,h8,h9⟩:=Z259 hsl (RLs.of_rd (J:=F.J) (β:=β) (σ:=σ) h5) hvi ho
  obtain ⟨v1,v2,h10,h11,h12⟩:=RLs.unfl huf h7
  simp only [RLs] at h12
  subst h12
  simp only [List.append_nil] at h10
  subst h10
  have hlen5:=h5.len
  have hC:o+ix*t.sz+t.sz≤C.size:=by
   cases hz:t.sz with
   | zero=>omega
   | succ n =>
    have:n < vs.length:=by omega
    have:=h6 n _ (List.getElem?_eq_getElem this)
    rcases Nat.lt_or_ge (o+ix*t.sz+n) C.size with h' | h'
    ·rw [hz] at h'; omega
    ·rw [Array.getElem?_eq_none h'] at this; cases this
  have hrun:=Z154 (w:=w) hTy (off:=o+ix*t.sz+(base+d)) h3 h8 hone (by omega)
  have hlb:liveB (σ b):=by rw [hxb]; trivial
  have hlenC:C.toList.length=C.size:=rfl
  have hch:=h.change (b:=b) (x':=.row ver t (xs.set ix x')) (bv:=some (blk,o)) (own:=fun k=>k=blk)
   (WStep.setRow (C':=(C.toList.take (o+ix*t.sz+(base+d))++ux.cells.toList++C.toList.drop (o+ix*t.sz+(base+d)+i.sz)).toArray) h3 rfl (by simp at h8 ⊢; omega))
   (fun k hk=>⟨hlb,o,by rw [hk,h1]⟩)
   (fun y hy=>by rw [hxb] at hy; injection hy with hy; subst hy; exact .inl ⟨rfl,rfl,by simp,by simp [h1]⟩)
   (fun k o' hk=>by injection hk with hk; injection hk with hk _; subst hk; exact .inr ⟨hlb,o,h1⟩)
   (fun hE=>by
    refine .inr ⟨blk,o,_,E,by simp,setRow_heap w blk _ _ E (0,0) h3,?_⟩
    intro j y hy
    have hpatch:∀ n,((C.toList.take (o+ix*t.sz+(base+d))++ux.cells.toList++C.toList.drop (o+ix*t.sz+(base+d)+i.sz)).toArray)[n]? =
      if n < o+ix*t.sz+(base+d) then C[n]? else if n < o+ix*t.sz+(base+d)+i.sz then ux.cells.toList[n - (o+ix*t.sz+(base+d))]? else C[n]?:=by
     intro n
     have:=getElem?_patch (l:=C.toList) (us:=ux.cells.toList) (k:=o+ix*t.sz+(base+d)) (n:=n) (by rw [h8,hlenC]; omega)
     rw [h8] at this
     simpa using this
    by_cases hj:j=ix
    ·subst hj
     rw [List.getElem?_set_self hi] at hy
     injection hy with hy; subst hy
     refine ⟨_,hE.rd h11,?_⟩
     intro n v hv
     rw [hpatch]
     have hp2:=getElem?_patch (l:=vs) (us:=ux.cells.toList) (k:=base+d) (n:=n) (by rw [h8]; omega)
     rw [h8] at hp2
     rw [hp2] at hv
     by_cases c1:n < base+d
     ·rw [if_pos c1] at hv
      rw [if_pos (by omega)]
      exact h6 n v hv
     ·rw [if_neg c1] at hv
      rw [if_neg (by omega)]
      by_cases c2:n < base+d+i.sz
      ·rw [if_pos c2] at hv
       rw [if_pos (by omega),show o+j*t.sz+n - (o+j*t.sz+(base+d))=n - (base+d) by omega]
       exact hv
      ·rw [if_neg c2] at hv
       rw [if_neg (by omega)]
       exact h6 n v hv
    ·rw [List.getElem?_set_ne (fun e=>hj e.symm)] at hy
     obtain ⟨vs',h13,h14⟩:=h4 j y hy
     refine ⟨vs',hE.rd h13,?_⟩
     intro n v hv
     rw [hpatch]
     have hn:n < t.sz:=by
      rw [← h13.len]
      rcases Nat.lt_or_ge n vs'.length with h' | h'
      ·exact h'
      ·rw [List.getElem?_eq_none h'] at hv; cases hv
     have hbd:base+d+i.sz≤t.sz:=by omega
     rcases Nat.lt_or_gt_of_ne hj with hlt | hgt
     ·have:(j+1)*t.sz≤ix*t.sz:=Nat.mul_le_mul_right _ hlt
      rw [Nat.succ_mul] at this
      rw [if_pos (by omega)]
      exact h14 n v hv
     ·have:(ix+1)*t.sz≤j*t.sz:=Nat.mul_le_mul_right _ hgt
      rw [Nat.succ_mul] at this
      rw [if_neg (by omega),if_neg (by omega)]
      exact h14 n v hv)
  rw [hβ] at hch
  exact ⟨_,hrun,hch.1,hch.2⟩
theorem Z437 (hty:TysOk P ty) (h:Inv F I β σ w) {get:Nat→Option Box} {T:TypeId} {l:Lf} {p:PV} {e:Eff} {ua ux:Value} (hs:Z378 ty get T l p=some e)
  (hg:∀ b∈e.rd,σ b=get b) (hl:RL I F.J β σ w l ua) (hx:RV I F.J β σ w p ux) :
  e.v=.one .dead∧∃ w' I' β',(Instr.storeAt T ua ux).run P w=.ok () w'∧Inv F I' β' (updF e.upd σ) w'∧Ext F.J I β σ w I' β' (updF e.upd σ) w':=by
 unfold Z378 at hs
 cases hT:ty T with
 | none=>simp [hT] at hs
 | some i =>
  have hTy:=hty T i hT
  cases l with
  | ref b ver ix base len d =>
   cases hst:p.stored get with
   | none=>simp [hT,hst] at hs
   | some q =>
    obtain ⟨vl,rv⟩:=q
    simp only [hT,hst] at hs
    obtain ⟨ho,x,hxb,hr⟩:=hl
    cases hb:get b with
    | none=>simp only [hb] at hs; cases hs
    | some y =>
     simp only [hb] at hs
     cases y with
     | var T' cells =>
      simp only at hs
      cases hsl:storeL cells i.sz base len d vl with
      | none=>simp only [hsl] at hs; cases hs
      | some cells' =>
       simp only [hsl,Option.some.injEq] at hs
       subst hs
       have hxy:x=.var T' cells:=by
        have:=hg b (by simp)
        rw [hxb,hb] at this; exact Option.some.inj this
       subst hxy
       refine ⟨rfl,?_⟩
       obtain ⟨hcl,hone⟩:=Z100 hst (fun c hc=>hg c (by simp [hc])) hx
       obtain ⟨blk,h1,rfl⟩:=hr
       obtain ⟨blk',vs,h2,h3,h4⟩:=h.good.box b _ hxb
       rw [h1] at h2; injection h2 with h2; injection h2 with h2 _; subst h2
       obtain ⟨h5,h6,h7⟩:=Z259 hsl h4 hcl ho
       have hrun:=Z154 (w:=w) hTy (off:=base+d) h3 h6 hone (by simpa using h7)
       have hlb:liveB (σ b):=by rw [hxb]; trivial
       have hch:=h.change (b:=b) (x':=.var T' cells') (bv:=some (blk,0)) (own:=fun k=>k=blk)
        (WStep.setRow (C':=(vs.take (base+d)++ux.cells.toList++vs.drop (base+d+i.sz)).toArray) h3 rfl (by simp at h6 ⊢; omega))
        (fun k hk=>⟨hlb,0,by rw [hk,h1]⟩)
        (fun y hy=>by rw [hxb] at hy; injection hy with hy; subst hy; simp [Evo,h1])
        (fun k o hk=>by injection hk with hk; injection hk with hk _; subst hk; exact .inr ⟨hlb,0,h1⟩)
        (fun hE=>⟨blk,_,by simp,setRow_heap w blk _ _ T' (0,0) h3,by simpa using hE.rls h5⟩)
       exact ⟨_,I,_,hrun,hch.1,hch.2⟩
     | row ver' t xs =>
      simp only at hs
      cases hver:Nat.beq ver ver' with
      | false=>simp [hver] at hs
      | true =>
       simp only [hver,cond_true] at hs
       have hver:=Nat.eq_of_beq_eq_true hver
       subst hver
       cases him:immL get vl with
       | none=>simp only [him] at hs; cases hs
       | some q =>
        obtain ⟨vi,gone⟩:=q
        simp only [him] at hs
        cases hm:mem b gone||Nat.beq i.sz 0 with
        | true=>simp [hm] at hs
        | false =>
         simp only [hm,cond_false] at hs
         simp only [Bool.or_eq_false_iff] at hm
         obtain ⟨hm,hz0⟩:=hm
         have hz0:i.sz≠0:=fun e=>by rw [e] at hz0; cases hz0
         cases hsl:storeL (fl false t (xs.getD ix t.dflt)) i.sz base len d vi with
         | none=>simp only [hsl] at hs; cases hs
         | some cells' =>
          simp only [hsl] at hs
          cases huf:unfl false t cells' with
          | none=>simp only [huf] at hs; cases hs
          | some q =>
           obtain ⟨x',rr⟩:=q
           simp only [huf] at hs
           cases rr with
           | cons _ _=>cases hs
           | nil =>
            simp only [Option.some.injEq] at hs
            subst hs
            refine ⟨rfl,?_⟩
            have hxy:x=.row ver t xs:=by
             have:=hg b (by simp)
             rw [hxb,hb] at this; exact Option.some.inj this
            subst hxy
            obtain ⟨hcl,hone⟩:=Z100 hst (fun c hc=>hg c (by simp [hc])) hx
            obtain ⟨I1,hI1,hE1,hvi⟩:=Z316 him (fun c hc=>hg c (by simp [hc])) h hcl
            have hnb:b ∉ gone:=fun hx=>by rw [Z659.2 hx] at hm; cases hm
            have hxb1:updF (goneU gone) σ b=some (.row ver t xs):=by rw [Z103 hnb,hxb]
            obtain ⟨hi,blk,o,h1,rfl⟩:=hr.2 rfl
            rcases hI1.good.box b _ hxb1 with ⟨h2,h3⟩ | ⟨blk',o',C,E,h2,h3,h4⟩
            ·rw [h1] at h3; cases h3
            ·rw [h1] at h2; injection h2 with h2; injection h2 with e1 e2; subst e1; subst e2
             obtain ⟨vs,h5,h6⟩:=h4 ix _ (Z204 hi)
             obtain ⟨h7,h8,h9⟩:=Z259 hsl (RLs.of_rd (J:=F.J) (β:=β) (σ:=updF (goneU gone) σ) h5) hvi ho
             obtain ⟨v1,v2,h10,h11,h12⟩:=RLs.unfl huf h7
             simp only [RLs] at h12
             subst h12
             simp only [List.append_nil] at h10
             subst h10
             have hlen5:=h5.len
             have hC:o+ix*t.sz+t.sz≤C.size:=by
              cases hz:t.sz with
              | zero=>omega
              | succ n =>
               have:n < vs.length:=by omega
               have:=h6 n _ (List.getElem?_eq_getElem this)
               rcases Nat.lt_or_ge (o+ix*t.sz+n) C.size with h' | h'
               ·rw [hz] at h'; omega
               ·rw [Array.getElem?_eq_none h'] at this; cases this
             have hrun:=Z154 (w:=w) hTy (off:=o+ix*t.sz+(base+d)) h3 h8 hone (by omega)
             have hlb:liveB (updF (goneU gone) σ b):=by rw [hxb1]; trivial
             have hlenC:C.toList.length=C.size:=rfl
             have hch:=hI1.change (b:=b) (x':=.row ver t (xs.set ix x')) (bv:=some (blk,o)) (own:=fun k=>k=blk)
              (WStep.setRow (C':=(C.toList.take (o+ix*t.sz+(base+d))++ux.cells.toList++C.toList.drop (o+ix*t.sz+(base+d)+i.sz)).toArray) h3 rfl (by simp at h8 ⊢; omega))
              (fun k hk=>⟨hlb,o,by rw [hk,h1]⟩)
              (fun y hy=>by rw [hxb1] at hy; injection hy with hy; subst hy; exact .inl ⟨rfl,rfl,by simp,by simp [h1]⟩)
              (fun k o' hk=>by injection hk with hk; injection hk with hk _; subst hk; exact .inr ⟨hlb,o,h1⟩)
              (fun hE=>by
               refine .inr ⟨blk,o,_,E,by simp,setRow_heap w blk _ _ E (0,0) h3,?_⟩
               intro j y hy
               have hpatch:∀ n,((C.toList.take (o+ix*t.sz+(base+d))++ux.cells.toList++C.toList.drop (o+ix*t.sz+(base+d)+i.sz)).toArray)[n]? =
                 if n < o+ix*t.sz+(base+d) then C[n]? else if n < o+ix*t.sz+(base+d)+i.sz then ux.cells.toList[n - (o+ix*t.sz+(base+d))]? else C[n]?:=by
                intro n
                have:=getElem?_patch (l:=C.toList) (us:=ux.cells.toList) (k:=o+ix*t.sz+(base+d)) (n:=n) (by rw [h8,hlenC]; omega)
                rw [h8] at this
                simpa using this
               by_cases hj:j=ix
               ·subst hj
                rw [List.getElem?_set_self hi] at hy
                injection hy with hy; subst hy
                refine ⟨_,hE.rd h11,?_⟩
                intro n v hv
                rw [hpatch]
                have hp2:=getElem?_patch (l:=vs) (us:=ux.cells.toList) (k:=base+d) (n:=n) (by rw [h8]; omega)
                rw [h8] at hp2
                rw [hp2] at hv
                by_cases c1:n < base+d
                ·rw [if_pos c1] at hv
                 rw [if_pos (by omega)]
                 exact h6 n v hv
                ·rw [if_neg c1] at hv
                 rw [if_neg (by omega)]
                 by_cases c2:n < base+d+i.sz
                 ·rw [if_pos c2] at hv
                  rw [if_pos (by omega),show o+j*t.sz+n - (o+j*t.sz+(base+d))=n - (base+d) by omega]
                  exact hv
                 ·rw [if_neg c2] at hv
                  rw [if_neg (by omega)]
                  exact h6 n v hv
               ·rw [List.getElem?_set_ne (fun e=>hj e.symm)] at hy
                obtain ⟨vs',h13,h14⟩:=h4 j y hy
                refine ⟨vs',hE.rd h13,?_⟩
                intro n v hv
                rw [hpatch]
                have hn:n < t.sz:=by
                 rw [← h13.len]
                 rcases Nat.lt_or_ge n vs'.length with h' | h'
                 ·exact h'
                 ·rw [List.getElem?_eq_none h'] at hv; cases hv
                have hbd:base+d+i.sz≤t.sz:=by omega
                rcases Nat.lt_or_gt_of_ne hj with hlt | hgt
                ·have:(j+1)*t.sz≤ix*t.sz:=Nat.mul_le_mul_right _ hlt
                 rw [Nat.succ_mul] at this
                 rw [if_pos (by omega)]
                 exact h14 n v hv
                ·have:(ix+1)*t.sz≤j*t.sz:=Nat.mul_le_mul_right _ hgt
                 rw [Nat.succ_mul] at this
                 rw [if_neg (by omega),if_neg (by omega)]
                 exact h14 n v hv)
             exact ⟨_,I1,_,hrun,hch.1,hE1.trans hch.2⟩
     | pool ver' t pos inn=>simp at hs
     | gone=>simp at hs
  | _=>simp [hT] at hs
end
end Go.Abs
