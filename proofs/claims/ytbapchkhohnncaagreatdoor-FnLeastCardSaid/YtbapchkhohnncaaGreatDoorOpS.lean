import Derived.Test.YtbapchkhohnncaaGreatDoorOpQ
set_option linter.unusedSimpArgs false
set_option linter.unusedSectionVars false
set_option linter.unusedVariables false
namespace Go.Abs
section
variable {P:Program} {F:Fr} {I:Rg} {β:Bt} {σ:Sg} {w:World} {ty:Nat→Option TyI}
theorem Z66 (h:Inv F I β (ex σ) w) {T el ty':TypeId} {E:TyI} (hund:P.underlying T=some (.slice el)) (hEl:TyOk P el E) (hsz:E.sz=1) {b c vc:Nat} {t:Tc} {ys:List t.den} {us:Value}
  (hbK:b < 1000000) (hcK:c < 1000000) (hb:σ b=none) (hc:σ c=some (.pool vc t [0] [ys])) (hs:RL I F.J β (ex σ) w (.slice c vc none) us) (hroom:E.by_+1≤room) :
  ∃ u' w' I' β',(Builtin.append_ #[T,T] ty' #[.slice none 0 0,us]).run P w=.ok u' w'∧Inv F I' β' (ex (updF [(b,.pool 0 t [0] [ys]),(c,.gone)] σ)) w'∧Ext F.J I β (ex σ) w I' β' (ex (updF [(b,.pool 0 t [0] [ys]),(c,.gone)] σ)) w' ∧
   RL I' F.J β' (ex (updF [(b,.pool 0 t [0] [ys]),(c,.gone)] σ)) w' (.slice b 0 none) u':=by
 have hbc:b≠c:=by rintro rfl; rw [hb] at hc; cases hc
 obtain ⟨A',cp',rfl,hsl',hk'⟩:=Z241 h hcK hc hs
 obtain ⟨news,hnw,hrunnew⟩:=Z240 (P:=P) h (by rw [ex_low hcK,hc]) hsl'
 have hnL:news.length=1:=by have:=hnw.1; simpa using this
 match news,hnL with
 | [v0],_ =>
 obtain ⟨v0',hv0,v1,hv1,hv⟩:=cells1 hnw (i:=0) (x:=0) rfl
 simp only [List.getElem?_cons_zero,Option.some.injEq] at hv0
 subst hv0
 injection hv1 with hv1 _
 subst hv1
 have hkb:∀ d r,key d r≠b:=fun d r=>by have:=key_ge d r; omega
 have hcb:∀ r r',key c r≠key b r':=fun r r' e=>hbc (Z641 e).1.symm
 have hk0:ex σ (key b 0)=none:=by rw [ex_key,hb]; rfl
 have hc0:ex σ (key c 0)=some (.row 0 t ys):=by rw [ex_key,hc]; simp [innB]
 obtain ⟨m1,m2⟩:=h.move hc0 hk0
 have hv1:=Z223 (F:=F) (I:=I) (w:=w) hc0 (hcb 0 0).symm hv
 have hb1:setF (setF (ex σ) (key b 0) (.row 0 t ys)) (key c 0) .gone b=none:=by
  rw [Z712 _ _ (hkb c 0).symm,Z712 _ _ (hkb b _).symm,ex_low hbK,hb]
 have hfade:=Z388 (k:=0) (x':=.pool 0 t [0] [ys]) hbK hcK hbc hc (fun r hr=>by
  rw [hb]; cases r with
  | zero=>exact absurd rfl hr
  | succ r=>simp [innB]) (by simp [innB])
 rw [← hsz] at hrunnew
 obtain ⟨cap,rest,hrun,hcap,hrest⟩:=Z109 (w:=w) (ty':=ty') (A:=none) (sLen:=0) (sCap:=0) (n:=1) (olds:=[]) hund hEl (run_firstCells_none ..) (hrunnew w.drew (fun _ _ h=>h)) (by omega) (by simpa using hroom)
 obtain ⟨p1,p2,p3⟩:=Z510 m1 hb1 (C:=([]++[v0]).toArray++rest) (E:=el) (w1:=w.drew) (WStep.drew _ w _) rfl (t:=t) (pos:=[0]) (inn:=[ys]) (cap:=cap) (fun i p hp=>by
  cases i with
  | zero =>
   simp only [List.getElem?_cons_zero,Option.some.injEq] at hp
   subst hp
   exact ⟨v0,by rw [Array.getElem?_append_left (by simp)]; rfl,hv1⟩
  | succ i=>simp at hp) (by simpa using hcap) (by rw [hsz] at hrest; simp [hrest]; omega)
 obtain ⟨f1,f2⟩:=p1.fade hfade
 exact ⟨_,_,_,_,hrun,f1,m2.trans (p2.trans f2),f2.rl p3⟩
theorem Z182 (h:Inv F I β (ex σ) w) {T el:TypeId} {E:TyI} (hund:P.underlying T=some (.slice el)) (hEl:TyOk P el E) {b:Nat} {t:Tc} (hbK:b < 1000000) (hb:σ b=none) :
  ∃ u' w' I' β',(Instr.buildSlice T 0 #[]).run P w=.ok u' w'∧Inv F I' β' (ex (updF [(b,.pool 0 t [] [])] σ)) w'∧Ext F.J I β (ex σ) w I' β' (ex (updF [(b,.pool 0 t [] [])] σ)) w'∧RL I' F.J β' (ex (updF [(b,.pool 0 t [] [])] σ)) w' (.slice b 0 none) u':=by
 obtain ⟨p1,p2,p3⟩:=Z510 h (by rw [ex_low hbK,hb]) (C:=#[]) (E:=el) (w1:=w) (WStep.refl _ w) rfl (t:=t) (pos:=[]) (inn:=[]) (cap:=0) (fun i p hp=>by simp at hp) (by simp) (by simp)
 have e:ex (updF [(b,.pool 0 t [] [])] σ)=setF (ex σ) b (.pool 0 t [] []):=by
  show ex (setF σ b (.pool 0 t [] []))=_
  exact Z613 hbK (fun r=>by rw [hb]; simp [innB])
 rw [e]
 refine ⟨_,_,I,_,?_,p1,p2,p3⟩
 have hrs:=hEl.run_size w
 simp [Instr.buildSlice,run_underlying hund,hrs,Instr.fill,newRow,Array.range_zero']
theorem Z247 {T el:TypeId} {E:TyI} (hund:P.underlying T=some (.slice el)) (hEl:TyOk P el E) (hsz:E.sz=1) {v:Value} (hv:v.oneCell'=true) :
  (Instr.buildSlice T 1 #[(0,v)]).run P w=.ok (.slice (some ⟨w.heap.size,0,none⟩) 1 1) (w.alloc (.cells #[v] el)):=by
 obtain ⟨inf,z,hinf,hsz',hby,hz,hzc⟩:=hEl.info
 have hrs:=hEl.run_size w
 have hrz:(zeroValue el).run P w=.ok z w:=by simp [zeroValue,typeInfo,hinf,hz]
 have hzl:z.cells.size=1:=by
  have:=(hEl.zero (fun _ _=>False) w).len
  rw [hEl.size,hsz,← hzc] at this
  simpa using this
 have hc:=Z282 hv
 have hvs:v.cells=#[v]:=by apply Array.ext'; simpa using hc
 obtain ⟨z0,hz0⟩:∃ z0,z.cells=#[z0]:=Array.size_eq_one_iff.1 hzl
 simp [Instr.buildSlice,run_underlying hund,hrs,hsz,hrz,Instr.fill,newRow,hz0,hvs,Array.range_succ,Array.range_zero']
theorem Z277 (h:Inv F I β (ex σ) w) {T el:TypeId} {E:TyI} (hund:P.underlying T=some (.slice el)) (hEl:TyOk P el E) (hsz:E.sz=1) {b c vc:Nat} {t:Tc} {ys:List t.den} {v:Value} (hbK:b < 1000000) (hcK:c < 1000000) (hb:σ b=none)
  (hc:σ c=some (.row vc t ys)) (hv:RL I F.J β (ex σ) w (.slice c vc none) v) :
  ∃ u' w' I' β',(Instr.buildSlice T 1 #[(0,v)]).run P w=.ok u' w'∧Inv F I' β' (ex (updF [(b,.pool 0 t [0] [ys]),(c,.gone)] σ)) w'∧Ext F.J I β (ex σ) w I' β' (ex (updF [(b,.pool 0 t [0] [ys]),(c,.gone)] σ)) w' ∧
   RL I' F.J β' (ex (updF [(b,.pool 0 t [0] [ys]),(c,.gone)] σ)) w' (.slice b 0 none) u':=by
 have hbc:b≠c:=by rintro rfl; rw [hb] at hc; cases hc
 have hkb:∀ d r,key d r≠b:=fun d r=>by have:=key_ge d r; omega
 have hkc:∀ d r,key d r≠c:=fun d r=>by have:=key_ge d r; omega
 have hk0:ex σ (key b 0)=none:=by rw [ex_key,hb]; rfl
 have hc0:ex σ c=some (.row vc t ys):=by rw [ex_low hcK,hc]
 obtain ⟨m1,m2⟩:=h.move hc0 hk0
 have hv1:=Z223 (F:=F) (I:=I) (w:=w) hc0 (hkc b 0) hv
 have hfl:Value.flat v=true:=Z238 ⟨t,ys,by rw [Z712 _ _ (hkc b 0)]; simp⟩ hv1
 have hb1:setF (setF (ex σ) (key b 0) (.row 0 t ys)) c .gone b=none:=by
  rw [Z712 _ _ hbc,Z712 _ _ (hkb b _).symm,ex_low hbK,hb]
 obtain ⟨p1,p2,p3⟩:=Z510 m1 hb1 (C:=#[v]) (E:=el) (w1:=w) (WStep.refl _ w) rfl (t:=t) (pos:=[0]) (inn:=[ys]) (cap:=1) (fun i p hp=>by
  cases i with
  | zero =>
   simp only [List.getElem?_cons_zero,Option.some.injEq] at hp
   subst hp
   exact ⟨v,by simp,hv1⟩
  | succ i=>simp at hp) (by simp) (by simp)
 have hpad:∀ n,ex (updF [(b,.pool 0 t [0] [ys]),(c,.gone)] σ) n=setF (setF (setF (ex σ) (key b 0) (.row 0 t ys)) c .gone) b (.pool 0 t [0] [ys]) n ∨
   (ex (updF [(b,.pool 0 t [0] [ys]),(c,.gone)] σ) n=some .gone∧setF (setF (setF (ex σ) (key b 0) (.row 0 t ys)) c .gone) b (.pool 0 t [0] [ys]) n=none):=by
  intro n
  show ex (setF (setF σ c .gone) b _) n=_∨ex (setF (setF σ c .gone) b _) n=_∧_
  rw [Z614 (p:=0) (z:=.row 0 t ys) hbK ?_ (by simp [innB])]
  ·by_cases e1:n=b
   ·subst e1; left; simp
   ·rw [Z712 _ _ e1,Z712 _ _ e1]
    by_cases e2:n=c
    ·subst e2
     left
     rw [Z712 _ _ (hkc b 0).symm,Z367,ex_low hcK,Z367]
    ·rw [Z712 _ _ e2]
     by_cases e3:n=key b 0
     ·subst e3; left; simp
     ·rw [Z712 _ _ e3,Z712 _ _ e3,Z612 hcK]
      split
      ·rename_i hh
       rcases hh with hh | ⟨r,rfl⟩
       ·exact absurd hh e2
       ·right
        exact ⟨rfl,by rw [ex_key,hc]; rfl⟩
      ·left; rfl
  ·intro r hr
   rw [Z712 _ _ hbc,hb]
   cases r with
   | zero=>exact absurd rfl hr
   | succ r=>simp [innB]
 obtain ⟨f1,f2⟩:=p1.pad hpad
 exact ⟨_,_,I,_,Z247 hund hEl hsz (by rw [← Z458]; exact hfl),f1,m2.trans (p2.trans f2),f2.rl p3⟩
theorem Z181 (h:Inv F I β (ex σ) w) {T el:TypeId} {E:TyI} (hund:P.underlying T=some (.slice el)) (hEl:TyOk P el E) (hsz:E.sz=1) {bor:Bool} {t:Tc} {ys:List t.den} {v:Value} (hv:RL I F.J β (ex σ) w (.list bor t ys) v) :
  ∃ u' w' I',(Instr.buildSlice T 1 #[(0,v)]).run P w=.ok u' w'∧Inv F I' β (ex σ) w'∧Ext F.J I β (ex σ) w I' β (ex σ) w'∧RL I' F.J β (ex σ) w' (.list true (.list t) [ys]) u':=by
 have hone:v.oneCell'=true:=by obtain ⟨A,c,rfl,_⟩:=hv; rfl
 obtain ⟨p1,p2⟩:=h.grow (w':=w.alloc (.cells #[v] el)) (WStep.alloc _ w _)
 refine ⟨_,_,_,Z247 hund hEl hsz hone,p1,p2,some ⟨w.heap.size,0,none⟩,1,rfl,Nat.le_refl _,.inr ⟨⟨w.heap.size,0,none⟩,rfl,rfl,?_⟩⟩
 have hall:∀ i,both (fun blk i=>I blk i∨(w.heap.size≤blk∧blk < (w.alloc (.cells #[v] el)).heap.size)) F.J true w.heap.size i:=fun i=>.inl (.inr ⟨Nat.le_refl _,by simp⟩)
 intro i x hx
 cases i with
 | succ i=>simp at hx
 | zero =>
  simp only [List.getElem?_cons_zero,Option.some.injEq] at hx
  subst hx
  have:=p2.rl hv
  obtain ⟨A,c,rfl,h2,h3⟩:=this
  refine ⟨[.slice A ys.length c],⟨A,c,rfl,h2,h3.imp (fun h=>h) fun ⟨a,g1,g2,g3⟩=>⟨a,g1,g2,g3.mono (fun _ _ hk=>hk.imp (fun h=>h) fun hk=>⟨rfl,hk.2⟩) (fun _ _ _ _ h=>h) (fun _ _ hr=>hr.mono (fun _ _ hk=>hk.imp (fun h=>h) fun hk=>⟨rfl,hk.2⟩) (fun _ _ _ _ h=>h))⟩⟩,rfl,fun j u hj=>⟨hall _,?_⟩⟩
  match j,hj with
  | 0,hj =>
   simp only [List.getElem?_cons_zero,Option.some.injEq] at hj
   subst hj
   rw [Z584 (heap_alloc_new w _)]
   simp
  | j+1,hj=>simp at hj
theorem Inv.empties (h:Inv F I β σ w) {σ':Sg} {t:Tc} (hσ:∀ n,σ' n=σ n∨(σ' n=some (.row 0 t [])∧σ n=none)):∃ β',(∀ n,σ n=none→σ' n=some (.row 0 t [])→β' n=none)∧(∀ n,σ' n=σ n→(σ n).isSome=true→β' n=β n) ∧
  Inv F I β' σ' w∧Ext F.J I β σ w I β' σ' w:=by
 classical
 let β':Bt:=fun n=>if σ n=none then none else β n
 have hs:∀ n x,σ n=some x→β' n=β n:=fun n x hx=>by simp only [β']; rw [if_neg]; rw [hx]; simp
 have hE:Ext F.J I β σ w I β' σ' w:=by
  refine ⟨fun _ _ h=>h,fun _ _ _ _ h=>h,?_,.refl w⟩
  intro n x hx
  rcases hσ n with e | ⟨_,e⟩
  ·refine ⟨x,by rw [e,hx],?_⟩
   have:=hs n x hx
   cases x <;> simp [Evo,this]
  ·rw [e] at hx; cases hx
 have hlive:∀ n q,liveB (σ' n)→β' n=some q→liveB (σ n)∧β n=some q:=by
  intro n q hl hq
  rcases hσ n with e | ⟨_,e⟩
  ·rw [e] at hl
   obtain ⟨x,hx⟩:=Z218 hl
   exact ⟨hl,by rw [← hs n x hx]; exact hq⟩
  ·simp only [β'] at hq
   rw [if_pos e] at hq
   cases hq
 refine ⟨β',fun n hn _=>by simp only [β']; rw [if_pos hn],fun n _ hn=>by obtain ⟨x,hx⟩:=Option.isSome_iff_exists.1 hn; exact hs n x hx,⟨⟨?_,?_,?_,h.good.bnd⟩,h.ext.trans hE,h.size,h.keep,h.iNew,?_,h.same⟩,hE⟩
 ·intro n x hx
  rcases hσ n with e | ⟨e,e'⟩
  ·rw [e] at hx
   have hb0:=h.good.box n x hx
   have hb:=hs n x hx
   cases x with
   | var T cells =>
    obtain ⟨blk,vs,h1,h2,h3⟩:=hb0
    exact ⟨blk,vs,by rw [hb,h1],h2,hE.rls h3⟩
   | row ver t xs =>
    rcases hb0 with ⟨h1,h2⟩ | ⟨blk,o,C,E,h1,h2,h3⟩
    ·exact .inl ⟨h1,by rw [hb,h2]⟩
    ·exact .inr ⟨blk,o,C,E,by rw [hb,h1],h2,h3⟩
   | pool ver t pos inn =>
    rcases hb0 with ⟨h1,h2⟩ | ⟨blk,o,C,E,h1,h2,h3⟩
    ·exact .inl ⟨h1,by rw [hb,h2]⟩
    ·refine .inr ⟨blk,o,C,E,by rw [hb,h1],h2,?_⟩
     intro i p hp
     obtain ⟨v,h4,h5⟩:=h3 i p hp
     exact ⟨v,h4,hE.rl h5⟩
   | gone=>trivial
  ·rw [e] at hx
   injection hx with hx
   subst hx
   exact .inl ⟨rfl,by simp only [β']; rw [if_pos e']⟩
 ·intro n n' blk o o' hl hl' hn hn'
  obtain ⟨g1,g2⟩:=hlive n _ hl hn
  obtain ⟨g3,g4⟩:=hlive n' _ hl' hn'
  exact h.good.inj n n' blk o o' g1 g3 g2 g4
 ·intro n blk o i hl hn
  obtain ⟨g1,g2⟩:=hlive n _ hl hn
  exact h.good.sep n blk o i g1 g2
 ·intro n blk o hl hn
  obtain ⟨g1,g2⟩:=hlive n _ hl hn
  exact h.bNew n blk o g1 g2
open Classical in
theorem Z328 (h:Inv F I β (ex σ) w) {T el:TypeId} {E:TyI} (hund:P.underlying T=some (.slice el)) (hEl:TyOk P el E) (hsz:E.sz=1) (hz0:E.zero=[.slice none 0 0]) {b:Nat} {t:Tc} {k k':IntKind} {n:Int} (hbK:b < 1000000) (hb:σ b=none)
  (h0:0≤n) (hroom:n.toNat*(E.by_+1)≤room) :
  ∃ u' w' I' β',(Instr.makeSlice T (.int k n) (.int k' n)).run P w=.ok u' w'∧Inv F I' β' (ex (updF [(b,.pool 0 t (List.range n.toNat) (List.replicate n.toNat []))] σ)) w' ∧
   Ext F.J I β (ex σ) w I' β' (ex (updF [(b,.pool 0 t (List.range n.toNat) (List.replicate n.toNat []))] σ)) w'∧RL I' F.J β' (ex (updF [(b,.pool 0 t (List.range n.toNat) (List.replicate n.toNat []))] σ)) w' (.slice b 0 none) u':=by
 obtain ⟨inf,z,hinf,hsz',hby,hz,hzc⟩:=hEl.info
 have hzl:z.cells=E.zero.toArray:=by apply Array.ext'; simpa using hzc
 unfold room at hroom
 have hm:n.toNat*(E.by_+1)=n.toNat*E.by_+n.toNat:=by rw [Nat.mul_add]; omega
 have hbytes:(inf.bytes:Int)*n≤281474976710656:=by
  rw [hby]
  have:((E.by_*n.toNat:Nat):Int)≤281474976710656:=by rw [Nat.mul_comm]; omega
  rwa [Int.natCast_mul,Int.toNat_of_nonneg h0] at this
 have hrun:=run_make (P:=P) w T el inf z hund hinf hz k k' n n h0 (Int.le_refl _) hbytes (by omega)
 have hcells:madeCells z.cells (n.toNat*inf.size)=(List.replicate n.toNat (Value.slice none 0 0)).toArray:=by
  apply Array.ext'
  have h1:=Z358 E.zero n.toNat
  rw [hz0] at h1
  simp only [List.length_singleton,Nat.mul_one] at h1
  rw [hsz',hsz,hzl,hz0]
  simp only [madeCells,Nat.mul_one]
  have h2:((List.replicate n.toNat [Value.slice none 0 0]).flatten)=List.replicate n.toNat (Value.slice none 0 0):=by
   simp
  rw [← h2,← h1]
  simp
 rw [hcells] at hrun
 have hkb:∀ d r,key d r≠b:=fun d r=>by have:=key_ge d r; omega
 have hex:∀ m,ex (setF σ b (.pool 0 t (List.range n.toNat) (List.replicate n.toNat []))) m=(if m=b then some (.pool 0 t (List.range n.toNat) (List.replicate n.toNat [])) else if ∃ r,r < n.toNat∧m=key b r then some (.row 0 t []) else ex σ m):=by
  intro m
  cases hu:unkey m with
  | none =>
   have e1:∀ g:Sg,ex g m=g m:=fun g=>by unfold ex; rw [hu]
   rw [e1,e1]
   by_cases e:m=b
   ·subst e; simp
   ·rw [Z712 _ _ e,if_neg e,if_neg]
    rintro ⟨r,_,rfl⟩
    rw [Z391] at hu; cases hu
  | some q =>
   obtain ⟨d,r⟩:=q
   have hn:=Z266 hu
   subst hn
   rw [ex_key,if_neg (hkb d r)]
   by_cases e:d=b
   ·subst e
    rw [Z367]
    simp only [innB,List.getElem?_replicate]
    by_cases hr:r < n.toNat
    ·rw [if_pos hr,if_pos ⟨r,hr,rfl⟩]; rfl
    ·rw [if_neg hr,if_neg,ex_key,hb]
     ·rfl
     ·rintro ⟨r',h1,h2⟩
      have:=(Z641 h2).2
      omega
   ·rw [Z712 _ _ e,if_neg,ex_key]
    rintro ⟨r',h1,h2⟩
    exact e (Z641 h2).1
 obtain ⟨β1,hβ1,hβ2,m1,m2⟩:=h.empties (t:=t) (σ':=fun m=>if ∃ r,r < n.toNat∧m=key b r then some (.row 0 t []) else ex σ m) (fun m=>by
  split
  ·rename_i hh
   obtain ⟨r,h1,rfl⟩:=hh
   exact .inr ⟨rfl,by rw [ex_key,hb]; rfl⟩
  ·exact .inl rfl)
 obtain ⟨p1,p2,p3⟩:=Z510 m1 (b:=b) (by
  rw [if_neg,ex_low hbK,hb]
  rintro ⟨r,_,h2⟩
  exact hkb b r h2.symm) (C:=(List.replicate n.toNat (Value.slice none 0 0)).toArray) (E:=el) (w1:=w) (WStep.refl _ w) rfl (t:=t) (pos:=List.range n.toNat) (inn:=List.replicate n.toNat []) (cap:=n.toNat) (fun i p hp=>by
   have hi:i < n.toNat:=by
    have:=(List.getElem?_eq_some_iff.1 hp).1
    simpa using this
   rw [List.getElem?_range hi] at hp
   injection hp with hp
   subst hp
   refine ⟨.slice none 0 0,by simp [hi],.row 0 t [],?_,Nat.le_refl _,fun _=>⟨none,0,rfl,.inl ⟨rfl,rfl⟩⟩⟩
   exact if_pos ⟨i,hi,rfl⟩) (by simp) (by simp)
 have e:ex (updF [(b,.pool 0 t (List.range n.toNat) (List.replicate n.toNat []))] σ)=setF (fun m=>if ∃ r,r < n.toNat∧m=key b r then some (.row 0 t []) else ex σ m) b (.pool 0 t (List.range n.toNat) (List.replicate n.toNat [])):=by
  funext m
  show ex (setF σ b _) m=_
  rw [hex]
  by_cases hmb:m=b
  ·subst hmb; simp
  ·rw [if_neg hmb,Z712 _ _ hmb]
 rw [e]
 rw [List.length_range] at p3
 exact ⟨_,_,I,_,hrun,p1,m2.trans p2,p3⟩
theorem Z37 (hty:TysOk P ty) (h:Inv F I β (ex σ) w) {get:Nat→Option Box} {fresh:Nat} {ρ:Operand→PV} {ev:Operand→Value} {o:Oper} {e:Eff}
  (hs:Z536 ty get fresh ρ o.op=some e) (hgd:e.g=true) (hg:∀ b∈e.rd,σ b=get b) (hf:σ fresh=none) (hK:∀ b∈fresh :: e.rd,b < 1000000) (hv:∀ x∈o.op.operands,RV I F.J β (ex σ) w (ρ x) (ev x)) :
  Does P F (ex (updF e.upd σ)) e.v I β (ex σ) w (execOp ev o):=by
 obtain ⟨dst,op,type,pos,after,guard⟩:=o
 simp only at hs hv
 have hfK:fresh < 1000000:=hK fresh (by simp)
 have hK':∀ b∈e.rd,b < 1000000:=fun b hb=>hK b (by simp [hb])
 cases op with
 | buildSlice T len parts =>
  simp only [Z536] at hs
  split at hs
  ·rename_i t E hT
   obtain ⟨el,hund,hE,hEl,htc,hsz⟩:=Z239 hty hT
   split at hs
   ·rename_i hp
    simp only [Option.some.injEq] at hs
    subst hs
    have hpa:parts=#[]:=by apply Array.ext'; simpa using hp
    subst hpa
    obtain ⟨u,w',I',β',h1,h2,h3,h4⟩:=Z182 (t:=t) h hund hEl hfK hf
    exact Does.of (by simp only [execOp]; exact run_v (by simpa using h1)) h2 h3 h4
   ·rename_i x hp
    have hpa:parts=#[(0,x)]:=by apply Array.ext'; simpa using hp
    subst hpa
    have hx:=hv x (by simp [Op.operands])
    split at hs
    ·rename_i bor t' xs hr
     rw [hr] at hx
     split at hs
     ·rename_i ys hc
      have:=Z445 (rd:=[]) hs
      subst this
      obtain ⟨et,hy⟩:=Z184 hc
      subst et
      simp only at hy
      subst hy
      obtain ⟨u,w',I',h1,h2,h3,h4⟩:=Z181 h hund hEl hsz hx
      exact Does.of (by simp only [execOp]; exact run_v (by simpa using h1)) h2 h3 h4
     ·cases hs
    ·rename_i l _ hr
     rw [hr] at hx
     split at hs
     ·rename_i ys c how
      simp only [Option.some.injEq] at hs
      subst hs
      obtain ⟨vc,rfl,hgc⟩:=Z232 how
      obtain ⟨u,w',I',β',h1,h2,h3,h4⟩:=Z277 h hund hEl hsz hfK (hK' c (by simp)) hf (by rw [hg c (by simp),hgc]) hx
      exact Does.of (by simp only [execOp]; exact run_v (by simpa using h1)) h2 h3 h4
     ·cases hs
    ·cases hs
   ·cases hs
  ·cases hs
 | makeSlice T l c =>
  simp only [Z536] at hs
  split at hs
  ·rename_i t E n m hT hl hc
   split at hs
   ·rename_i hz0
    simp only [Option.some.injEq] at hs
    subst hs
    obtain ⟨el,hund,hE,hEl,htc,hsz⟩:=Z239 hty hT
    simp only [Bool.and_eq_true,decide_eq_true_eq] at hgd
    obtain ⟨⟨rfl,h0⟩,hroom⟩:=hgd
    obtain ⟨k,hk⟩:=Z213 hl
    obtain ⟨k',hk'⟩:=Z213 hc
    have hvl:=hv l (by simp [Op.operands])
    have hvc:=hv c (by simp [Op.operands])
    rw [hk] at hvl
    rw [hk'] at hvc
    simp only [RV,RL] at hvl hvc
    obtain ⟨u,w',I',β',h1,h2,h3,h4⟩:=Z328 (t:=t) (k:=k) (k':=k') h hund hEl hsz hz0 hfK hf h0 hroom
    exact Does.of (by simp only [execOp,hvl,hvc]; exact run_v (by simpa using h1)) h2 h3 h4
   ·cases hs
  ·cases hs
 | indexAddr T x i =>
  simp only [Z536] at hs
  have hx:=hv x (by simp [Op.operands])
  have hi:=hv i (by simp [Op.operands])
  split at hs
  ·rename_i l n hrx hin
   obtain ⟨k,hk⟩:=Z213 hin
   rw [hrx] at hx
   rw [hk] at hi
   simp only [RV,RL] at hi
   obtain ⟨h0,u,h1,h2⟩:=Z12 (k:=k) hty h hs hgd hg hK' hx
   rw [h0]
   refine Does.pure' h ?_ h2
   simp [execOp,hi,h1]
  ·cases hs
 | load T a =>
  simp only [Z536] at hs
  have ha:=hv a (by simp [Op.operands])
  split at hs
  ·rename_i l hr
   rw [hr] at ha
   obtain ⟨h0,u,h1,h2⟩:=Z29 hty h hs hg hK' ha
   rw [h0]
   exact Does.pure' h (by simp [execOp,h1]) h2
  ·cases hs
 | store T a x =>
  simp only [Z536] at hs
  have ha:=hv a (by simp [Op.operands])
  have hx:=hv x (by simp [Op.operands])
  split at hs
  ·rename_i l hr
   rw [hr] at ha
   obtain ⟨h0,w',I',β',h1,h2,h3⟩:=Z15 hty h hs hg hK' ha hx
   rw [h0]
   exact ⟨_,undef,w',by simp [execOp,h1],.inr ⟨rfl,rfl⟩,I',β',h2,h3,trivial⟩
  ·cases hs
 | fieldAddr S x f =>
  simp only [Z536] at hs
  have hx:=hv x (by simp [Op.operands])
  split at hs
  ·rename_i TI b p i base hT hrx
   rw [hrx] at hx
   split at hs
   ·rename_i fs hDs
    split at hs
    ·rename_i off t hn
     split at hs
     ·rename_i zz hst
      cases hp:isPool (get b) with
      | false=>simp [hp] at hs
      | true =>
       simp only [hp,cond_true] at hs
       have:=Z445 hs
       subst this
       obtain ⟨d,hund,hds,_⟩:=(hty S TI hT).desc
       rw [hDs] at hds
       obtain ⟨fields,rfl,hfs⟩:=hds
       rw [nth_eq,← hfs] at hn
       simp only [List.getElem?_map] at hn
       cases hfi:fields.toList[f]? with
       | none=>simp [hfi] at hn
       | some fd =>
        simp only [hfi,Option.map_some,Option.some.injEq,Prod.mk.injEq] at hn
        obtain ⟨rfl,rfl⟩:=hn
        cases hst':ty fd.type with
        | none=>simp [sizeT,hst'] at hst
        | some TF =>
         have hTF:=hty fd.type TF hst'
         have hz:TF.sz=zz+1:=by simpa [sizeT,hst'] using hst
         have hrun:∀ blk o,(Instr.fieldAt S (.pointer (some ⟨blk,o,none⟩)) f).run P w=.ok (.pointer (some ⟨blk,o+fd.offset,none⟩)) w:=by
          intro blk o
          have hfi':fields[f]?=some fd:=by simpa using hfi
          simp [Instr.fieldAt,Instr.sureAddr,run_underlying hund,hfi',fieldPlace,hTF.run_size,hz,Z406]
         have hgb:=hg b (by simp)
         cases hgb':get b with
         | none=>simp [hgb',isPool] at hp
         | some y =>
          cases y with
          | pool ver t pos inn =>
           obtain ⟨_,_,x',hx',hra⟩:=hx
           obtain ⟨xs,_,_,rfl⟩:=Z478 (by rw [hgb,hgb']:σ b=some (.pool ver t pos inn)) hx'
           obtain ⟨hi,blk,oo,hbb,hu⟩:=hra.2 rfl
           refine Does.pure' h (u:=.pointer (some ⟨blk,oo+i*t.sz+(base+fd.offset),none⟩)) ?_ ⟨rfl,.inl ⟨rfl,rfl⟩,_,hx',hra.1,fun _=>⟨hi,blk,oo,hbb,by simp⟩⟩
           simp only [execOp,hu]
           exact run_v (by simpa [Nat.add_assoc] using hrun blk (oo+i*t.sz+base))
          | _=>simp [hgb',isPool] at hp
     ·cases hs
    ·cases hs
   ·cases hs
  ·cases hs
 | nilCheck x =>
  simp only [Z536] at hs
  have hx:=hv x (by simp [Op.operands])
  split at hs
  ·rename_i b p i base len d hr
   rw [hr] at hx
   cases hp:isPool (get b) with
   | false=>simp [hp] at hs
   | true =>
    simp only [hp,cond_true] at hs
    have:=Z445 hs
    subst this
    have hgb:=hg b (by simp)
    have hu:∃ a,ev x=.pointer (some a):=by
     cases hgb':get b with
     | none=>simp [hgb',isPool] at hp
     | some y =>
      cases y with
      | pool ver t pos inn =>
       obtain ⟨_,_,x',hx',hra⟩:=hx
       obtain ⟨xs,_,_,rfl⟩:=Z478 (by rw [hgb,hgb']:σ b=some (.pool ver t pos inn)) hx'
       obtain ⟨hi,blk,oo,hbb,hu⟩:=hra.2 rfl
       exact ⟨_,hu⟩
      | _=>simp [hgb',isPool] at hp
    obtain ⟨a,hu⟩:=hu
    refine Does.pure' h (u:=ev x) ?_ hx
    simp [execOp,hu]
  ·cases hs
 | call c =>
  obtain ⟨callee,args,argTypes⟩:=c
  simp only [Z536] at hs
  have hva:∀ y∈args.toList,RV I F.J β (ex σ) w (ρ y) (ev y):=fun y hy=>hv y (by simp [Op.operands,Call.operands]; first | exact .inr (by simpa using hy) | simpa using hy)
  cases callee with
  | builtin bi =>
   have hmap:∀ l,args.toList=l→args.map ev=(l.map ev).toArray:=fun l hl=>by apply Array.ext'; simp [← hl]
   cases bi with
   | len =>
    simp only at hs
    split at hs
    ·rename_i x T hargs hat
     split at hs
     ·rename_i l hrx
      have hx:=hva x (by simp [hargs])
      rw [hrx] at hx
      obtain ⟨h0,u,h1,h2⟩:=Z47 (ty':=type) hty h hs hg hK' hx
      rw [h0]
      refine Does.pure' h ?_ h2
      have hat':argTypes=#[T]:=by apply Array.ext'; simpa using hat
      have ha':args=#[x]:=by apply Array.ext'; simpa using hargs
      subst ha'
      simp [execOp,resolve,invoke,builtin,hat',h1]
     ·cases hs
    ·cases hs
   | append =>
    simp only at hs
    split at hs
    ·rename_i x y T T' hargs hat
     cases hTT:Nat.beq T T' with
     | false=>simp [hTT] at hs
     | true =>
      simp only [hTT,cond_true] at hs
      have hTT:=Nat.eq_of_beq_eq_true hTT
      subst hTT
      have hat':argTypes=#[T,T]:=by apply Array.ext'; simpa using hat
      have ha':args=#[x,y]:=by apply Array.ext'; simpa using hargs
      subst ha'
      have hx:=hva x (by simp)
      have hy:=hva y (by simp)
      have fin:(∃ u' w' I' β',(Builtin.append_ #[T,T] type #[ev x,ev y]).run P w=.ok u' w'∧Inv F I' β' (ex (updF e.upd σ)) w'∧Ext F.J I β (ex σ) w I' β' (ex (updF e.upd σ)) w'∧RV I' F.J β' (ex (updF e.upd σ)) w' e.v u') →
        Does P F (ex (updF e.upd σ)) e.v I β (ex σ) w (execOp ev ⟨dst,.call ⟨.builtin .append,#[x,y],argTypes⟩,type,pos,after,guard⟩):=by
       rintro ⟨u,w',I',β',h1,h2,h3,h4⟩
       exact Does.of (by simp [execOp,resolve,invoke,builtin,hat',h1]) h2 h3 h4
      apply fin
      split at hs
      ·rename_i t E hT
       obtain ⟨el,hund,hE,hEl,htc,hsz⟩:=Z239 hty hT
       split at hs
       ·rename_i d s hrx hry
        rw [hrx] at hx
        rw [hry] at hy
        unfold Z174 at hs
        split at hs
        ·rename_i bor t' yss
         split at hs
         ·rename_i zss b ver hcz
          split at hs
          ·rename_i ver' t'' pos' inn hgb
           cases hver:Nat.beq ver ver' with
           | false=>simp [hver] at hs
           | true =>
            simp only [hver,cond_true] at hs
            have hver:=Nat.eq_of_beq_eq_true hver
            subst hver
            split at hs
            ·rename_i inn' hci
             simp only [Option.some.injEq] at hs
             subst hs
             obtain ⟨et,hy1⟩:=castLL hcz
             subst et
             simp only at hy1
             subst hy1
             obtain ⟨et,hy1⟩:=castLL hci
             subst et
             simp only at hy1
             subst hy1
             obtain ⟨u',w',I',β',q1,q2,q3,q4⟩:=Z110 (ty':=type) h hund hEl hsz (hK' b (by simp)) (by rw [hg b (by simp),hgb]) hx hy (by simpa using hgd)
             exact ⟨u',w',I',β',q1,q2,q3,q4⟩
            ·cases hs
          ·cases hs
         ·cases hs
        ·split at hs
         ·rename_i ys c htmp
          obtain ⟨vc,rfl,hgc⟩:=Z165 htmp
          split at hs
          ·cases hble:Nat.ble (E.by_+1) room with
           | false=>simp [hble] at hs
           | true =>
            simp only [hble,cond_true,Option.some.injEq] at hs
            subst hs
            simp only [RV,RL] at hx
            rw [hx]
            obtain ⟨u',w',I',β',q1,q2,q3,q4⟩:=Z66 (ty':=type) h hund hEl hsz hfK (hK' c (by simp)) hf (by rw [hg c (by simp),hgc]) hy (Nat.le_of_ble_eq_true hble)
            exact ⟨u',w',I',β',q1,q2,q3,q4⟩
          ·rename_i b ver
           split at hs
           ·rename_i ver' t'' pos' inn hgb
            cases hver:Nat.beq ver ver'&&!(Nat.beq b c) with
            | false=>simp [hver] at hs
            | true =>
             simp only [hver,cond_true] at hs
             simp only [Bool.and_eq_true,Bool.not_eq_true'] at hver
             obtain ⟨hver,hbc⟩:=hver
             have hver:=Nat.eq_of_beq_eq_true hver
             subst hver
             have hbc:b≠c:=by rintro rfl; rw [Nat.beq_refl] at hbc; cases hbc
             split at hs
             ·rename_i inn' hci
              simp only [Option.some.injEq] at hs
              subst hs
              obtain ⟨et,hy1⟩:=castLL hci
              subst et
              simp only at hy1
              subst hy1
              obtain ⟨u',w',I',β',q1,q2,q3,q4⟩:=Z112 (ty':=type) h hund hEl hsz (hK' b (by simp)) (hK' c (by simp)) hbc (by rw [hg b (by simp),hgb]) (by rw [hg c (by simp),hgc]) hx hy (by simpa using hgd)
              exact ⟨u',w',I',β',q1,q2,q3,q4⟩
             ·cases hs
           ·cases hs
          ·cases hs
         ·cases hs
       ·cases hs
      ·cases hs
    ·cases hs
   | _=>simp at hs
  | _=>simp at hs
 | _=>simp [Z536] at hs
end
end Go.Abs
