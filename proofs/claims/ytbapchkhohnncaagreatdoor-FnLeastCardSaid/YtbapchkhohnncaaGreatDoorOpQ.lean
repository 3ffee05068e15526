import Derived.Test.YtbapchkhohnncaaGreatDoorOpP
set_option linter.unusedSimpArgs false
set_option linter.unusedSectionVars false
set_option linter.unusedVariables false
namespace Go.Abs
section
variable {P:Program} {F:Fr} {I:Rg} {β:Bt} {σ:Sg} {w:World} {ty:Nat→Option TyI}
theorem Z478 {b p ver:Nat} {t:Tc} {pos:List Nat} {inn:List (List t.den)} {x:Box} (hσ:σ b=some (.pool ver t pos inn)) (hx:ex σ (key b p)=some x):∃ xs,inn[p]?=some xs∧inn.getD p []=xs∧x=.row 0 t xs:=by
 rw [ex_key,hσ] at hx
 simp only [innB,Option.map_eq_some_iff] at hx
 obtain ⟨xs,h1,h2⟩:=hx
 exact ⟨xs,h1,by rw [List.getD_eq_getElem?_getD,h1]; rfl,h2.symm⟩
theorem Z47 (hty:TysOk P ty) (h:Inv F I β (ex σ) w) {get:Nat→Option Box} {T ty':TypeId} {l:Lf} {e:Eff} {u:Value} (hs:Z649 ty get T l=some e)
  (hg:∀ b∈e.rd,σ b=get b) (hK:∀ b∈e.rd,b < 1000000) (hl:RL I F.J β (ex σ) w l u):e.upd=[]∧∃ u',(Builtin.len_ #[T] ty' #[u]).run P w=.ok u' w∧RV I F.J β (ex σ) w e.v u':=by
 unfold Z649 at hs
 have hrun:∀ {a:Tc},elemT ty T=some a→∀ A n c,(Builtin.len_ #[T] ty' #[.slice A n c]).run P w=.ok (.int .i64 (n:Int)) w:=fun ha A n c=>by
  obtain ⟨_,_,_,_,_,_,_,hund⟩:=Z193 hty ha
  simp [Builtin.len_,run_underlying hund,goInt]
 split at hs
 ·rename_i a b ver hT
  split at hs
  ·rename_i ver' t pos inn hb
   cases hv:Nat.beq ver ver' with
   | false=>simp [hv] at hs
   | true =>
    simp only [hv,cond_true] at hs
    have:=Z445 hs
    subst this
    obtain ⟨x,hx,hsl⟩:=hl
    rw [ex_low (hK b (by simp)),hg b (by simp),hb] at hx
    injection hx with hx; subst hx
    obtain ⟨A,c,rfl,_⟩:=hsl.2 (Nat.eq_of_beq_eq_true hv) rfl
    exact ⟨rfl,_,hrun hT _ _ _,rfl⟩
  ·cases hs
 ·rename_i a b p hT
  split at hs
  ·rename_i ver' t pos inn hb
   have:=Z445 hs
   subst this
   obtain ⟨_,x,hx,hsl⟩:=hl
   obtain ⟨xs,h1,h2,rfl⟩:=Z478 (by rw [hg b (by simp),hb]) hx
   obtain ⟨A,c,rfl,_⟩:=hsl.2 rfl
   exact ⟨rfl,_,hrun hT _ _ _,by rw [h2]; rfl⟩
  ·cases hs
 ·cases hs
theorem Z12 (hty:TysOk P ty) (h:Inv F I β (ex σ) w) {get:Nat→Option Box} {T:TypeId} {l:Lf} {k:IntKind} {i:Int} {e:Eff} {u:Value} (hs:Z317 ty get T l i=some e) (hgd:e.g=true)
  (hg:∀ b∈e.rd,σ b=get b) (hK:∀ b∈e.rd,b < 1000000) (hl:RL I F.J β (ex σ) w l u):e.upd=[]∧∃ u',(Instr.indexAt T u (.int k i)).run P w=.ok u' w∧RV I F.J β (ex σ) w e.v u':=by
 unfold Z317 at hs
 split at hs
 ·rename_i a b ver hT
  split at hs
  ·rename_i ver' t pos inn hb
   cases hv:Nat.beq ver ver' with
   | false=>simp [hv] at hs
   | true =>
    simp only [hv,cond_true] at hs
    split at hs
    ·rename_i ha
     simp only [Option.some.injEq] at hs
     subst hs
     subst ha
     obtain ⟨TI,el,E,_,_,hE,htc,hund⟩:=Z193 hty hT
     have hEl:=hty el E hE
     have hsz:E.sz=1:=by rw [← hEl.size,htc]; rfl
     obtain ⟨h0,h1⟩:=Z568 hgd
     have hx':=hl
     obtain ⟨x,hx,hsl⟩:=hl
     rw [ex_low (hK b (by simp)),hg b (by simp),hb] at hx
     injection hx with hx; subst hx
     have hv:=Nat.eq_of_beq_eq_true hv
     subst hv
     obtain ⟨A,c,rfl,hk⟩:=hsl.2 rfl rfl
     rcases hk with ⟨rfl,_⟩ | ⟨blk,o,hbb,rfl,_,_⟩
     ·simp at h1; omega
     ·refine ⟨rfl,_,Z152 hund hEl h0 h1,.inl ⟨rfl,rfl⟩,.pool ver t pos inn,by rw [ex_low (hK b (by simp)),hg b (by simp),hb],Nat.le_refl _,fun _=>⟨by omega,blk,o,hbb,?_⟩⟩
      rw [hsz]; simp
    ·cases hs
  ·cases hs
 ·rename_i a b p hT
  split at hs
  ·rename_i ver' t pos inn hb
   split at hs
   ·rename_i ha
    simp only [Option.some.injEq] at hs
    subst hs
    subst ha
    obtain ⟨TI,el,E,hTT,hDs,hE,htc,hund⟩:=Z193 hty hT
    obtain ⟨_,x,hx,hsl⟩:=hl
    have hb':σ b=some (.pool ver' a pos inn):=by rw [hg b (by simp),hb]
    obtain ⟨xs,h1,h2,rfl⟩:=Z478 hb' hx
    have hst:Z62 ty (ex get) T (.slice (key b p) 0 none) i=some { g:=decide (0≤i)&&decide (i < (xs.length:Int)),v:=.one (.ref (key b p) 0 i.toNat 0 0 0),upd:=[],rd:=[key b p] }:=by
     have:ex get (key b p)=some (.row 0 a xs):=by rw [← ex_get (hg b (by simp))]; exact hx
     simp [Z62,hTT,hDs,hE,htc,this]
    obtain ⟨_,u',g1,g2⟩:=Z71 (k:=k) hty h hst (by rw [h2] at hgd; exact hgd) (fun c hc=>by simp at hc; subst hc; exact ex_get (hg b (by simp))) ⟨_,hx,hsl⟩
    refine ⟨rfl,u',g1,?_⟩
    obtain ⟨g3,x',g4,g5⟩:=g2
    rw [hx] at g4; injection g4 with g4; subst g4
    refine ⟨?_,g3,_,hx,g5⟩
    obtain ⟨_,blk,o,_,rfl⟩:=g5.2 rfl
    rfl
   ·cases hs
  ·cases hs
 ·cases hs
theorem Z29 (hty:TysOk P ty) (h:Inv F I β (ex σ) w) {get:Nat→Option Box} {T:TypeId} {l:Lf} {e:Eff} {u:Value} (hs:Z485 ty get T l=some e)
  (hg:∀ b∈e.rd,σ b=get b) (hK:∀ b∈e.rd,b < 1000000) (hl:RL I F.J β (ex σ) w l u):e.upd=[]∧∃ u',(Instr.loadAt T u).run P w=.ok u' w∧RV I F.J β (ex σ) w e.v u':=by
 unfold Z485 at hs
 split at hs
 ·rename_i j b ver i hT
  split at hs
  ·rename_i ver' t pos inn hb
   cases hv:Nat.beq ver ver'&&!j.ag&&Nat.beq j.sz 1 with
   | false=>simp [hv] at hs
   | true =>
    simp only [hv,cond_true] at hs
    simp only [Bool.and_eq_true,Bool.not_eq_true'] at hv
    obtain ⟨⟨hv,hag⟩,hsz⟩:=hv
    have hv:=Nat.eq_of_beq_eq_true hv
    subst hv
    have hsz:=Nat.eq_of_beq_eq_true hsz
    have:=Z445 hs
    subst this
    obtain ⟨_,x,hx,hr⟩:=hl
    have hxb:ex σ b=some (.pool ver t pos inn):=by rw [ex_low (hK b (by simp)),hg b (by simp),hb]
    rw [hxb] at hx
    injection hx with hx; subst hx
    obtain ⟨hi,blk,o,hbb,rfl⟩:=hr.2 rfl
    rcases h.good.box b _ hxb with ⟨h1,h2⟩ | ⟨blk',o',C,E,h1,h2,h3⟩
    ·rw [h2] at hbb; cases hbb
    ·rw [hbb] at h1; injection h1 with h1; injection h1 with e1 e2; subst e1; subst e2
     have hp:pos[i]?=some (pos.getD i 0):=Z204 hi
     obtain ⟨v,h4,h5⟩:=h3 i _ hp
     have hin:=Z355 (by rw [hg b (by simp),hb]:σ b=some (.pool ver t pos inn)) h5
     refine ⟨rfl,?_⟩
     refine Z248 (sub:=[v]) (ls:=[.inn b (pos.getD i 0)]) (hty T j hT) (by simp [hsz]) (fun n u hn=>?_) ⟨v,[],rfl,hin,rfl⟩ (by simp [mkvO,hag])
     match n,hn with
     | 0,hn =>
      simp only [List.getElem?_cons_zero,Option.some.injEq] at hn
      subst hn
      rw [Z584 h2]
      simpa using h4
     | n+1,hn=>simp at hn
  ·cases hs
 ·rename_i j b p i base len d hT
  split at hs
  ·rename_i ver' t pos inn hb
   split at hs
   ·rename_i ls hld
    obtain ⟨q,hq,rfl⟩:=Z299 hs
    obtain ⟨_,ho,x,hx,hr⟩:=hl
    have hb':σ b=some (.pool ver' t pos inn):=by rw [hg b (by simp),hb]
    obtain ⟨xs,h1,h2,rfl⟩:=Z478 hb' hx
    rw [h2] at hld
    have hst:Z535 ty (ex get) T (.ref (key b p) 0 i base len d)=some { g:=true,v:=q,upd:=[],rd:=[key b p] }:=by
     have:ex get (key b p)=some (.row 0 t xs):=by rw [← ex_get (hg b (by simp))]; exact hx
     simp only [Z535,hT,this,hld,Nat.beq_refl,cond_true,effO,hq]
    obtain ⟨_,u',g1,g2⟩:=Z605 hty h hst (fun c hc=>by simp at hc; subst hc; exact ex_get (hg b (by simp))) ⟨ho,_,hx,hr⟩
    exact ⟨rfl,u',g1,g2⟩
   ·cases hs
  ·cases hs
 ·cases hs
theorem Z249 {T:TypeId} {j:TyI} (hT:TyOk P T j) (hsz:j.sz=1) {blk off:Nat} {C:Array Value} {E:TypeId} (hb:w.heap[blk]?=some (Obj.cells C E (0,0))) {v:Value} (hf:Value.flat v=true) (hlt:off < C.size) :
  (Instr.storeAt T (.pointer (some ⟨blk,off,none⟩)) v).run P w=.ok () (w.setRow blk (C.toList.set off v).toArray):=by
 have hone:v.oneCell'=true:=by rw [← Z458]; exact hf
 have hc:=Z282 hone
 have:=Z154 (w:=w) hT (off:=off) hb (ux:=v) (by rw [hc,hsz]; rfl) (fun u hu=>by rw [hc] at hu; simp at hu; subst hu; exact hone) (by omega)
 rw [this,hc,hsz,List.append_assoc,List.set_eq_take_append_cons_drop,if_pos (by simpa using hlt)]
 rfl
theorem Z527 {C:Array Value} {n:Nat} {v:Value}:(C.toList.set n v).toArray.size=C.size:=by simp
theorem getElem?_set1 {C:Array Value} {n m:Nat} {v:Value}:((C.toList.set n v).toArray)[m]?=if n=m then (if n < C.size then some v else none) else C[m]?:=by
 simp [List.getElem?_set]
theorem Z357 {C:Array Value} {o n i:Nat} {pos:List Nat} (hn:n=pos.length) (h:∀ (i p:Nat),pos[i]?=some p→∃ v:Value,C[o+i]?=some v∧True) (hi:i < n):o+i < C.size:=by
 subst hn
 obtain ⟨v,h1,_⟩:=h i pos[i] (by simp [hi])
 exact (Array.getElem?_eq_some_iff.1 h1).1
theorem Z15 (hty:TysOk P ty) (h:Inv F I β (ex σ) w) {get:Nat→Option Box} {T:TypeId} {l:Lf} {pv:PV} {e:Eff} {ua ux:Value} (hs:Z381 ty get T l pv=some e)
  (hg:∀ b∈e.rd,σ b=get b) (hK:∀ b∈e.rd,b < 1000000) (hl:RL I F.J β (ex σ) w l ua) (hx:RV I F.J β (ex σ) w pv ux) :
  e.v=.one .dead∧∃ w' I' β',(Instr.storeAt T ua ux).run P w=.ok () w'∧Inv F I' β' (ex (updF e.upd σ)) w'∧Ext F.J I β (ex σ) w I' β' (ex (updF e.upd σ)) w':=by
 unfold Z381 at hs
 split at hs
 ·rename_i j b ver i hT
  split at hs
  ·rename_i ver' t pos inn hb
   cases hv:Nat.beq ver ver'&&!j.ag&&Nat.beq j.sz 1 with
   | false=>simp [hv] at hs
   | true =>
    simp only [hv,cond_true] at hs
    simp only [Bool.and_eq_true,Bool.not_eq_true'] at hv
    obtain ⟨⟨hv,hag⟩,hsz⟩:=hv
    have hv:=Nat.eq_of_beq_eq_true hv
    subst hv
    have hsz:=Nat.eq_of_beq_eq_true hsz
    obtain ⟨_,x,hxb,hr⟩:=hl
    have known:σ b=some (.pool ver t pos inn)→b < 1000000→∃ blk o C E,i < pos.length∧β b=some (blk,o)∧ua=.pointer (some ⟨blk,o+i,none⟩)∧w.heap[blk]?=some (.cells C E (0,0))∧o+i < C.size ∧
      ∀ (i p:Nat),pos[i]?=some p→∃ v,C[o+i]?=some v∧RL I F.J β (ex σ) w (.slice (key b p) 0 none) v:=by
     intro hσ hbK
     have hxx:ex σ b=some (.pool ver t pos inn):=by rw [ex_low hbK,hσ]
     rw [hxx] at hxb
     injection hxb with hxb; subst hxb
     obtain ⟨hi,blk,o,hbb,rfl⟩:=hr.2 rfl
     rcases h.good.box b _ hxx with ⟨h1,h2⟩ | ⟨blk',o',C,E,h1,h2,h3⟩
     ·rw [h2] at hbb; cases hbb
     ·rw [hbb] at h1; injection h1 with h1; injection h1 with e1 e2; subst e1; subst e2
      refine ⟨blk,o,C,E,hi,hbb,by simp,h2,?_,h3⟩
      exact Z357 rfl (fun i p hp=>(h3 i p hp).imp fun v hv=>⟨hv.1,trivial⟩) hi
    split at hs
    ·rename_i b' p
     cases hbb':Nat.beq b b' with
     | false=>simp [hbb'] at hs
     | true =>
      have hbb':=Nat.eq_of_beq_eq_true hbb'
      subst hbb'
      simp only [Nat.beq_refl,cond_true,Option.some.injEq] at hs
      subst hs
      refine ⟨rfl,?_⟩
      have hσ:σ b=some (.pool ver t pos inn):=by rw [hg b (by simp),hb]
      have hbK:=hK b (by simp)
      obtain ⟨blk,o,C,E,hi,hbb,rfl,hw,hlt,hc⟩:=known hσ hbK
      obtain ⟨hfl,hsl⟩:=hx
      have hrun:=Z249 (hty T j hT) hsz hw hfl hlt
      have hps:=Z511 (inn:=inn) (inn':=inn) (pos':=pos.set i p) h (by rw [ex_low hbK,hσ]) hbb hw (C':=(C.toList.set (o+i) ux).toArray) (ver':=ver) Z527 (.inl ⟨rfl,rfl,by simp⟩) (fun n q hq=>by
       rw [List.getElem?_set] at hq
       rw [getElem?_set1]
       split at hq
       ·rename_i hn
        subst hn
        injection hq with hq
        subst hq
        exact ⟨ux,by simp [hlt],hsl⟩
       ·rename_i hn
        rw [if_neg (by omega)]
        exact hc n q hq)
      refine ⟨_,I,β,hrun,?_⟩
      show Inv F I β (ex (setF σ b (.pool ver t (pos.set i p) inn))) _∧Ext F.J I β (ex σ) w I β (ex (setF σ b (.pool ver t (pos.set i p) inn))) _
      rw [Z613 hbK (fun r=>by rw [hσ]; rfl)]
      exact hps
    ·rename_i l' _
     split at hs
     ·rename_i xs c how
      simp only [Option.some.injEq] at hs
      subst hs
      refine ⟨rfl,?_⟩
      obtain ⟨vc,rfl,hgc⟩:=Z232 how
      have hσ:σ b=some (.pool ver t pos inn):=by rw [hg b (by simp),hb]
      have hbK:=hK b (by simp)
      have hσc:σ c=some (.row vc t xs):=by rw [hg c (by simp),hgc]
      have hcK:=hK c (by simp)
      have hbc:b≠c:=by rintro rfl; rw [hσ] at hσc; cases hσc
      obtain ⟨blk,o,C,E,hi,hbb,rfl,hw,hlt,hc⟩:=known hσ hbK
      have hck:c≠key b inn.length:=by have:=key_ge b inn.length; omega
      have hbk:b≠key b inn.length:=by have:=key_ge b inn.length; omega
      have hk0:ex σ (key b inn.length)=none:=by rw [ex_key,hσ]; simp [innB]
      have hc0:ex σ c=some (.row vc t xs):=by rw [ex_low hcK,hσc]
      obtain ⟨m1,m2⟩:=h.move hc0 hk0
      have hv1:=Z223 (F:=F) (I:=I) (w:=w) hc0 hck.symm hx
      have hfl:Value.flat ux=true:=Z238 ⟨t,xs,by rw [Z712 _ _ hck.symm]; simp⟩ hv1
      have hrun:=Z249 (hty T j hT) hsz hw hfl hlt
      have hb1:setF (setF (ex σ) (key b inn.length) (.row 0 t xs)) c .gone b=some (.pool ver t pos inn):=by
       rw [Z712 _ _ hbc,Z712 _ _ hbk,ex_low hbK,hσ]
      have hps:=Z511 (inn:=inn) (inn':=inn++[xs]) (pos':=pos.set i inn.length) m1 hb1 (by rw [Z711 _ _ hbk]; exact hbb) hw (C':=(C.toList.set (o+i) ux).toArray) (ver':=ver) Z527 (.inl ⟨rfl,rfl,by simp⟩) (fun n q hq=>by
       rw [List.getElem?_set] at hq
       rw [getElem?_set1]
       split at hq
       ·rename_i hn
        subst hn
        injection hq with hq
        subst hq
        exact ⟨ux,by simp [hlt],hv1⟩
       ·rename_i hn
        rw [if_neg (by omega)]
        obtain ⟨v,h1,h2⟩:=hc n q hq
        exact ⟨v,h1,m2.rl h2⟩)
      have hpad:∀ n,ex (updF [(b,.pool ver t (pos.set i inn.length) (inn++[xs])),(c,.gone)] σ) n=setF (setF (setF (ex σ) (key b inn.length) (.row 0 t xs)) c .gone) b (.pool ver t (pos.set i inn.length) (inn++[xs])) n ∨
        (ex (updF [(b,.pool ver t (pos.set i inn.length) (inn++[xs])),(c,.gone)] σ) n=some .gone∧setF (setF (setF (ex σ) (key b inn.length) (.row 0 t xs)) c .gone) b (.pool ver t (pos.set i inn.length) (inn++[xs])) n=none):=by
       intro n
       show ex (setF (setF σ c .gone) b _) n=_∨ex (setF (setF σ c .gone) b _) n=_∧_
       rw [Z614 (p:=inn.length) (z:=.row 0 t xs) hbK ?_ (by simp [innB])]
       ·by_cases e1:n=b
        ·subst e1; left; simp
        ·rw [Z712 _ _ e1,Z712 _ _ e1]
         by_cases e2:n=c
         ·subst e2
          left
          rw [Z712 _ _ hck,Z367,ex_low hcK,Z367]
         ·rw [Z712 _ _ e2]
          by_cases e3:n=key b inn.length
          ·subst e3; left; simp
          ·rw [Z712 _ _ e3,Z712 _ _ e3,Z612 hcK]
           split
           ·rename_i hh
            rcases hh with hh | ⟨r,rfl⟩
            ·exact absurd hh e2
            ·right
             exact ⟨rfl,by rw [ex_key,hσc]; rfl⟩
           ·left; rfl
       ·intro r hr
        rw [Z712 _ _ hbc,hσ]
        simp only [innB]
        rw [List.getElem?_append]
        split
        ·rfl
        ·rename_i hle
         rw [List.getElem?_eq_none (by simp; omega),List.getElem?_eq_none (by omega)]
      obtain ⟨p1,p2⟩:=hps.1.pad hpad
      exact ⟨_,I,_,hrun,p1,m2.trans (hps.2.trans p2)⟩
     ·cases hs
    ·cases hs
  ·cases hs
 ·rename_i j b p i base len d hT
  split at hs
  ·rename_i ver' t pos inn vl rv hb hst
   cases hz:Nat.beq j.sz 0 with
   | true=>simp [hz] at hs
   | false =>
    simp only [hz,cond_false] at hs
    split at hs
    ·rename_i cells' hsl
     split at hs
     ·rename_i x' hun
      simp only [Option.some.injEq] at hs
      subst hs
      refine ⟨rfl,?_⟩
      obtain ⟨_,ho,x,hxb,hr⟩:=hl
      have hσ:σ b=some (.pool ver' t pos inn):=by rw [hg b (by simp),hb]
      have hbK:=hK b (by simp)
      obtain ⟨xs,h1,h2,rfl⟩:=Z478 hσ hxb
      rw [h2] at hsl
      obtain ⟨hcl,hone⟩:=Z100 hst (fun c hc=>by rw [ex_low (hK c (by simp [hc]))]; exact hg c (by simp [hc])) hx
      have hz0:j.sz≠0:=fun e=>by rw [e] at hz; cases hz
      obtain ⟨w',g1,g2,g3⟩:=Z382 (hty T j hT) h hxb hr ho hz0 hcl hone hsl hun
      have hbk:b≠key b p:=by have:=key_ge b p; omega
      obtain ⟨m1,m2⟩:=Z509 (inn':=inn.set p ((inn.getD p []).set i x')) g2 (by rw [Z712 _ _ hbk,ex_low hbK]; exact hσ)
      have hlt:p < inn.length:=(List.getElem?_eq_some_iff.1 h1).1
      refine ⟨w',I,β,g1,?_⟩
      show Inv F I β (ex (setF σ b (.pool ver' t pos (inn.set p ((inn.getD p []).set i x'))))) _∧Ext F.J I β (ex σ) w I β (ex (setF σ b (.pool ver' t pos (inn.set p ((inn.getD p []).set i x'))))) _
      rw [Z614 (p:=p) (z:=.row 0 t (xs.set i x')) hbK (fun r hr=>?_) (by have e:inn[p]=xs:=(List.getElem?_eq_some_iff.1 h1).2; simp [innB,hlt,h2,e])]
      ·exact ⟨m1,g3.trans m2⟩
      ·rw [hσ]
       simp only [innB]
       rw [List.getElem?_set_ne (fun e=>hr e.symm)]
     ·cases hs
    ·cases hs
  ·cases hs
 ·cases hs
theorem Inv.grow {w':World} (h:Inv F I β σ w) (hs:WStep (fun _=>False) w w'):Inv F (fun blk i=>I blk i∨(w.heap.size≤blk∧blk < w'.heap.size)) β σ w' ∧
  Ext F.J I β σ w (fun blk i=>I blk i∨(w.heap.size≤blk∧blk < w'.heap.size)) β σ w':=by
 obtain ⟨h1,h2⟩:=h.step hs
 have hE:Ext F.J I β σ w' (fun blk i=>I blk i∨(w.heap.size≤blk∧blk < w'.heap.size)) β σ w':=⟨fun _ _ h=>.inl h,fun _ _ _ _ h=>h,fun b x hx=>⟨x,hx,.refl β b x⟩,.refl w'⟩
 have hG:Good (fun blk i=>I blk i∨(w.heap.size≤blk∧blk < w'.heap.size)) F.J β σ w':=by
  refine ⟨?_,h1.good.inj,?_,?_⟩
  ·intro c x hx
   have hb0:=h1.good.box c x hx
   cases x with
   | var T cells =>
    obtain ⟨blk,vs,h1,h2,h3⟩:=hb0
    exact ⟨blk,vs,h1,h2,hE.rls h3⟩
   | row ver t xs =>
    rcases hb0 with h1 | ⟨blk,o,C,E,h1,h2,h3⟩
    ·exact .inl h1
    ·refine .inr ⟨blk,o,C,E,h1,h2,?_⟩
     intro i y hy
     obtain ⟨vs,h4,h5⟩:=h3 i y hy
     exact ⟨vs,hE.rd h4,h5⟩
   | pool ver t pos inn =>
    rcases hb0 with h1 | ⟨blk,o,C,E,h1,h2,h3⟩
    ·exact .inl h1
    ·refine .inr ⟨blk,o,C,E,h1,h2,?_⟩
     intro i p hp
     obtain ⟨v,h4,h5⟩:=h3 i p hp
     exact ⟨v,h4,hE.rl h5⟩
   | gone=>trivial
  ·intro b blk o i hl hb
   refine ⟨?_,(h1.good.sep b blk o i hl hb).2⟩
   rintro (hi | ⟨g1,_⟩)
   ·exact (h1.good.sep b blk o i hl hb).1 hi
   ·have:=h.good.lt hl hb; omega
  ·rintro blk i ((hi | ⟨_,g2⟩) | hj)
   ·exact h1.good.bnd blk i (.inl hi)
   ·exact g2
   ·exact h1.good.bnd blk i (.inr hj)
 refine ⟨⟨hG,h1.ext.trans hE,h1.size,h1.keep,?_,h1.bNew,h1.same⟩,h2.trans hE⟩
 rintro blk i (hi | ⟨g1,_⟩)
 ·exact h1.iNew blk i hi
 ·exact .inr (.inl (Nat.le_trans h.size g1))
def Z562 (F:Fr) (I:Rg) (β:Bt) (σ:Sg) (w:World) (b:Nat) (p:Nat) (vs:List Value):Prop:=∃ v,vs=[v]∧RL I F.J β σ w (.slice (key b p) 0 none) v
theorem Z240 (h:Inv F I β σ w) {b ver:Nat} {t:Tc} {pos:List Nat} {inn:List (List t.den)} {A:Option Addr} {c:Nat} (hb:σ b=some (.pool ver t pos inn)) (hs:Z564 β w b ver none (.slice A pos.length c) (.pool ver t pos inn)) :
  ∃ olds,Z560 1 (Z562 F I β σ w b) pos olds∧∀ w',(∀ a v,w.cell? a=some v→w'.cell? a=some v)→(Builtin.firstCells 1 pos.length (.slice A pos.length c)).run P w'=.ok olds.toArray w':=by
 apply Z705
 obtain ⟨A',c',e,hk⟩:=hs.2 rfl rfl
 injection e with e1 e2 e3
 subst e1; subst e3
 rcases hk with ⟨hk,_⟩ | ⟨blk,o,hbb,rfl,_,_⟩
 ·exact .inl hk
 ·refine .inr ⟨_,rfl,rfl,?_⟩
  rcases h.good.box b _ hb with ⟨h1,h2⟩ | ⟨blk',o',C,E,h1,h2,h3⟩
  ·rw [h2] at hbb; cases hbb
  ·rw [hbb] at h1; injection h1 with h1; injection h1 with e1 e2; subst e1; subst e2
   intro i p hp
   obtain ⟨v,h4,h5⟩:=h3 i p hp
   refine ⟨[v],⟨v,rfl,h5⟩,rfl,fun j u hj=>⟨trivial,?_⟩⟩
   match j,hj with
   | 0,hj =>
    simp only [List.getElem?_cons_zero,Option.some.injEq] at hj
    subst hj
    rw [Z584 h2]
    simpa using h4
   | j+1,hj=>simp at hj
theorem cells1 {α:Type} {rd:α→List Value→Prop} {xs:List α} {cs:List Value} (h:Z560 1 rd xs cs) {i:Nat} {x:α} (hx:xs[i]?=some x):∃ v,cs[i]?=some v∧rd x [v]:=by
 obtain ⟨vs,h1,h2,h3⟩:=h.2 i x hx
 match vs,h2 with
 | [v],_=>exact ⟨v,by simpa using h3 0 v rfl,h1⟩
theorem Z196 {σ':Sg} (h:Inv F I β σ w) {k ver:Nat} {t:Tc} {xs:List t.den} (hk:σ k=some (.row ver t xs)) (hg:σ' k=some .gone) {v:Value} (hv:RL I F.J β σ w (.slice k ver none) v) :
  RD (both (fadeI I β σ σ') F.J true) w (.list t) xs [v]:=by
 obtain ⟨x,hx,hs⟩:=hv
 rw [hk] at hx; injection hx with hx; subst hx
 obtain ⟨A,c,rfl,hc⟩:=hs.2 rfl
 rcases hc with ⟨hc,h0⟩ | ⟨blk,o,hb,rfl,hl,_⟩
 ·exact ⟨A,c,rfl,by rw [hc]; simp,.inl hc⟩
 ·refine ⟨_,c,rfl,hl,.inr ⟨_,rfl,rfl,?_⟩⟩
  have hlv:liveB (σ k):=by rw [hk]; trivial
  exact (h.good.rowAt hk hb (K:=both (fadeI I β σ σ') F.J true) (fun i _ _=>.inl (.inr ⟨k,o,hlv,hg,hb⟩))).mono (fun _ _ h=>h) (fun _ _ _ _ h=>h) (fun x vs hv=>hv.mono (fun _ _ h=>.inl (.inl h)) (fun _ _ _ _ h=>h))
theorem Z303 {bor:Bool} {I1:Rg} {w1:World} (h:Inv F I1 β (ex σ) w1) {b ver blk o:Nat} {t:Tc} {pos:List Nat} {inn zss:List (List t.den)} {cap:Nat} (hbK:b < 1000000) (hb:σ b=some (.pool ver t pos inn))
  {olds cs:List Value} (ho:Z560 1 (Z562 F I1 β (ex σ) w1 b) pos olds) (hc:Z560 1 (RD (both I1 F.J bor) w1 (.list t)) zss cs)
  (hmem:∀ (n:Nat) (v:Value),(olds++cs)[n]?=some v→w1.cell? ⟨blk,o+n,none⟩=some v) (hI:(∀ i,I1 blk i)∨β b=some (blk,o)) (hcap:pos.length+zss.length≤cap) :
  RL (fadeI I1 β (ex σ) (ex (setF σ b .gone))) F.J β (ex (setF σ b .gone)) w1 (.list true (.list t) (rowsAt pos inn++zss)) (.slice (some ⟨blk,o,none⟩) (pos.length+zss.length) cap):=by
 refine ⟨some ⟨blk,o,none⟩,cap,by simp [rowsAt],by simpa [rowsAt] using hcap,.inr ⟨⟨blk,o,none⟩,rfl,rfl,?_⟩⟩
 have hgk:∀ r,ex (setF σ b .gone) (key b r)=some .gone:=fun r=>by rw [Z612 hbK,if_pos (.inr ⟨r,rfl⟩)]
 have hgb:ex (setF σ b .gone) b=some .gone:=by rw [Z612 hbK,if_pos (.inl rfl)]
 have hall:∀ i,both (fadeI I1 β (ex σ) (ex (setF σ b .gone))) F.J true blk i:=by
  intro i
  rcases hI with hI | hI
  ·exact .inl (.inl (hI i))
  ·exact .inl (.inr ⟨b,o,by rw [ex_low hbK,hb]; trivial,hgb,hI⟩)
 have hol:olds.length=pos.length:=by have:=ho.1; omega
 intro i xs hx
 rw [List.getElem?_append] at hx
 split at hx
 ·rename_i hi
  simp only [rowsAt,List.length_map,List.getElem?_map,Option.map_eq_some_iff] at hi hx
  obtain ⟨p,hp,hxs⟩:=hx
  obtain ⟨v,h1,u,h2,h3⟩:=cells1 ho hp
  injection h2 with h2 _
  subst h2
  obtain ⟨xk,hxk,_⟩:=h3
  obtain ⟨ys,h4,h5,rfl⟩:=Z478 hb hxk
  rw [h5] at hxs
  subst hxs
  refine ⟨[v],Z196 h hxk (hgk p) (cells1 ho hp |>.elim fun v' hv'=>?_),rfl,fun j u hj=>⟨hall _,?_⟩⟩
  ·obtain ⟨e1,u',e2,e3⟩:=hv'
   rw [h1] at e1; injection e1 with e1; subst e1
   injection e2 with e2 _
   subst e2
   exact e3
  ·match j,hj with
   | 0,hj =>
    simp only [List.getElem?_cons_zero,Option.some.injEq] at hj
    subst hj
    have:=hmem i v (by rw [List.getElem?_append_left (by omega)]; exact h1)
    simpa [Tc.sz] using this
   | j+1,hj=>simp at hj
 ·rename_i hi
  simp only [rowsAt,List.length_map] at hi hx
  obtain ⟨v,h1,h2⟩:=cells1 hc hx
  refine ⟨[v],h2.mono (fun blk i hk=>?_) (fun _ _ _ _ h=>h),rfl,fun j u hj=>⟨hall _,?_⟩⟩
  ·rcases hk with hk | ⟨_,hk⟩
   ·exact .inl (.inl hk)
   ·exact .inr ⟨rfl,hk⟩
  ·match j,hj with
   | 0,hj =>
    simp only [List.getElem?_cons_zero,Option.some.injEq] at hj
    subst hj
    have:=hmem i v (by rw [List.getElem?_append_right (by omega),hol]; exact h1)
    simpa [Tc.sz] using this
   | j+1,hj=>simp at hj
theorem castLL {t t':Tc} {inn:List (List t.den)} {inn':List (List t'.den)} (h:castL (.list t) (.list t') inn=some inn'):∃ e:t=t',inn'=e ▸ inn:=by
 obtain ⟨e,h⟩:=Z184 h
 injection e with e
 subst e
 exact ⟨rfl,h⟩
theorem Z241 (h:Inv F I β (ex σ) w) {b ver:Nat} {t:Tc} {pos:List Nat} {inn:List (List t.den)} {u:Value} (hbK:b < 1000000) (hb:σ b=some (.pool ver t pos inn)) (hl:RL I F.J β (ex σ) w (.slice b ver none) u) :
  ∃ A c,u=.slice A pos.length c∧Z564 β w b ver none (.slice A pos.length c) (.pool ver t pos inn)∧((pos=[]∧c=0)∨∃ blk o C E,β b=some (blk,o)∧A=some ⟨blk,o,none⟩∧pos.length≤c∧w.heap[blk]?=some (.cells C E (0,0))∧o+c≤C.size ∧
   ∀ (i p:Nat),pos[i]?=some p→∃ v,C[o+i]?=some v∧RL I F.J β (ex σ) w (.slice (key b p) 0 none) v):=by
 obtain ⟨x,hx,hs⟩:=hl
 have hxx:ex σ b=some (.pool ver t pos inn):=by rw [ex_low hbK,hb]
 rw [hxx] at hx; injection hx with hx; subst hx
 obtain ⟨A,c,rfl,hk⟩:=hs.2 rfl rfl
 refine ⟨A,c,rfl,hs,?_⟩
 rcases hk with hk | ⟨blk,o,hbb,hA,hle,hcap⟩
 ·exact .inl hk
 ·refine .inr ?_
  obtain ⟨C,E,fr,hw,hsz⟩:=hcap
  rcases h.good.box b _ hxx with ⟨h1,h2⟩ | ⟨blk',o',C',E',h1,h2,h3⟩
  ·rw [h2] at hbb; cases hbb
  ·rw [hbb] at h1; injection h1 with h1; injection h1 with e1 e2; subst e1; subst e2
   rw [h2] at hw; injection hw with hw; injection hw with e1 e2 e3; subst e1; subst e2; subst e3
   exact ⟨blk,o,_,_,hbb,hA,hle,h2,hsz,h3⟩
theorem Z453 {b ver:Nat} {t:Tc} {pos:List Nat} {inn:List (List t.den)} (hbK:b < 1000000) (hb:σ b=some (.pool ver t pos inn)) (n:Nat):ex (setF σ b .gone) n=ex σ n∨(ex (setF σ b .gone) n=some .gone∧∀ x,ex σ n=some x→rowB x):=by
 rw [Z612 hbK]
 split
 ·rename_i hh
  right
  refine ⟨rfl,fun x hx=>?_⟩
  rcases hh with rfl | ⟨r,rfl⟩
  ·rw [ex_low hbK,hb] at hx; injection hx with hx; subst hx; trivial
  ·obtain ⟨_,_,_,rfl⟩:=Z478 hb hx
   trivial
 ·left; rfl
theorem Z142 {b o:Nat} {C:Array Value} {pos:List Nat} (hC:o+pos.length≤C.size) (hpl:∀ (i p:Nat),pos[i]?=some p→∃ v,C[o+i]?=some v∧RL I F.J β σ w (.slice (key b p) 0 none) v) :
  Z560 1 (Z562 F I β σ w b) pos ((C.toList.drop o).take pos.length)∧((C.toList.drop o).take pos.length).length=pos.length∧∀ n,n < pos.length→((C.toList.drop o).take pos.length)[n]?=C[o+n]?:=by
 have hl:((C.toList.drop o).take pos.length).length=pos.length:=by simp; omega
 have hat:∀ n,n < pos.length→((C.toList.drop o).take pos.length)[n]?=C[o+n]?:=by
  intro n hn
  rw [List.getElem?_take,if_pos hn,List.getElem?_drop]
  simp
 refine ⟨⟨by omega,fun i p hp=>?_⟩,hl,hat⟩
 obtain ⟨v,h1,h2⟩:=hpl i p hp
 have hi:i < pos.length:=(List.getElem?_eq_some_iff.1 hp).1
 refine ⟨[v],⟨v,rfl,h2⟩,rfl,fun j u hj=>?_⟩
 match j,hj with
 | 0,hj =>
  simp only [List.getElem?_cons_zero,Option.some.injEq] at hj
  subst hj
  rw [Nat.mul_one,Nat.add_zero,hat i hi]
  exact h1
 | j+1,hj=>simp at hj
theorem Z207 {w1:World} {olds cs:List Value} {rest:Array Value} {E:TypeId} {n:Nat} {v:Value} (h:(olds++cs)[n]?=some v):(w1.alloc (.cells ((olds++cs).toArray++rest) E)).cell? ⟨w1.heap.size,n,none⟩=some v:=by
 have hlt:n < (olds++cs).length:=(List.getElem?_eq_some_iff.1 h).1
 rw [Z584 (heap_alloc_new w1 _),Array.getElem?_append_left (by simpa using hlt)]
 simpa using h
theorem Z110 (h:Inv F I β (ex σ) w) {T el ty':TypeId} {E:TyI} (hund:P.underlying T=some (.slice el)) (hEl:TyOk P el E) (hsz:E.sz=1) {b ver:Nat} {bor:Bool} {t:Tc} {pos:List Nat} {inn zss:List (List t.den)} {ud us:Value}
  (hbK:b < 1000000) (hb:σ b=some (.pool ver t pos inn)) (hd:RL I F.J β (ex σ) w (.slice b ver none) ud) (hs:RL I F.J β (ex σ) w (.list bor (.list t) zss) us) (hroom:(pos.length+zss.length)*(E.by_+1)≤room) :
  ∃ u' w' I' β',(Builtin.append_ #[T,T] ty' #[ud,us]).run P w=.ok u' w'∧Inv F I' β' (ex (setF σ b .gone)) w'∧Ext F.J I β (ex σ) w I' β' (ex (setF σ b .gone)) w' ∧
   RL I' F.J β' (ex (setF σ b .gone)) w' (.list true (.list t) (rowsAt pos inn++zss)) u':=by
 obtain ⟨A',c',rfl,_,hz⟩:=hs
 have hz':zss=[]∨∃ a:Addr,A'=some a∧a.spot=none∧RowAt (fun _ _=>True) 1 (RD (both I F.J bor) w (.list t)) w zss a:=hz.imp (fun h=>h) fun ⟨a,h1,h2,h3⟩=>⟨a,h1,h2,h3.mono (fun _ _ _=>trivial) (fun _ _ _ _ h=>h) (fun _ _ h=>h)⟩
 obtain ⟨cs,hcs,hrunsrc⟩:=Z705 (P:=P) (c:=c') hz'
 have hone:∀ v∈cs,v.oneCell'=true:=rd_one (t:=.list t) hcs
 obtain ⟨A,c,rfl,hsl,hk⟩:=Z241 h hbK hb hd
 obtain ⟨olds,hol,hrunold⟩:=Z240 (P:=P) h (by rw [ex_low hbK,hb]) hsl
 have hoL:olds.length=pos.length:=by have:=hol.1; omega
 have hcL:cs.length=zss.length:=by have:=hcs.1; omega
 rw [← hsz] at hrunold hrunsrc
 by_cases hfit:pos.length+zss.length≤c
 ·rcases hk with ⟨rfl,hc0⟩ | ⟨blk,o,C,E',hbb,rfl,hle,hw,hC,hpl⟩
  ·subst hc0
   have hz0:zss=[]:=by
    rw [← List.length_eq_zero_iff]; simp at hfit; simp [hfit]
   subst hz0
   have hrun:=Z111 (w:=w) (ty':=ty') hund hEl (A:=A) (cs:=cs) (by simpa using hcL) (hrunsrc w (fun _ _ h=>h))
   obtain ⟨g1,g2⟩:=h.fade (Z453 hbK hb)
   exact ⟨_,_,_,_,hrun,g1,g2,A,0,rfl,Nat.le_refl _,.inl rfl⟩
  ·obtain ⟨hol',hoL',hat⟩:=Z142 (by omega) hpl
   have hrun:=Z8 (ty':=ty') hund hEl hw (by rw [hsz]; simpa using hcL) hone (hrunsrc w (fun _ _ h=>h)) hfit (by rw [hsz]; simpa using hC)
   rw [hsz] at hrun
   simp only [Nat.mul_one] at hrun
   have hlenC:C.toList.length=C.size:=rfl
   have hpatch:∀ n,((C.toList.take (o+pos.length)++cs++C.toList.drop (o+pos.length+cs.length)).toArray)[n]? =
     if n < o+pos.length then C[n]? else if n < o+pos.length+cs.length then cs[n - (o+pos.length)]? else C[n]?:=by
    intro n
    have:=getElem?_patch (l:=C.toList) (us:=cs) (k:=o+pos.length) (n:=n) (by rw [hlenC]; omega)
    simpa using this
   obtain ⟨p1,p2⟩:=Z511 (inn:=inn) (inn':=inn) (pos':=pos) (ver':=ver) h (by rw [ex_low hbK,hb]) hbb hw (C':=(C.toList.take (o+pos.length)++cs++C.toList.drop (o+pos.length+cs.length)).toArray) (by simp; omega) (.inl ⟨rfl,rfl,rfl⟩) (fun i p hp=>by
    have hi:i < pos.length:=(List.getElem?_eq_some_iff.1 hp).1
    rw [hpatch,if_pos (by omega)]
    exact hpl i p hp)
   rw [Z368 (by rw [ex_low hbK,hb])] at p1 p2
   obtain ⟨g1,g2⟩:=p1.fade (Z453 hbK hb)
   refine ⟨_,_,_,_,hrun,g1,p2.trans g2,Z303 (bor:=bor) p1 hbK hb (olds:=(C.toList.drop o).take pos.length) (cs:=cs) (hol'.mono fun p vs ⟨v,e,hv⟩=>⟨v,e,p2.rl hv⟩) (hcs.mono fun x vs hv=>hv.mono (p2.bothI bor) (p2.bothS bor)) (fun n v hn=>?_) (.inr hbb) hfit⟩
   rw [Z584 (setRow_heap w blk _ _ E' (0,0) hw),hpatch]
   rw [List.getElem?_append] at hn
   split at hn
   ·rename_i hi
    rw [if_pos (by omega),← hat n (by omega)]
    exact hn
   ·rename_i hi
    have hlt:n - ((C.toList.drop o).take pos.length).length < cs.length:=(List.getElem?_eq_some_iff.1 hn).1
    rw [if_neg (by omega),if_pos (by omega),show o+n - (o+pos.length)=n - ((C.toList.drop o).take pos.length).length by omega]
    exact hn
 ·obtain ⟨cap,rest,hrun,hcap,hrest⟩:=Z109 (w:=w) (ty':=ty') (sLen:=pos.length) (sCap:=c) (n:=zss.length) hund hEl (hrunold w.drew (fun _ _ h=>h)) (hrunsrc w.drew (fun _ _ h=>h)) (by omega) hroom
  obtain ⟨p1,p2⟩:=h.grow ((WStep.drew _ w _).trans (WStep.alloc _ w.drew (.cells ((olds++cs).toArray++rest) el)))
  obtain ⟨g1,g2⟩:=p1.fade (Z453 hbK hb)
  refine ⟨_,_,_,_,hrun,g1,p2.trans g2,Z303 (bor:=bor) p1 hbK hb (olds:=olds) (cs:=cs) (hol.mono fun p vs ⟨v,e,hv⟩=>⟨v,e,p2.rl hv⟩) (hcs.mono fun x vs hv=>hv.mono (p2.bothI bor) (p2.bothS bor)) (fun n v hn=>?_) (.inl fun i=>.inr ⟨Nat.le_refl _,?_⟩) hcap⟩
  ·rw [Nat.zero_add]
   exact Z207 (w1:=w.drew) hn
  ·show w.drew.heap.size < (w.drew.alloc _).heap.size
   simp
theorem Z388 {b c ver k:Nat} {t:Tc} {xs:List t.den} {x':Box} (hbK:b < 1000000) (hcK:c < 1000000) (hbc:b≠c) (hc:σ c=some (.pool ver t [0] [xs])) (hr:∀ r,r≠k→innB (some x') r=innB (σ b) r) (hk:innB (some x') k=some (.row 0 t xs)) (n:Nat) :
  ex (updF [(b,x'),(c,.gone)] σ) n=setF (setF (setF (ex σ) (key b k) (.row 0 t xs)) (key c 0) .gone) b x' n ∨
  (ex (updF [(b,x'),(c,.gone)] σ) n=some .gone∧∀ x,setF (setF (setF (ex σ) (key b k) (.row 0 t xs)) (key c 0) .gone) b x' n=some x→rowB x):=by
 show ex (setF (setF σ c .gone) b _) n=_∨ex (setF (setF σ c .gone) b _) n=_∧_
 have hcb:∀ r r',key c r≠key b r':=fun r r' e=>hbc (Z641 e).1.symm
 have hkb:∀ d r,key d r≠b:=fun d r=>by have:=key_ge d r; omega
 rw [Z614 (p:=k) (z:=.row 0 t xs) hbK ?_ hk]
 ·by_cases e1:n=b
  ·subst e1; left; simp
  ·rw [Z712 _ _ e1,Z712 _ _ e1]
   by_cases e3:n=key b k
   ·subst e3
    left
    rw [Z367,Z712 _ _ (hcb 0 k).symm,Z367]
   ·rw [Z712 _ _ e3,Z612 hcK]
    split
    ·rename_i hh
     right
     refine ⟨rfl,fun x hx=>?_⟩
     have hkc:c≠key c 0:=by have:=key_ge c 0; omega
     rcases hh with hh | ⟨r,rfl⟩
     ·rw [hh] at e3
      rw [hh,Z712 _ _ hkc,Z712 _ _ e3,ex_low hcK,hc] at hx
      injection hx with hx; subst hx; trivial
     ·by_cases hr0:r=0
      ·subst hr0
       rw [Z367] at hx; injection hx with hx; subst hx; trivial
      ·rw [Z712 _ _ (fun e=>hr0 (Z641 e).2),Z712 _ _ e3,ex_key,hc] at hx
       cases r with
       | zero=>exact absurd rfl hr0
       | succ r=>simp [innB] at hx
    ·rename_i hh
     left
     rw [Z712 _ _ (fun e=>hh (.inr ⟨0,e⟩)),Z712 _ _ e3]
 ·intro r hr'
  rw [Z712 _ _ hbc]
  exact hr r hr'
theorem Z112 (h:Inv F I β (ex σ) w) {T el ty':TypeId} {E:TyI} (hund:P.underlying T=some (.slice el)) (hEl:TyOk P el E) (hsz:E.sz=1) {b ver c vc:Nat} {t:Tc} {pos:List Nat} {inn:List (List t.den)} {ys:List t.den} {ud us:Value}
  (hbK:b < 1000000) (hcK:c < 1000000) (hbc:b≠c) (hb:σ b=some (.pool ver t pos inn)) (hc:σ c=some (.pool vc t [0] [ys])) (hd:RL I F.J β (ex σ) w (.slice b ver none) ud) (hs:RL I F.J β (ex σ) w (.slice c vc none) us)
  (hroom:(pos.length+1)*(E.by_+1)≤room) :
  ∃ u' w' I' β',(Builtin.append_ #[T,T] ty' #[ud,us]).run P w=.ok u' w'∧Inv F I' β' (ex (updF [(b,.pool (ver+1) t (pos++[inn.length]) (inn++[ys])),(c,.gone)] σ)) w'∧Ext F.J I β (ex σ) w I' β' (ex (updF [(b,.pool (ver+1) t (pos++[inn.length]) (inn++[ys])),(c,.gone)] σ)) w' ∧
   RL I' F.J β' (ex (updF [(b,.pool (ver+1) t (pos++[inn.length]) (inn++[ys])),(c,.gone)] σ)) w' (.slice b (ver+1) none) u':=by
 obtain ⟨A,cp,rfl,hsl,hk⟩:=Z241 h hbK hb hd
 obtain ⟨A',cp',rfl,hsl',hk'⟩:=Z241 h hcK hc hs
 obtain ⟨olds,hol,hrunold⟩:=Z240 (P:=P) h (by rw [ex_low hbK,hb]) hsl
 obtain ⟨news,hnw,hrunnew⟩:=Z240 (P:=P) h (by rw [ex_low hcK,hc]) hsl'
 have hoL:olds.length=pos.length:=by have:=hol.1; omega
 have hnL:news.length=1:=by have:=hnw.1; simpa using this
 match news,hnL with
 | [v0],_ =>
 obtain ⟨v0',hv0,v1,hv1,hv⟩:=cells1 hnw (i:=0) (x:=0) rfl
 simp only [List.getElem?_cons_zero,Option.some.injEq] at hv0
 subst hv0
 injection hv1 with hv1 _
 subst hv1
 have hkb:∀ d r,key d r≠b:=fun d r=>by have:=key_ge d r; omega
 have hcb:∀ r r',key c r≠key b r':=fun r r' e=>hbc (Z641 e).1.symm
 have hk0:ex σ (key b inn.length)=none:=by rw [ex_key,hb]; simp [innB]
 have hc0:ex σ (key c 0)=some (.row 0 t ys):=by rw [ex_key,hc]; simp [innB]
 obtain ⟨m1,m2⟩:=h.move hc0 hk0
 have hv1:=Z223 (F:=F) (I:=I) (w:=w) hc0 (hcb 0 inn.length).symm hv
 have hfl:Value.flat v0=true:=Z238 ⟨t,ys,by rw [Z712 _ _ (hcb 0 inn.length).symm]; simp⟩ hv1
 have hone:∀ v∈[v0],v.oneCell'=true:=fun v hv=>by simp at hv; subst hv; rw [← Z458]; exact hfl
 have hb1:setF (setF (ex σ) (key b inn.length) (.row 0 t ys)) (key c 0) .gone b=some (.pool ver t pos inn):=by
  rw [Z712 _ _ (hkb c 0).symm,Z712 _ _ (hkb b _).symm,ex_low hbK,hb]
 have hβb:setB β (key b inn.length) (β (key c 0)) b=β b:=Z711 _ _ (hkb b _).symm
 have hinn:∀ r,r≠inn.length→innB (some (.pool (ver+1) t (pos++[inn.length]) (inn++[ys]))) r=innB (σ b) r:=by
  intro r hr
  rw [hb]
  simp only [innB]
  rw [List.getElem?_append]
  split
  ·rfl
  ·rename_i hle
   rw [List.getElem?_eq_none (by simp; omega),List.getElem?_eq_none (by omega)]
 have hfade:=Z388 (x':=.pool (ver+1) t (pos++[inn.length]) (inn++[ys])) hbK hcK hbc hc hinn (by simp [innB])
 rw [← hsz] at hrunold hrunnew
 have new_place:∀ (i p:Nat),(pos++[inn.length])[i]?=some p→(i < pos.length∧pos[i]?=some p)∨(i=pos.length∧p=inn.length):=by
  intro i p hp
  rw [List.getElem?_append] at hp
  split at hp
  ·rename_i hi; exact .inl ⟨hi,hp⟩
  ·rename_i hi
   have:i - pos.length=0:=by
    have:=(List.getElem?_eq_some_iff.1 hp).1
    simp at this
    omega
   rw [this] at hp
   simp at hp
   exact .inr ⟨by omega,hp.symm⟩
 have done:∀ {w':World} {β2:Bt} {A2:Addr} {cap:Nat},Inv F I β2 (setF (setF (setF (ex σ) (key b inn.length) (.row 0 t ys)) (key c 0) .gone) b (.pool (ver+1) t (pos++[inn.length]) (inn++[ys]))) w' →
   Ext F.J I (setB β (key b inn.length) (β (key c 0))) (setF (setF (ex σ) (key b inn.length) (.row 0 t ys)) (key c 0) .gone) w I β2 (setF (setF (setF (ex σ) (key b inn.length) (.row 0 t ys)) (key c 0) .gone) b (.pool (ver+1) t (pos++[inn.length]) (inn++[ys]))) w' →
   (Builtin.append_ #[T,T] ty' #[.slice A pos.length cp,.slice A' [0].length cp']).run P w=.ok (.slice (some A2) (pos.length+1) cap) w' →
   (∃ blk o,β2 b=some (blk,o)∧A2=⟨blk,o,none⟩∧pos.length+1≤cap∧Cap w' blk (o+cap)) →
   ∃ u' w' I' β',(Builtin.append_ #[T,T] ty' #[.slice A pos.length cp,.slice A' [0].length cp']).run P w=.ok u' w'∧Inv F I' β' (ex (updF [(b,.pool (ver+1) t (pos++[inn.length]) (inn++[ys])),(c,.gone)] σ)) w'∧Ext F.J I β (ex σ) w I' β' (ex (updF [(b,.pool (ver+1) t (pos++[inn.length]) (inn++[ys])),(c,.gone)] σ)) w' ∧
   RL I' F.J β' (ex (updF [(b,.pool (ver+1) t (pos++[inn.length]) (inn++[ys])),(c,.gone)] σ)) w' (.slice b (ver+1) none) u':=by
  intro w' β2 A2 cap q1 q2 q3 ⟨blk,o,q4,q5,q6,q7⟩
  obtain ⟨f1,f2⟩:=q1.fade hfade
  refine ⟨_,w',_,_,q3,f1,m2.trans (q2.trans f2),.pool (ver+1) t (pos++[inn.length]) (inn++[ys]),?_,Nat.le_refl _,fun _ _=>⟨some A2,cap,by simp,.inr ⟨blk,o,q4,by rw [q5],by simpa using q6,q7⟩⟩⟩
  rw [ex_low hbK]
  simp [updF]
 by_cases hfit:pos.length+1≤cp
 ·rcases hk with ⟨rfl,hc0⟩ | ⟨blk,o,C,E',hbb,rfl,hle,hw,hC,hpl⟩
  ·simp at hfit; omega
  ·have hrun:=Z8 (ty':=ty') (n:=1) hund hEl hw (cs:=[v0]) (by simp [hsz]) hone (hrunnew w (fun _ _ h=>h)) hfit (by rw [hsz]; simpa using hC)
   rw [hsz] at hrun
   simp only [Nat.mul_one] at hrun
   have hlenC:C.toList.length=C.size:=rfl
   have hpatch:∀ n,((C.toList.take (o+pos.length)++[v0]++C.toList.drop (o+pos.length+[v0].length)).toArray)[n]? =
     if n < o+pos.length then C[n]? else if n < o+pos.length+[v0].length then [v0][n - (o+pos.length)]? else C[n]?:=by
    intro n
    have:=getElem?_patch (l:=C.toList) (us:=[v0]) (k:=o+pos.length) (n:=n) (by rw [hlenC]; simp; omega)
    simpa using this
   obtain ⟨p1,p2⟩:=Z511 (inn:=inn) (inn':=inn++[ys]) (pos':=pos++[inn.length]) (ver':=ver+1) m1 hb1 (by rw [hβb]; exact hbb) hw (C':=(C.toList.take (o+pos.length)++[v0]++C.toList.drop (o+pos.length+[v0].length)).toArray) (by simp; omega) (.inr (Nat.lt_succ_self _)) (fun i p hp=>by
    rcases new_place i p hp with ⟨hi,hp⟩ | ⟨rfl,rfl⟩
    ·rw [hpatch,if_pos (by omega)]
     obtain ⟨v,g1,g2⟩:=hpl i p hp
     exact ⟨v,g1,m2.rl g2⟩
    ·exact ⟨v0,by rw [hpatch,if_neg (by omega),if_pos (by simp)]; simp,hv1⟩)
   exact done p1 p2 hrun ⟨blk,o,by rw [hβb]; exact hbb,rfl,hfit,_,E',(0,0),setRow_heap w blk _ _ E' (0,0) hw,by simp; omega⟩
 ·obtain ⟨cap,rest,hrun,hcap,hrest⟩:=Z109 (w:=w) (ty':=ty') (sLen:=pos.length) (sCap:=cp) (n:=1) hund hEl (hrunold w.drew (fun _ _ h=>h)) (hrunnew w.drew (fun _ _ h=>h)) (by omega) hroom
  have hch:=m1.change (b:=b) (x':=.pool (ver+1) t (pos++[inn.length]) (inn++[ys])) (bv:=some (w.heap.size,0)) (own:=fun _=>False)
   ((WStep.drew _ w _).trans (WStep.alloc _ w.drew (.cells ((olds++[v0]).toArray++rest) el))) (fun _ h=>h.elim)
   (fun x hx=>by rw [hb1] at hx; injection hx with hx; subst hx; exact .inr (Nat.lt_succ_self _))
   (fun k o' hk=>by injection hk with hk; injection hk with hk _; subst hk; exact .inl (Nat.le_refl _))
   (fun hE'=>.inr ⟨w.heap.size,0,_,el,by simp,heap_alloc_new w.drew _,fun i p hp=>by
    rw [Nat.zero_add]
    rcases new_place i p hp with ⟨hi,hp⟩ | ⟨rfl,rfl⟩
    ·obtain ⟨v,g1,v',g2,g3⟩:=cells1 hol hp
     injection g2 with g2 _
     subst g2
     refine ⟨v,?_,hE'.rl (m2.rl g3)⟩
     rw [Array.getElem?_append_left (by simp; omega)]
     simp only [List.getElem?_toArray]
     rw [List.getElem?_append_left (by omega)]
     exact g1
    ·refine ⟨v0,?_,hE'.rl hv1⟩
     rw [Array.getElem?_append_left (by simp; omega)]
     simp only [List.getElem?_toArray]
     rw [List.getElem?_append_right (by omega),hoL,Nat.sub_self]
     rfl⟩)
  refine done hch.1 hch.2 hrun ⟨w.heap.size,0,by simp,rfl,hcap,_,el,(0,0),heap_alloc_new w.drew _,?_⟩
  rw [hsz] at hrest
  simp [hrest,hoL]
  omega
end
end Go.Abs
