import Derived.Test.YtbapchkhohnncaaGreatDoorOpF
set_option linter.unusedSimpArgs false
set_option linter.unusedSectionVars false
set_option linter.unusedVariables false
namespace Go.Abs
theorem Z487:∀ {l:List Nat},ltK l=true→∀ b∈l,b < 1000000
 | [],_,b,h=>by cases h
 | c :: r,hl,b,h=>by
  simp only [ltK,Bool.and_eq_true] at hl
  rcases List.mem_cons.1 h with rfl | h
  ·exact Nat.le_of_ble_eq_true hl.1
  ·exact Z487 hl.2 b h
theorem Z613 {σ:Sg} {b:Nat} {x':Box} (hb:b < 1000000) (hr:∀ r,innB (some x') r=innB (σ b) r):ex (setF σ b x')=setF (ex σ) b x':=by
 funext n
 cases hu:unkey n with
 | none =>
  have e1:ex (setF σ b x') n=setF σ b x' n:=by unfold ex; rw [hu]
  have e2:ex σ n=σ n:=by unfold ex; rw [hu]
  rw [e1]
  by_cases e:n=b
  ·subst e; simp
  ·rw [Z712 _ _ e,Z712 _ _ e,e2]
 | some q =>
  obtain ⟨c,r⟩:=q
  have hn:=Z266 hu
  subst hn
  have hne:key c r≠b:=by have:=key_ge c r; omega
  rw [ex_key,Z712 _ _ hne,ex_key]
  by_cases e:c=b
  ·subst e; rw [Z367,hr]
  ·rw [Z712 _ _ e]
theorem Z614 {σ:Sg} {b p:Nat} {x' z:Box} (hb:b < 1000000) (hr:∀ r,r≠p→innB (some x') r=innB (σ b) r) (hp:innB (some x') p=some z) :
  ex (setF σ b x')=setF (setF (ex σ) (key b p) z) b x':=by
 funext n
 cases hu:unkey n with
 | none =>
  have e1:ex (setF σ b x') n=setF σ b x' n:=by unfold ex; rw [hu]
  have e2:ex σ n=σ n:=by unfold ex; rw [hu]
  have e3:n≠key b p:=by rintro rfl; rw [Z391] at hu; cases hu
  rw [e1]
  by_cases e:n=b
  ·subst e; simp
  ·rw [Z712 _ _ e,Z712 _ _ e,Z712 _ _ e3,e2]
 | some q =>
  obtain ⟨c,r⟩:=q
  have hn:=Z266 hu
  subst hn
  have hne:key c r≠b:=by have:=key_ge c r; omega
  rw [ex_key,Z712 _ _ hne]
  by_cases e:c=b
  ·subst e
   rw [Z367]
   by_cases e2:r=p
   ·subst e2; rw [hp,Z367]
   ·rw [hr r e2,Z712 _ _ (fun h=>e2 (Z641 h).2),ex_key]
  ·rw [Z712 _ _ e,Z712 _ _ (fun h=>e (Z641 h).1),ex_key]
open Classical in
theorem Z612 {σ:Sg} {c:Nat} (hc:c < 1000000) (n:Nat):ex (setF σ c .gone) n=(if n=c∨∃ r,n=key c r then some .gone else ex σ n):=by
 cases hu:unkey n with
 | none =>
  have e1:ex (setF σ c .gone) n=setF σ c .gone n:=by unfold ex; rw [hu]
  have e2:ex σ n=σ n:=by unfold ex; rw [hu]
  rw [e1]
  by_cases e:n=c
  ·subst e; simp
  ·rw [Z712 _ _ e,if_neg,e2]
   rintro (h | ⟨r,rfl⟩)
   ·exact e h
   ·rw [Z391] at hu; cases hu
 | some q =>
  obtain ⟨d,r⟩:=q
  have hn:=Z266 hu
  subst hn
  have hne:key d r≠c:=by have:=key_ge d r; omega
  rw [ex_key]
  by_cases e:d=c
  ·subst e
   rw [Z367,if_pos (.inr ⟨r,rfl⟩)]
   rfl
  ·rw [Z712 _ _ e,if_neg,ex_key]
   rintro (h | ⟨r',h⟩)
   ·exact hne h
   ·exact e (Z641 h).1
theorem ex_get {σ get:Sg} {b p:Nat} (h:σ b=get b):ex σ (key b p)=ex get (key b p):=by rw [ex_key,ex_key,h]
section
variable {P:Program} {F:Fr} {I:Rg} {β:Bt} {σ:Sg} {w:World} {ty:Nat→Option TyI}
theorem Does.of {σ':Sg} {v:PV} {s:Sem Next} {u:Value} {w':World} {I':Rg} {β':Bt} (hr:s.run P w=.ok (.value u) w') (h1:Inv F I' β' σ' w') (h2:Ext F.J I β σ w I' β' σ' w') (h3:RV I' F.J β' σ' w' v u) :
  Does P F σ' v I β σ w s:=⟨_,u,w',hr,.inl rfl,I',β',h1,h2,h3⟩
theorem Z238 {b p:Nat} {v:Value} (hk:∃ t xs,σ (key b p)=some (.row 0 t xs)) (h:RL I F.J β σ w (.slice (key b p) 0 none) v):Value.flat v=true:=by
 obtain ⟨t,xs,hk⟩:=hk
 obtain ⟨x,hx,hs⟩:=h
 rw [hk] at hx; injection hx with hx; subst hx
 obtain ⟨A,c,rfl,_⟩:=hs.2 rfl
 rfl
theorem Z355 {b p ver:Nat} {t:Tc} {pos:List Nat} {inn:List (List t.den)} {v:Value} (hb:σ b=some (.pool ver t pos inn)) (h:RL I F.J β (ex σ) w (.slice (key b p) 0 none) v):RL I F.J β (ex σ) w (.inn b p) v:=by
 have h':=h
 obtain ⟨x,hx,hs⟩:=h
 have hx':=hx
 rw [ex_key,hb] at hx
 simp only [innB,Option.map_eq_some_iff] at hx
 obtain ⟨ys,_,rfl⟩:=hx
 exact ⟨Z238 ⟨t,ys,hx'⟩ h',_,hx',hs⟩
theorem Z510 (h:Inv F I β σ w) {b:Nat} (hb:σ b=none) {C:Array Value} {E:TypeId} {w1:World} (hw1:WStep (fun _=>False) w w1) (hn:w1.heap.size=w.heap.size) {t:Tc} {pos:List Nat} {inn:List (List t.den)} {cap:Nat}
  (hc:∀ (i p:Nat),pos[i]?=some p→∃ v,C[i]?=some v∧RL I F.J β σ w (.slice (key b p) 0 none) v) (hl:pos.length≤cap) (hs:cap≤C.size) :
  Inv F I (setB β b (some (w.heap.size,0))) (setF σ b (.pool 0 t pos inn)) (w1.alloc (.cells C E)) ∧
  Ext F.J I β σ w I (setB β b (some (w.heap.size,0))) (setF σ b (.pool 0 t pos inn)) (w1.alloc (.cells C E)) ∧
  RL I F.J (setB β b (some (w.heap.size,0))) (setF σ b (.pool 0 t pos inn)) (w1.alloc (.cells C E)) (.slice b 0 none) (.slice (some ⟨w.heap.size,0,none⟩) pos.length cap):=by
 have hw:(w1.alloc (.cells C E)).heap[w.heap.size]?=some (.cells C E (0,0)):=by rw [← hn]; exact heap_alloc_new w1 _
 have hch:=Z666 h hb (C:=C) (E:=E) (x':=.pool 0 t pos inn) hw1 hn
  (fun hE=>.inr ⟨w.heap.size,0,C,E,by simp,hw,fun i p hp=>by
   obtain ⟨v,h1,h2⟩:=hc i p hp
   exact ⟨v,by rw [Nat.zero_add]; exact h1,hE.rl h2⟩⟩)
 refine ⟨hch.1,hch.2,_,Z367 _ _ _,Nat.le_refl _,fun _ _=>⟨_,cap,rfl,.inr ⟨w.heap.size,0,by simp,rfl,hl,C,E,(0,0),hw,by omega⟩⟩⟩
theorem Z511 (h:Inv F I β σ w) {b blk o:Nat} {ver ver':Nat} {t t':Tc} {pos pos':List Nat} {inn:List (List t.den)} {inn':List (List t'.den)} {C C':Array Value} {E:TypeId}
  (hbσ:σ b=some (.pool ver t pos inn)) (hbb:β b=some (blk,o)) (hw:w.heap[blk]?=some (.cells C E (0,0))) (hsz:C'.size=C.size)
  (hver:(ver=ver'∧t=t'∧pos'.length=pos.length)∨ver < ver')
  (hc:∀ (i p:Nat),pos'[i]?=some p→∃ v,C'[o+i]?=some v∧RL I F.J β σ w (.slice (key b p) 0 none) v) :
  Inv F I β (setF σ b (.pool ver' t' pos' inn')) (w.setRow blk C')∧Ext F.J I β σ w I β (setF σ b (.pool ver' t' pos' inn')) (w.setRow blk C'):=by
 have hlb:liveB (σ b):=by rw [hbσ]; trivial
 have hβ:setB β b (some (blk,o))=β:=by
  funext c; by_cases e:c=b
  ·subst e; simp [hbb]
  ·rw [Z711 _ _ e]
 have hch:=h.change (b:=b) (x':=.pool ver' t' pos' inn') (bv:=some (blk,o)) (own:=fun k=>k=blk)
  (WStep.setRow (C':=C') hw rfl hsz) (fun k hk=>⟨hlb,o,by rw [hk,hbb]⟩)
  (fun x hx=>by
   rw [hbσ] at hx; injection hx with hx; subst hx
   rcases hver with ⟨h1,h2,h3⟩ | h1
   ·exact .inl ⟨h1,h2,h3,by simp [hbb]⟩
   ·exact .inr h1)
  (fun k o' hk=>by injection hk with hk; injection hk with hk _; subst hk; exact .inr ⟨hlb,o,hbb⟩)
  (fun hE=>.inr ⟨blk,o,C',E,by simp,setRow_heap w blk _ _ E (0,0) hw,fun i p hp=>by
   obtain ⟨v,h1,h2⟩:=hc i p hp
   exact ⟨v,h1,hE.rl h2⟩⟩)
 rwa [hβ] at hch
theorem Z509 (h:Inv F I β σ w) {b:Nat} {ver:Nat} {t:Tc} {pos:List Nat} {inn inn':List (List t.den)} (hbσ:σ b=some (.pool ver t pos inn)) :
  Inv F I β (setF σ b (.pool ver t pos inn')) w∧Ext F.J I β σ w I β (setF σ b (.pool ver t pos inn')) w:=by
 have hlb:liveB (σ b):=by rw [hbσ]; trivial
 have hβ:setB β b (β b)=β:=by
  funext c; by_cases e:c=b
  ·subst e; simp
  ·rw [Z711 _ _ e]
 have hch:=h.change (b:=b) (x':=.pool ver t pos inn') (bv:=β b) (own:=fun _=>False)
  (WStep.refl _ w) (fun _ h=>h.elim)
  (fun x hx=>by rw [hbσ] at hx; injection hx with hx; subst hx; exact .inl ⟨rfl,rfl,rfl,by simp⟩)
  (fun k o hk=>.inr ⟨hlb,o,hk⟩)
  (fun hE=>by
   have hb0:=h.good.box b _ hbσ
   rcases hb0 with ⟨h1,h2⟩ | ⟨blk,o,C,E,h1,h2,h3⟩
   ·exact .inl ⟨h1,by simp [h2]⟩
   ·refine .inr ⟨blk,o,C,E,by simp [h1],h2,fun i p hp=>?_⟩
    obtain ⟨v,h4,h5⟩:=h3 i p hp
    exact ⟨v,h4,hE.rl h5⟩)
 rwa [hβ] at hch
theorem Z223 {c k ver:Nat} {t:Tc} {xs:List t.den} (hc:σ c=some (.row ver t xs)) (hne:k≠c) {v:Value} (h:RL I F.J β σ w (.slice c ver none) v) :
  RL I F.J (setB β k (β c)) (setF (setF σ k (.row 0 t xs)) c .gone) w (.slice k 0 none) v:=by
 obtain ⟨x,hx,hs⟩:=h
 rw [hc] at hx; injection hx with hx; subst hx
 refine ⟨.row 0 t xs,by rw [Z712 _ _ hne]; simp,Nat.le_refl _,fun _=>?_⟩
 have:=hs.2 rfl
 simpa using this
theorem Z232 {get:Sg} {t:Tc} {l:Lf} {ys:List t.den} {c:Nat} (h:ownOf get t l=some (ys,c)):∃ ver,l=.slice c ver none∧get c=some (.row ver t ys):=by
 unfold ownOf at h
 split at h
 ·rename_i c' ver
  split at h
  ·rename_i ver' t' xs hg
   cases hv:Nat.beq ver ver' with
   | false=>simp [hv] at h
   | true =>
    simp only [hv,cond_true] at h
    split at h
    ·rename_i ys' hc
     simp only [Option.some.injEq,Prod.mk.injEq] at h
     obtain ⟨rfl,rfl⟩:=h
     obtain ⟨e,hy⟩:=Z184 hc
     subst e
     simp only at hy
     subst hy
     exact ⟨ver,rfl,by rw [hg,Nat.eq_of_beq_eq_true hv]⟩
    ·cases h
  ·cases h
 ·cases h
theorem Z165 {get:Sg} {t:Tc} {l:Lf} {ys:List t.den} {c:Nat} (h:tempOf get t l=some (ys,c)):∃ ver,l=.slice c ver none∧get c=some (.pool ver t [0] [ys]):=by
 unfold tempOf at h
 split at h
 ·rename_i c' ver
  split at h
  ·rename_i ver' t' xs hg
   cases hv:Nat.beq ver ver' with
   | false=>simp [hv] at h
   | true =>
    simp only [hv,cond_true] at h
    split at h
    ·rename_i ys' hc
     simp only [Option.some.injEq,Prod.mk.injEq] at h
     obtain ⟨rfl,rfl⟩:=h
     obtain ⟨e,hy⟩:=Z184 hc
     subst e
     simp only at hy
     subst hy
     exact ⟨ver,rfl,by rw [hg,Nat.eq_of_beq_eq_true hv]⟩
    ·cases h
  ·cases h
 ·cases h
theorem Z239 {T:TypeId} {t:Tc} {E:TyI} (hty:TysOk P ty) (h:poolT ty T=some (t,E)):∃ el,P.underlying T=some (.slice el)∧ty el=some E∧TyOk P el E∧E.tc=.list t∧E.sz=1:=by
 unfold poolT at h
 split at h
 ·rename_i TI hT
  cases hp:TI.pool with
  | false=>simp [hp] at h
  | true =>
   simp only [hp,cond_true] at h
   split at h
   ·rename_i el hDs
    split at h
    ·rename_i E' hE
     split at h
     ·rename_i t' htc
      simp only [Option.some.injEq,Prod.mk.injEq] at h
      obtain ⟨rfl,rfl⟩:=h
      obtain ⟨d,hund,hds,_⟩:=(hty T TI hT).desc
      rw [hDs] at hds
      simp only [DsOk] at hds
      subst hds
      refine ⟨el,hund,hE,hty el _ hE,htc,?_⟩
      rw [← (hty el _ hE).size,htc]
      rfl
     ·cases h
    ·cases h
   ·cases h
 ·cases h
theorem Z193 {T:TypeId} {e:Tc} (hty:TysOk P ty) (h:elemT ty T=some e):∃ TI el E,ty T=some TI∧TI.ds=.slice el∧ty el=some E∧E.tc=e∧P.underlying T=some (.slice el):=by
 unfold elemT at h
 split at h
 ·rename_i TI hT
  split at h
  ·rename_i el hDs
   split at h
   ·rename_i E hE
    simp only [Option.some.injEq] at h
    obtain ⟨d,hund,hds,_⟩:=(hty T TI hT).desc
    rw [hDs] at hds
    simp only [DsOk] at hds
    subst hds
    exact ⟨TI,el,E,hT,hDs,hE,h,hund⟩
   ·cases h
  ·cases h
 ·cases h
end
end Go.Abs
