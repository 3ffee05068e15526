import Derived.Test.YtbapchkhohnncaaGreatDoorCal3
set_option linter.unusedSimpArgs false
set_option linter.unusedSectionVars false
set_option linter.unusedVariables false
namespace Go.Abs
theorem Z124:∀ {l:List Pt} {ls:List Lf} {x:ptDen l},decPt l ls=some x→Z710 (Z688 l x)=true→ls=Z688 l x
 | [],[],x,_,_=>rfl
 | [],_ :: _,x,h,_=>by simp [decPt] at h
 | .sl b :: r,ls,x,h,hs=>by simp [Z688,Z710] at hs
 | .v t :: r,ls,x,h,hs=>by
  simp only [decPt] at h
  split at h
  ·rename_i y q hu
   split at h
   ·rename_i z hz
    simp only [Option.some.injEq] at h
    subst h
    simp only [Z688] at hs ⊢
    obtain ⟨h1,h2⟩:=Z33 hs
    rw [Z265 hu h1,← Z124 hz h2]
   ·cases h
  ·cases h
section
variable {Fr0:Fr} {I I' J':Rg} {β β':Bt} {σ:Sg} {w w':World} {get:Sg} {ids lent:List Nat} {fresh:Nat} {l bx σl:List Box} {F:Fun} {y:bsDen F.bs} {r:rsDen F.rs×mutDen F.bs}
structure Back (Fr0:Fr) (I I' J':Rg) (β β':Bt) (σ:Sg) (w w':World) (get:Sg) (ids lent:List Nat) (fresh:Nat) (l bx σl:List Box) (bs:List (Bs×Bool)):Prop where
 inv:Inv Fr0 I β (ex σ) w
 nd:ids.Nodup
 rd:∀ b∈ids++lent++span fresh (σl.length - ids.length),σ b=get b
 small:∀ b∈ids++lent++span fresh (σl.length - ids.length),b < 1000000
 maxl:ids.length≤1000000∧σl.length≤1000000
 loc:Z219 get (Z418 0 ids get) ids=some l
 len:bs.length=ids.length
 dec:∀ (k:Nat) (z:Box),l[k]?=some z→∃ s y0,bs[k]?=some s∧decBox s.1 z=some y0∧bx[k]?=some (boxOf s.1 y0)
 blen:bx.length=ids.length
 keep:∀ (k:Nat) (s:Bs),bs[k]?=some (s,false)→σl[k]?=bx[k]?
 free:Z463 get fresh (σl.length - ids.length)=true
 jJ:∀ b i,Fr0.J b i→J' b i
 bor:(∀ b i,J' b i→Fr0.J b i)∨σl.any borB=false
 call:Inv (frOf w I J' (atIdsX β ids) bx) I' β' (ex (listF σl)) w'
variable {bs:List (Bs×Bool)} (H:Back Fr0 I I' J' β β' σ w w' get ids lent fresh l bx σl bs)
include H
theorem Back.start_at {k:Nat} (h:k < ids.length):(frOf w I J' (atIdsX β ids) bx).σ0 k=bx[k]?:=by
 show ex (listF bx) k=_
 have:=H.maxl.1
 rw [ex_low (by omega)]
 rfl
theorem Back.le:ids.length≤σl.length:=by
 rcases Nat.lt_or_ge σl.length ids.length with h | h
 ·exfalso
  have hb:σl.length < bx.length:=by rw [H.blen]; exact h
  obtain ⟨x',hx',_⟩:=H.call.ext.evo σl.length (bx[σl.length]) (by rw [H.start_at h]; simp [hb])
  have:=H.maxl.1
  rw [ex_low (by omega)] at hx'
  simp [listF] at hx'
 ·exact h
theorem Back.get_ids {k b:Nat} (h:ids[k]?=some b):∃ x z s y0,σ b=some x∧get b=some x∧renB (Z418 0 ids get) b x=some z∧l[k]?=some z∧bs[k]?=some s∧decBox s.1 z=some y0∧bx[k]?=some (boxOf s.1 y0):=by
 obtain ⟨x,z,h1,h2,h3⟩:=(Z51 H.loc).2 k b h
 obtain ⟨s,y0,h4,h5,h6⟩:=H.dec k z h3
 have hg:=H.rd b (by simp [List.mem_of_getElem? h])
 exact ⟨x,z,s,y0,by rw [hg,h1],h1,h2,h3,h4,h5,h6⟩
theorem Back.fresh_none {b:Nat} (h1:fresh≤b) (h2:b < fresh+(σl.length - ids.length)):σ b=none:=by
 rw [H.rd b (by simp [Z490.2 ⟨h1,h2⟩])]
 exact Z621 H.free b h1 h2
theorem Back.fresh_out {b:Nat} (h1:fresh≤b) (h2:b < fresh+(σl.length - ids.length)):b ∉ ids:=by
 intro hb
 obtain ⟨k,hk⟩:=List.mem_iff_getElem?.1 hb
 obtain ⟨x,_,_,_,h3,_⟩:=H.get_ids hk
 rw [H.fresh_none h1 h2] at h3
 cases h3
theorem Back.f_some {k:Nat} (hk:k < σl.length):∃ b,backF ids fresh k=some b∧b < 1000000∧((k < ids.length∧ids[k]?=some b)∨(ids.length≤k∧b=fresh+(k - ids.length))):=by
 have hm:=H.maxl.2
 rcases Nat.lt_or_ge k ids.length with h | h
 ·exact ⟨ids[k],by rw [Z272 h]; simp [h],H.small _ (by simp),.inl ⟨h,by simp [h]⟩⟩
 ·exact ⟨_,Z176 h (by omega),H.small _ (by simp [Z490]; omega),.inr ⟨h,rfl⟩⟩
theorem Back.f_inj {i j b:Nat} (hi:i < σl.length) (hj:j < σl.length) (h1:backF ids fresh i=some b) (h2:backF ids fresh j=some b):i=j:=by
 obtain ⟨b1,e1,_,c1⟩:=H.f_some hi
 obtain ⟨b2,e2,_,c2⟩:=H.f_some hj
 rw [h1] at e1; injection e1 with e1; subst e1
 rw [h2] at e2; injection e2 with e2; subst e2
 rcases c1 with ⟨g1,g2⟩ | ⟨g1,g2⟩ <;> rcases c2 with ⟨g3,g4⟩ | ⟨g3,g4⟩
 ·exact Z336 H.nd g2 g4
 ·exact absurd (List.mem_of_getElem? g2) (H.fresh_out (by omega) (by omega))
 ·exact absurd (List.mem_of_getElem? g4) (H.fresh_out (by omega) (by omega))
 ·omega
theorem Back.k_in {k b:Nat} (hk:k < σl.length) (h:backF ids fresh k=some b):kOf ids fresh σl.length b=some k:=by
 obtain ⟨b1,e1,_,c1⟩:=H.f_some hk
 rw [h] at e1; injection e1 with e1; subst e1
 unfold kOf
 rcases c1 with ⟨g1,g2⟩ | ⟨g1,g2⟩
 ·rw [idx_at H.nd g2]
 ·have hlt:fresh≤b∧b < fresh+(σl.length - ids.length):=by omega
  rw [Z474 (H.fresh_out hlt.1 hlt.2)]
  simp only
  rw [if_pos hlt]
  congr 1; omega
theorem Back.k_out {b:Nat} (h:∀ k,k < σl.length→backF ids fresh k≠some b):b ∉ ids∧kOf ids fresh σl.length b=none:=by
 have hni:b ∉ ids:=by
  intro hb
  obtain ⟨k,hk⟩:=List.mem_iff_getElem?.1 hb
  have hlt:k < ids.length:=(List.getElem?_eq_some_iff.1 hk).1
  exact h k (by have:=H.le; omega) (by rw [Z272 hlt,hk])
 refine ⟨hni,?_⟩
 unfold kOf
 rw [Z474 hni]
 simp only
 rw [if_neg]
 rintro ⟨h1,h2⟩
 have:=H.maxl.2
 exact h (ids.length+(b - fresh)) (by have:=H.le; omega) (by rw [Z176 (by omega) (by have:=H.le; omega)]; congr 1; omega)
theorem Back.b_in {k b:Nat} (hk:k < σl.length) (h:backF ids fresh k=some b):backB β β' ids fresh σl.length b=β' k:=by
 obtain ⟨b1,e1,hbK,_⟩:=H.f_some hk
 rw [h] at e1; injection e1 with e1; subst e1
 unfold backB
 rw [Z392 hbK,H.k_in hk h]
theorem Back.b_key {k b r:Nat} (hk:k < σl.length) (h:backF ids fresh k=some b):backB β β' ids fresh σl.length (key b r)=β' (key k r):=by
 unfold backB
 rw [Z391]
 simp only
 rw [H.k_in hk h]
theorem Back.base {k b:Nat} (h:ids[k]?=some b):baseV get ids k=(match get b with | some (.row cur _ _)=>cur | some (.pool cur _ _ _)=>cur | _=>0):=by
 unfold baseV
 rw [nth_eq,h]
 simp only
 split <;> simp_all
theorem Back.spec:(∀ j x b y,σl[j]?=some x→backF ids fresh j=some b→renB (Z576 get ids fresh) j x=some y →
   (updF (Z271 (Z576 get ids fresh) bs 0 σl) σ b=some y∨(updF (Z271 (Z576 get ids fresh) bs 0 σl) σ b=σ b∧∃ s,bs[j]?=some (s,false)∧plainX x=true))) ∧
  (∀ b,(∀ j,j < σl.length→backF ids fresh j≠some b)→updF (Z271 (Z576 get ids fresh) bs 0 σl) σ b=σ b):=by
 have hren:∀ (k:Nat) (x:Box),∃ z,renB (Z576 get ids fresh) k x=some z:=by
  intro k x
  cases x <;> simp [renB,Z576]
 obtain ⟨h1,h2⟩:=Z17 (ρ:=Z576 get ids fresh) (σ:=σ) (l:=σl) (bs:=bs) (k:=0)
  (fun j x hx=>by
   have hj:j < σl.length:=(List.getElem?_eq_some_iff.1 hx).1
   obtain ⟨b,hb,_⟩:=H.f_some hj
   obtain ⟨z,hz⟩:=hren j x
   exact ⟨b,z,by rw [Nat.zero_add]; exact hb,by rw [Nat.zero_add]; exact hz⟩)
  (fun i j b hi hj e1 e2=>by
   rw [Nat.zero_add] at e1 e2
   exact H.f_inj hi hj e1 e2)
 simp only [Nat.zero_add] at h1 h2
 exact ⟨h1,h2⟩
theorem Back.box {k:Nat} {x:Box} (hx:listF σl k=some x) :
  ∃ b z,backF ids fresh k=some b∧b < 1000000∧renB (Z576 get ids fresh) k x=some z∧updF (Z271 (Z576 get ids fresh) bs 0 σl) σ b=some z∧backB β β' ids fresh σl.length b=β' k:=by
 have hk:k < σl.length:=(List.getElem?_eq_some_iff.1 hx).1
 obtain ⟨b,hb,hbK,hc⟩:=H.f_some hk
 obtain ⟨z,hz⟩:∃ z,renB (Z576 get ids fresh) k x=some z:=by cases x <;> simp [renB,Z576]
 refine ⟨b,z,hb,hbK,hz,?_,H.b_in hk hb⟩
 rcases H.spec.1 k x b z hx hb hz with h2 | ⟨h2,s,h3,h4⟩
 ·exact h2
 ·rw [h2]
  have hkl:k < ids.length:=by
   have:=(List.getElem?_eq_some_iff.1 h3).1
   rw [H.len] at this
   exact this
  rcases hc with ⟨_,hid⟩ | ⟨hge,_⟩
  ·obtain ⟨x0,z0,s',y0,g1,g2,g3,g4,g5,g6,g7⟩:=H.get_ids hid
   rw [h3] at g5
   injection g5 with g5
   subst g5
   have hkeep:=H.keep k s h3
   have:σl[k]?=some x:=hx
   rw [this,g7] at hkeep
   injection hkeep with hkeep
   have hbase:=H.base hid
   rw [g2] at hbase
   rw [g1,← hz,hkeep]
   rcases Z122 g6 with ⟨T,t,ls,v,rfl,e2,e3⟩ | ⟨t,xs,rfl,e2⟩ | ⟨T,k',rfl,e2,_⟩ | ⟨t,pos,inn,rfl,e2⟩ | ⟨T,pl,ls,v,e0,rfl,e2,e3⟩
   ·rw [e2]
    rw [hkeep,e2] at h4
    simp only [plainX] at h4
    have e4:=Z265 e3 h4
    rw [List.append_nil] at e4
    cases x0 with
    | var T0 c0 =>
     simp only [renB,Option.some.injEq,Box.var.injEq] at g3
     obtain ⟨rfl,g3⟩:=g3
     simp only [renB]
     have:renLs (Z418 0 ids get) c0=fl true t v:=by rw [g3,e4]
     rw [← this,Z691 (by rw [this]; exact h4)]
    | row cur t0 xs0=>simp only [renB] at g3; split at g3 <;> cases g3
    | pool cur t0 p0 i0=>simp only [renB] at g3; split at g3 <;> cases g3
    | gone=>simp [renB] at g3
   ·rw [e2]
    cases x0 with
    | var T0 c0=>simp [renB] at g3
    | row cur t0 xs0 =>
     simp only [renB] at g3
     split at g3
     ·rename_i v' hv'
      simp only [Option.some.injEq,Box.row.injEq] at g3
      obtain ⟨rfl,rfl,g3⟩:=g3
      simp only [heq_eq_eq] at g3
      subst g3
      simp only at hbase
      simp only [renB,Z576,hbase,Nat.add_zero]
     ·cases g3
    | pool cur t0 p0 i0=>simp only [renB] at g3; split at g3 <;> cases g3
    | gone=>simp [renB] at g3
   ·rw [hkeep,e2] at h4
    simp [plainX,Z710] at h4
   ·rw [e2]
    cases x0 with
    | var T0 c0=>simp [renB] at g3
    | row cur t0 xs0=>simp only [renB] at g3; split at g3 <;> cases g3
    | pool cur t0 p0 i0 =>
     simp only [renB] at g3
     split at g3
     ·rename_i v' hv'
      simp only [Option.some.injEq,Box.pool.injEq] at g3
      obtain ⟨rfl,rfl,g4',g3⟩:=g3
      simp only [heq_eq_eq] at g3
      subst g3; subst g4'
      simp only at hbase
      simp only [renB,Z576,hbase,Nat.add_zero]
     ·cases g3
    | gone=>simp [renB] at g3
   ·rw [e2]
    rw [hkeep,e2] at h4
    simp only [plainX] at h4
    cases x0 with
    | var T0 c0 =>
     simp only [renB,Option.some.injEq,Box.var.injEq] at g3
     obtain ⟨rfl,g3⟩:=g3
     simp only [renB]
     have e4:renLs (Z418 0 ids get) c0=Z688 pl v:=by rw [g3]; exact Z124 e3 h4
     rw [← e4,Z691 (by rw [e4]; exact h4)]
    | row cur t0 xs0=>simp only [renB] at g3; split at g3 <;> cases g3
    | pool cur t0 p0 i0=>simp only [renB] at g3; split at g3 <;> cases g3
    | gone=>simp [renB] at g3
  ·omega
theorem Back.ren:RenOk (Z576 get ids fresh) β' (ex (listF σl)) (backB β β' ids fresh σl.length) (ex (updF (Z271 (Z576 get ids fresh) bs 0 σl) σ)):=by
 have hlow:∀ {k b:Nat},backF ids fresh k=some b→∀ {g:Sg},ex g k=g k:=fun hf g=>ex_low (Z575 H.maxl.1 hf)
 refine ⟨?_,?_,?_,?_⟩
 ·intro k b x hf hx
  have hf:backF ids fresh k=some b:=hf
  rw [hlow hf] at hx
  obtain ⟨b',z,h1,hbK,h2,h3,h4⟩:=H.box hx
  rw [h1] at hf
  injection hf with hf
  subst hf
  exact ⟨z,h2,by rw [ex_low hbK]; exact h3,h4⟩
 ·intro k b v v1 v2 cur t xs _ _ h1 h2 hle
  simp only [Z576,Option.some.injEq] at h1 h2
  omega
 ·intro k b v v1 v2 cur t pos inn _ _ h1 h2 hle
  simp only [Z576,Option.some.injEq] at h1 h2
  omega
 ·intro k b p x hf hx
  have hf:backF ids fresh k=some b:=hf
  rw [ex_key] at hx
  cases hk:listF σl k with
  | none=>rw [hk] at hx; cases hx
  | some y =>
   rw [hk] at hx
   have hkl:k < σl.length:=(List.getElem?_eq_some_iff.1 hk).1
   obtain ⟨b',z,h1,hbK,h2,h3,h4⟩:=H.box hk
   rw [h1] at hf
   injection hf with hf
   subst hf
   refine ⟨?_,H.b_key hkl h1⟩
   rw [ex_key,h3]
   cases y with
   | var T c=>cases hx
   | row v t xs=>cases hx
   | gone =>
    simp only [renB,Option.some.injEq] at h2
    subst h2
    exact hx
   | pool v t pos inn =>
    simp only [renB,Z576,Option.some.injEq] at h2
    subst h2
    exact hx
end
end Go.Abs
