import Derived.Test.YtbapchkhohnncaaGreatDoorCal2
set_option linter.unusedSimpArgs false
set_option linter.unusedSectionVars false
set_option linter.unusedVariables false
namespace Go.Abs
theorem Z474 {b:Nat} {l:List Nat} (h:b ∉ l):idx b l=none:=by
 cases hi:idx b l with
 | none=>rfl
 | some k=>exact absurd (List.mem_of_getElem? (Z475 hi)) h
theorem idx_at {b k:Nat} {l:List Nat} (hn:l.Nodup) (h:l[k]?=some b):idx b l=some k:=by
 obtain ⟨j,hj⟩:=Z634 (List.mem_of_getElem? h)
 rw [hj,Z336 hn (Z475 hj) h]
theorem Z490:∀ {n b c:Nat},c∈span b n↔b≤c∧c < b+n
 | 0,b,c=>by simp [span]
 | n+1,b,c=>by
  simp only [span,List.mem_cons,Z490 (n:=n)]
  omega
theorem Z621 {get:Sg}:∀ {n b:Nat},Z463 get b n=true→∀ c,b≤c→c < b+n→get c=none
 | 0,b,_,c,h1,h2=>by omega
 | n+1,b,h,c,h1,h2=>by
  simp only [Z463,Bool.and_eq_true] at h
  by_cases e:c=b
  ·subst e; simpa using h.1
  ·exact Z621 h.2 c (by omega) (by omega)
def kOf (ids:List Nat) (fresh n b:Nat):Option Nat:=match idx b ids with
 | some k=>some k
 | none=>if fresh≤b∧b < fresh+(n - ids.length) then some (ids.length+(b - fresh)) else none
noncomputable def backB (β β':Bt) (ids:List Nat) (fresh n:Nat):Bt:=fun c=>match unkey c with
 | some (b,r)=>match kOf ids fresh n b with
  | some k=>β' (key k r)
  | none=>β c
 | none=>match kOf ids fresh n c with
  | some k=>β' k
  | none=>β c
theorem Z272 {ids:List Nat} {fresh k:Nat} (h:k < ids.length):backF ids fresh k=ids[k]?:=by
 have:Nat.blt k ids.length=true:=Nat.ble_eq_true_of_le h
 simp only [backF,this,cond_true,nth_eq]
theorem Z176 {ids:List Nat} {fresh k:Nat} (h:ids.length≤k) (hk:k < 1000000):backF ids fresh k=some (fresh+(k - ids.length)):=by
 have h1:Nat.blt k ids.length=false:=by
  cases hb:Nat.blt k ids.length with
  | false=>rfl
  | true=>have:=Z327 hb; omega
 have h2:Nat.blt k 1000000=true:=Nat.ble_eq_true_of_le hk
 simp only [backF,h1,h2,cond_false,cond_true]
theorem Z575 {ids:List Nat} {fresh k b:Nat} (hm:ids.length≤1000000) (h:backF ids fresh k=some b):k < 1000000:=by
 unfold backF at h
 cases h1:Nat.blt k ids.length with
 | true=>have:=Z327 h1; omega
 | false =>
  cases h2:Nat.blt k 1000000 with
  | true=>exact Z327 h2
  | false=>rw [h1,h2] at h; cases h
theorem Z17 {ρ:Ren} {σ:Sg}:∀ {l:List Box} {bs:List (Bs×Bool)} {k:Nat},
  (∀ j x,l[j]?=some x→∃ b y,ρ.f (k+j)=some b∧renB ρ (k+j) x=some y) →
  (∀ i j b,i < l.length→j < l.length→ρ.f (k+i)=some b→ρ.f (k+j)=some b→i=j) →
  (∀ j x b y,l[j]?=some x→ρ.f (k+j)=some b→renB ρ (k+j) x=some y →
   (updF (Z271 ρ bs k l) σ b=some y∨(updF (Z271 ρ bs k l) σ b=σ b∧∃ s,bs[j]?=some (s,false)∧plainX x=true))) ∧
  (∀ b,(∀ j,j < l.length→ρ.f (k+j)≠some b)→updF (Z271 ρ bs k l) σ b=σ b)
 | [],bs,k,_,_=>by
  refine ⟨fun j x b y h=>by simp at h,fun b _=>?_⟩
  simp [Z271,updF]
 | x0 :: l,bs,k,htot,hinj=>by
  obtain ⟨b0,y0,hf0,hr0⟩:=htot 0 x0 rfl
  simp only [Nat.add_zero] at hf0 hr0
  obtain ⟨ih1,ih2⟩:=Z17 (l:=l) (bs:=bs.tail) (k:=k+1) (σ:=σ)
   (fun j x hx=>by
    have:=htot (j+1) x (by simpa using hx)
    rwa [show k+(j+1)=k+1+j by omega] at this)
   (fun i j b hi hj h1 h2=>by
    have:=hinj (i+1) (j+1) b (by simp; omega) (by simp; omega) (by rw [show k+(i+1)=k+1+i by omega]; exact h1) (by rw [show k+(j+1)=k+1+j by omega]; exact h2)
    omega)
  have hb0:∀ j,j < l.length→ρ.f (k+1+j)≠some b0:=by
   intro j hj e
   have:=hinj 0 (j+1) b0 (by simp) (by simp; omega) (by simpa using hf0) (by rw [show k+(j+1)=k+1+j by omega]; exact e)
   omega
  have htail:∀ j,bs.tail[j]?=bs[j+1]?:=by intro j; cases bs <;> simp
  have hu:updF (Z271 ρ bs k (x0 :: l)) σ=updF (Z271 ρ bs.tail (k+1) l) σ∧(∃ s,bs[0]?=some (s,false)∧plainX x0=true) ∨
    updF (Z271 ρ bs k (x0 :: l)) σ=setF (updF (Z271 ρ bs.tail (k+1) l) σ) b0 y0:=by
   simp only [Z271,hf0,hr0]
   split
   ·rename_i s _
    cases hp:plainX x0 with
    | true=>exact .inl ⟨rfl,s,rfl,rfl⟩
    | false=>exact .inr rfl
   ·exact .inr rfl
  refine ⟨?_,?_⟩
  ·intro j x b y hx hf hr
   cases j with
   | zero =>
    simp only [List.getElem?_cons_zero,Option.some.injEq] at hx
    subst hx
    simp only [Nat.add_zero] at hf hr
    rw [hf0] at hf; injection hf with hf; subst hf
    rw [hr0] at hr; injection hr with hr; subst hr
    rcases hu with ⟨hu,hs⟩ | hu
    ·rw [hu]
     exact .inr ⟨ih2 _ hb0,hs⟩
    ·rw [hu]
     exact .inl (Z367 ..)
   | succ j =>
    simp only [List.getElem?_cons_succ] at hx
    have hj:j < l.length:=(List.getElem?_eq_some_iff.1 hx).1
    rw [show k+(j+1)=k+1+j by omega] at hf hr
    have hne:b≠b0:=by rintro rfl; exact hb0 j hj hf
    have:=ih1 j x b y hx hf hr
    rw [htail] at this
    rcases hu with ⟨hu,_⟩ | hu
    ·rw [hu]; exact this
    ·rw [hu,Z712 _ _ hne]; exact this
  ·intro b hb
   have h0:b≠b0:=by
    rintro rfl
    exact hb 0 (by simp) (by simpa using hf0)
   have:=ih2 b fun j hj e=>hb (j+1) (by simp; omega) (by rw [show k+(j+1)=k+1+j by omega]; exact e)
   rcases hu with ⟨hu,_⟩ | hu
   ·rw [hu]; exact this
   ·rw [hu,Z712 _ _ h0]; exact this
theorem Z33:∀ {a b:List Lf},Z710 (a++b)=true→Z710 a=true∧Z710 b=true
 | [],b,h=>⟨rfl,h⟩
 | .sc v :: a,b,h=>by
  simp only [List.cons_append,Z710] at h ⊢
  exact Z33 h
 | .list .. :: a,b,h=>by simp [Z710] at h
 | .slice .. :: a,b,h=>by simp [Z710] at h
 | .ref .. :: a,b,h=>by simp [Z710] at h
 | .eref .. :: a,b,h=>by simp [Z710] at h
 | .arr .. :: a,b,h=>by simp [Z710] at h
 | .clos .. :: a,b,h=>by simp [Z710] at h
 | .ub _ :: a,b,h=>by simp [Z710] at h
 | .dead :: a,b,h=>by simp [Z710] at h
theorem Z265:∀ {t:Tc} {ls r:List Lf} {x:t.den},unfl true t ls=some (x,r)→Z710 (fl true t x)=true→ls=fl true t x++r
 | .int k,ls,r,x,h,hs=>by
  match ls,h with
  | .sc (.int k' n) :: q,h =>
   simp only [unfl] at h
   split at h
   ·rename_i e
    subst e
    simp only [Option.some.injEq,Prod.mk.injEq] at h
    rw [← h.1,← h.2]; rfl
   ·cases h
 | .bool,ls,r,x,h,hs=>by
  match ls,h with
  | .sc (.bool b) :: q,h =>
   simp only [unfl,Option.some.injEq,Prod.mk.injEq] at h
   rw [← h.1,← h.2]; rfl
 | .str,ls,r,x,h,hs=>by
  match ls,h with
  | .sc (.string b) :: q,h =>
   simp only [unfl,Option.some.injEq,Prod.mk.injEq] at h
   rw [← h.1,← h.2]; rfl
 | .nil,ls,r,x,h,hs=>by
  match ls,h with
  | .sc (.pointer none) :: q,h =>
   simp only [unfl,Option.some.injEq,Prod.mk.injEq] at h
   rw [← h.2]; rfl
 | .list t,ls,r,x,h,hs=>by simp [fl,Z710] at hs
 | .pair a b,ls,r,x,h,hs=>by
  simp only [unfl] at h
  cases h1:unfl true a ls with
  | none=>simp [h1] at h
  | some p =>
   obtain ⟨y,q⟩:=p
   simp only [h1] at h
   cases h2:unfl true b q with
   | none=>simp [h2] at h
   | some p =>
    obtain ⟨z,r'⟩:=p
    simp only [h2,Option.some.injEq,Prod.mk.injEq] at h
    obtain ⟨rfl,rfl⟩:=h
    simp only [fl] at hs ⊢
    obtain ⟨h3,h4⟩:=Z33 hs
    rw [Z265 h1 h3,Z265 h2 h4,List.append_assoc]
 | .unit,ls,r,x,h,hs=>by
  simp only [unfl,Option.some.injEq,Prod.mk.injEq] at h
  rw [h.2]; rfl
theorem Z691 {ρ ρ':Ren}:∀ {cells:List Lf},Z710 (renLs ρ cells)=true→renLs ρ' (renLs ρ cells)=cells
 | [],_=>rfl
 | l :: r,h=>by
  simp only [renLs] at h ⊢
  cases l with
  | sc v =>
   simp only [renL,Z710] at h ⊢
   rw [Z691 h]
  | list b t xs=>simp [renL,Z710] at h
  | slice b v rng=>simp only [renL] at h; split at h <;> simp [Z710] at h
  | ref b v i ba len d=>simp only [renL] at h; split at h <;> simp [Z710] at h
  | eref b t xs i ba len d=>simp [renL,Z710] at h
  | arr b v i ba n hi=>simp only [renL] at h; split at h <;> simp [Z710] at h
  | clos f c=>simp only [renL] at h; split at h <;> simp [Z710] at h
  | inn b p=>simp only [renL] at h; split at h <;> simp [Z710] at h
  | iref b p i ba len d=>simp only [renL] at h; split at h <;> simp [Z710] at h
  | ub p=>simp [renL,Z710] at h
  | dead=>simp [renL,Z710] at h
theorem Z491:∀ {l:List (Bs×Bool)} {x:bsDen l} {y:mutDen l},(mutOf l x y).length=l.length∧∀ (k:Nat) (s:Bs),l[k]?=some (s,false)→(mutOf l x y)[k]?=(Z578 l x)[k]?
 | [],x,y=>⟨rfl,fun k s h=>by simp at h⟩
 | (s0,true) :: r,x,y=>by
  obtain ⟨h1,h2⟩:=Z491 (l:=r) (x:=x.2) (y:=y.2)
  refine ⟨by simp [mutOf,h1],fun k s h=>?_⟩
  cases k with
  | zero=>simp at h
  | succ k=>simpa [mutOf,Z578] using h2 k s (by simpa using h)
 | (s0,false) :: r,x,y=>by
  obtain ⟨h1,h2⟩:=Z491 (l:=r) (x:=x.2) (y:=y)
  refine ⟨by simp [mutOf,h1],fun k s h=>?_⟩
  cases k with
  | zero=>simp [mutOf,Z578]
  | succ k=>simpa [mutOf,Z578] using h2 k s (by simpa using h)
theorem Z447 {F:Fun} {x:bsDen F.bs} {r:rsDen F.rs×mutDen F.bs} {k:Nat} {s:Bs} (h:F.bs[k]?=some (s,false)):(encR F x r).2[k]?=(Z578 F.bs x)[k]?:=by
 obtain ⟨h1,h2⟩:=Z491 (l:=F.bs) (x:=x) (y:=r.2)
 have hk:k < F.bs.length:=(List.getElem?_eq_some_iff.1 h).1
 simp only [encR]
 rw [List.getElem?_append_left (by omega)]
 exact h2 k s h
end Go.Abs
