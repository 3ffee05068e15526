import Derived.Test.YtbapchkhohnncaaGreatDoorRun
set_option linter.unusedSimpArgs false
set_option linter.unusedSectionVars false
set_option linter.unusedVariables false
namespace Go.Abs
abbrev Rg:=Nat→Nat→Prop
abbrev Sg:=Nat→Option Box
abbrev Bt:=Nat→Option (Nat×Nat)
def RowAt {α:Type} (K:Rg) (n:Nat) (rd:α→List Value→Prop) (w:World) (xs:List α) (a:Addr):Prop :=
 ∀ (i:Nat) (x:α),xs[i]?=some x→∃ vs,rd x vs∧vs.length=n ∧
  ∀ (j:Nat) (v:Value),vs[j]?=some v→K a.block (a.off+i*n+j)∧w.cell? ⟨a.block,a.off+i*n+j,none⟩=some v
def RD (I:Rg) (w:World):(t:Tc)→t.den→List Value→Prop
 | .int k,n,vs=>vs=[.int k n]
 | .bool,b,vs=>vs=[.bool b]
 | .str,s,vs=>vs=[.string s]
 | .list t,xs,vs=>∃ A c,vs=[.slice A xs.length c]∧xs.length≤c ∧
   (xs=[]∨∃ a:Addr,A=some a∧a.spot=none∧RowAt I t.sz (RD I w t) w xs a)
 | .pair a b,x,vs=>∃ v1 v2,vs=v1++v2∧RD I w a x.1 v1∧RD I w b x.2 v2
 | .unit,_,vs=>vs=[]
 | .nil,_,vs=>vs=[.pointer none]
theorem RD.len {I:Rg} {w:World}:∀ {t:Tc} {x:t.den} {vs:List Value},RD I w t x vs→vs.length=t.sz
 | .int _,_,_,h=>by simp only [RD] at h; subst h; rfl
 | .bool,_,_,h=>by simp only [RD] at h; subst h; rfl
 | .str,_,_,h=>by simp only [RD] at h; subst h; rfl
 | .list _,_,_,h=>by obtain ⟨A,c,rfl,_⟩:=h; rfl
 | .pair a b,x,vs,h=>by
  obtain ⟨v1,v2,rfl,h1,h2⟩:=h
  simp [h1.len,h2.len,Tc.sz]
 | .unit,_,_,h=>by simp only [RD] at h; subst h; rfl
 | .nil,_,_,h=>by simp only [RD] at h; subst h; rfl
def Value.flat:Value→Bool
 | .agg _=>false
 | .tuple _=>false
 | _=>true
theorem RD.flat {I:Rg} {w:World}:∀ {t:Tc} {x:t.den} {vs:List Value},RD I w t x vs→∀ v∈vs,Value.flat v=true
 | .int _,_,_,h=>by simp only [RD] at h; subst h; simp [Value.flat]
 | .bool,_,_,h=>by simp only [RD] at h; subst h; simp [Value.flat]
 | .str,_,_,h=>by simp only [RD] at h; subst h; simp [Value.flat]
 | .list _,_,_,h=>by obtain ⟨A,c,rfl,_⟩:=h; simp [Value.flat]
 | .pair a b,x,vs,h=>by
  obtain ⟨v1,v2,rfl,h1,h2⟩:=h
  intro v hv
  rcases List.mem_append.1 hv with hv | hv
  ·exact h1.flat v hv
  ·exact h2.flat v hv
 | .unit,_,_,h=>by simp only [RD] at h; subst h; simp
 | .nil,_,_,h=>by simp only [RD] at h; subst h; simp [Value.flat]
def Stays (K:Rg) (w w':World):Prop:=∀ b i v,K b i→w.cell? ⟨b,i,none⟩=some v→w'.cell? ⟨b,i,none⟩=some v
theorem RowAt.mono {α:Type} {K K':Rg} {n:Nat} {rd rd':α→List Value→Prop} {w w':World} {xs:List α} {a:Addr}
  (hK:∀ b i,K b i→K' b i) (hs:Stays K w w') (hr:∀ x vs,rd x vs→rd' x vs) (h:RowAt K n rd w xs a):RowAt K' n rd' w' xs a:=by
 intro i x hx
 obtain ⟨vs,h1,h2,h3⟩:=h i x hx
 exact ⟨vs,hr _ _ h1,h2,fun j v hv=>⟨hK _ _ (h3 j v hv).1,hs _ _ _ (h3 j v hv).1 (h3 j v hv).2⟩⟩
theorem RD.mono {I I':Rg} {w w':World} (hI:∀ b i,I b i→I' b i) (hs:Stays I w w') :
  ∀ {t:Tc} {x:t.den} {vs:List Value},RD I w t x vs→RD I' w' t x vs
 | .int _,_,_,h=>h
 | .bool,_,_,h=>h
 | .str,_,_,h=>h
 | .list t,xs,vs,h=>by
  obtain ⟨A,c,h1,h2,h3⟩:=h
  refine ⟨A,c,h1,h2,h3.imp id ?_⟩
  rintro ⟨a,ha,hsp,hr⟩
  exact ⟨a,ha,hsp,hr.mono hI hs (fun x vs=>RD.mono hI hs)⟩
 | .pair a b,x,vs,h=>by
  obtain ⟨v1,v2,h1,h2,h3⟩:=h
  exact ⟨v1,v2,h1,h2.mono hI hs,h3.mono hI hs⟩
 | .unit,_,_,h=>h
 | .nil,_,_,h=>h
def both (I J:Rg) (bor:Bool):Rg:=fun b i=>I b i∨(bor=true∧J b i)
def Cap (w:World) (blk n:Nat):Prop:=∃ (C:Array Value) (E:TypeId) (fr:Nat×Nat),w.heap[blk]?=some (Obj.cells C E fr)∧n≤C.size
def key (b r:Nat):Nat:=1000000+(b+r)*(b+r)+b
theorem Z641 {b r b' r':Nat} (h:key b r=key b' r'):b=b'∧r=r':=by
 unfold key at h
 have key:∀ {s s' c c':Nat},c≤s→s < s'→s*s+c≠s'*s'+c':=by
  intro s s' c c' h1 h2 e
  have h3:(s+1)*(s+1)≤s'*s':=Nat.mul_le_mul h2 h2
  rw [Nat.add_mul,Nat.mul_add] at h3
  omega
 rcases Nat.lt_trichotomy (b+r) (b'+r') with h1 | h1 | h1
 ·exact absurd (by omega) (key (c:=b) (c':=b') (by omega) h1)
 ·rw [h1] at h; omega
 ·exact absurd (by omega) (key (c:=b') (c':=b) (by omega) h1)
theorem key_ge (b r:Nat):1000000≤key b r:=by unfold key; omega
open Classical in
noncomputable def unkey (n:Nat):Option (Nat×Nat):=if h:∃ p:Nat×Nat,key p.1 p.2=n then some h.choose else none
theorem Z391 (b r:Nat):unkey (key b r)=some (b,r):=by
 have h:∃ p:Nat×Nat,key p.1 p.2=key b r:=⟨(b,r),rfl⟩
 unfold unkey
 rw [dif_pos h]
 have:=Z641 h.choose_spec
 exact congrArg some (Prod.ext this.1 this.2)
theorem Z266 {n b r:Nat} (h:unkey n=some (b,r)):n=key b r:=by
 unfold unkey at h
 split at h
 ·rename_i hh
  injection h with h
  have:=hh.choose_spec
  rw [h] at this
  exact this.symm
 ·cases h
theorem Z392 {n:Nat} (h:n < 1000000):unkey n=none:=by
 cases hu:unkey n with
 | none=>rfl
 | some p =>
  have:=Z266 (b:=p.1) (r:=p.2) hu
  have:=key_ge p.1 p.2
  omega
def innB:Option Box→Nat→Option Box
 | some (.pool _ t _ inn),r=>(inn[r]?).map (.row 0 t)
 | some .gone,_=>some .gone
 | _,_=>none
noncomputable def ex (g:Sg):Sg:=fun n=>match unkey n with
 | some (b,r)=>innB (g b) r
 | none=>g n
theorem ex_low {g:Sg} {n:Nat} (h:n < 1000000):ex g n=g n:=by unfold ex; rw [Z392 h]
theorem ex_key (g:Sg) (b r:Nat):ex g (key b r)=innB (g b) r:=by unfold ex; rw [Z391]
def Z561 (σ:Sg):Prop:=∀ b r,b < 1000000→σ (key b r)=innB (σ b) r
theorem Z302 (g:Sg):Z561 (ex g):=fun b r hb=>by rw [ex_key,ex_low hb]
def offOk (len d:Nat):Prop:=(len=0∧d=0)∨d < len
def RefAt (β:Bt) (b ver i base d:Nat) (u:Value):Box→Prop
 | .var _ _=>∃ blk,β b=some (blk,0)∧u=.pointer (some ⟨blk,base+d,none⟩)
 | .row ver' t xs=>ver≤ver'∧(ver=ver'→i < xs.length∧∃ blk o,β b=some (blk,o)∧u=.pointer (some ⟨blk,o+i*t.sz+(base+d),none⟩))
 | .pool ver' _ pos _=>ver≤ver'∧(ver=ver'→i < pos.length∧∃ blk o,β b=some (blk,o)∧u=.pointer (some ⟨blk,o+i+(base+d),none⟩))
 | .gone=>True
def Z564 (β:Bt) (w:World) (b ver:Nat) (rng:Option (Nat×Nat)) (u:Value):Box→Prop
 | .row ver' t xs=>ver≤ver'∧(ver=ver' →
   match rng with
   | none=>∃ A c,u=.slice A xs.length c∧((xs=[]∧c=0)∨∃ blk o,β b=some (blk,o)∧A=some ⟨blk,o,none⟩∧xs.length≤c∧Cap w blk (o+c*t.sz))
   | some (off,n)=>∃ A c,u=.slice A (((xs.drop off).take n).length) c∧((xs.drop off).take n).length≤c ∧
     ((xs.drop off).take n=[]∨∃ blk o,β b=some (blk,o)∧A=some ⟨blk,o+off*t.sz,none⟩) ∧
     xs.length≤off+c∧(c=0∨∃ blk o,β b=some (blk,o)∧A=some ⟨blk,o+off*t.sz,none⟩∧Cap w blk (o+(off+c)*t.sz)))
 | .pool ver' _ pos _=>ver≤ver'∧(ver=ver'→rng=none →
   ∃ A c,u=.slice A pos.length c∧((pos=[]∧c=0)∨∃ blk o,β b=some (blk,o)∧A=some ⟨blk,o,none⟩∧pos.length≤c∧Cap w blk (o+c)))
 | _=>True
def CapsAt (β:Bt) (σ:Sg):List Nat→List Value→Prop
 | [],vs=>vs=[]
 | b :: r,vs=>∃ v rest,vs=v :: rest∧(∃ x,σ b=some x∧RefAt β b 0 0 0 0 v x)∧CapsAt β σ r rest
section
variable (I J:Rg) (β:Bt) (σ:Sg) (w:World)
def RL:Lf→Value→Prop
 | .sc v,u=>u=v
 | .list bor t xs,u=>∃ A c,u=.slice A xs.length c∧xs.length≤c ∧
   (xs=[]∨∃ a:Addr,A=some a∧a.spot=none∧RowAt (both I J bor) t.sz (RD (both I J bor) w t) w xs a)
 | .slice b ver rng,u=>∃ x,σ b=some x∧Z564 β w b ver rng u x
 | .ref b ver i base len d,u=>offOk len d∧∃ x,σ b=some x∧RefAt β b ver i base d u x
 | .eref bor t xs i base len d,u=>offOk len d∧i < xs.length ∧
   ∃ a:Addr,u=.pointer (some ⟨a.block,a.off+i*t.sz+(base+d),none⟩)∧RowAt (both I J bor) t.sz (RD (both I J bor) w t) w xs a
 | .arr b ver i base n hi,u=>hi≤n∧∃ x,σ b=some x∧∃ A,RefAt β b ver i base 0 (.pointer A) x∧u=.slice A hi n
 | .clos f caps,u=>∃ vs,u=.func (.func f) #[] vs.toArray∧CapsAt β σ caps vs
 | .inn b p,u=>Value.flat u=true∧∃ x,σ (key b p)=some x∧Z564 β w (key b p) 0 none u x
 | .iref b p i base len d,u=>Value.flat u=true∧offOk len d∧∃ x,σ (key b p)=some x∧RefAt β (key b p) 0 i base d u x
 | .ub p,u=>∃ b,u=.bool b∧(b=true→p=true)
 | .dead,_=>True
def RLs:List Lf→List Value→Prop
 | [],vs=>vs=[]
 | l :: r,vs=>∃ v rest,vs=v :: rest∧RL I J β σ w l v∧RLs r rest
def RP (p:Bool×List Lf) (u:Value):Prop :=
 match p with
 | (true,ls)=>∃ vs:List Value,u=.agg vs.toArray∧RLs I J β σ w ls vs
 | (false,[l])=>RL I J β σ w l u
 | _=>True
def RT:List (Bool×List Lf)→List Value→Prop
 | [],vs=>vs=[]
 | p :: r,vs=>∃ v rest,vs=v :: rest∧RP I J β σ w p v∧RT r rest
def RV:PV→Value→Prop
 | .one l,u=>RL I J β σ w l u
 | .agg ls,u=>∃ vs:List Value,u=.agg vs.toArray∧RLs I J β σ w ls vs
 | .tup xs,u=>∃ vs:List Value,u=.tuple vs.toArray∧RT I J β σ w xs vs
def RVs:List PV→List Value→Prop
 | [],vs=>vs=[]
 | p :: r,vs=>∃ v rest,vs=v :: rest∧RV I J β σ w p v∧RVs r rest
def RB (b:Nat):Box→Prop
 | .var T cells=>∃ (blk:Nat) (vs:List Value),β b=some (blk,0)∧w.heap[blk]?=some (Obj.cells vs.toArray T (0,0))∧RLs I J β σ w cells vs
 | .row _ t xs=>(xs=[]∧β b=none)∨∃ (blk o:Nat) (C:Array Value) (E:TypeId),β b=some (blk,o)∧w.heap[blk]?=some (Obj.cells C E (0,0)) ∧
   ∀ (i:Nat) (x:t.den),xs[i]?=some x→∃ vs,RD I w t x vs∧∀ (j:Nat) (v:Value),vs[j]?=some v→C[o+i*t.sz+j]?=some v
 | .pool _ t pos inn=>(pos=[]∧β b=none)∨∃ (blk o:Nat) (C:Array Value) (E:TypeId),β b=some (blk,o)∧w.heap[blk]?=some (Obj.cells C E (0,0)) ∧
   ∀ (i p:Nat),pos[i]?=some p→∃ v,C[o+i]?=some v∧RL I J β σ w (.slice (key b p) 0 none) v
 | .gone=>True
def liveB:Option Box→Prop
 | some (.var ..)=>True
 | some (.row ..)=>True
 | some (.pool ..)=>True
 | _=>False
structure Good:Prop where
 box:∀ b x,σ b=some x→RB I J β σ w b x
 inj:∀ b b' blk o o',liveB (σ b)→liveB (σ b')→β b=some (blk,o)→β b'=some (blk,o')→b=b'
 sep:∀ b blk o i,liveB (σ b)→β b=some (blk,o)→¬ I blk i∧¬ J blk i
 bnd:∀ blk i,I blk i∨J blk i→blk < w.heap.size
end
def Evo (β β':Bt) (b:Nat):Box→Box→Prop
 | .var T _,.var T' _=>T=T'∧β' b=β b
 | .row v t xs,.row v' t' xs'=>(v=v'∧t=t'∧xs'.length=xs.length∧β' b=β b)∨v < v'
 | .row ..,.gone=>True
 | .pool v t pos inn,.pool v' t' pos' inn'=>(v=v'∧t=t'∧pos'.length=pos.length∧β' b=β b)∨v < v'
 | .pool ..,.gone=>True
 | .gone,.gone=>True
 | _,_=>False
theorem Evo.refl (β:Bt) (b:Nat) (x:Box):Evo β β b x x:=by
 cases x <;> simp [Evo]
theorem Evo.trans {β β' β'':Bt} {b:Nat} {x y z:Box} (h:Evo β β' b x y) (h':Evo β' β'' b y z):Evo β β'' b x z:=by
 cases x <;> cases y <;> cases z <;> simp_all [Evo]
 ·rename_i v t xs v' t' xs' v'' t'' xs''
  rcases h with ⟨h1,h2,h3,h4⟩ | h <;> rcases h' with ⟨h1',h2',h3',h4'⟩ | h'
  ·exact .inl ⟨by omega,by simp_all,by omega,by simp_all⟩
  ·exact .inr (by omega)
  ·exact .inr (by omega)
  ·exact .inr (by omega)
 ·rcases h with ⟨h1,h2,h3,h4⟩ | h <;> rcases h' with ⟨h1',h2',h3',h4'⟩ | h'
  ·exact .inl ⟨by omega,by simp_all,by omega,by simp_all⟩
  ·exact .inr (by omega)
  ·exact .inr (by omega)
  ·exact .inr (by omega)
def Z563 (w w':World):Prop:=∀ (blk:Nat) (C:Array Value) (E:TypeId) (fr:Nat×Nat),w.heap[blk]?=some (Obj.cells C E fr)→∃ C':Array Value,w'.heap[blk]?=some (Obj.cells C' E fr)∧C'.size=C.size
structure Ext (J I:Rg) (β:Bt) (σ:Sg) (w:World) (I':Rg) (β':Bt) (σ':Sg) (w':World):Prop where
 grow:∀ blk i,I blk i→I' blk i
 stays:Stays (both I J true) w w'
 evo:∀ b x,σ b=some x→∃ x',σ' b=some x'∧Evo β β' b x x'
 cap:Z563 w w'
theorem Z563.refl (w:World):Z563 w w:=fun _ C _ _ h=>⟨C,h,rfl⟩
theorem Z563.trans {w w' w'':World} (h:Z563 w w') (h':Z563 w' w''):Z563 w w'':=by
 intro blk C E fr hb
 obtain ⟨C',h1,h2⟩:=h blk C E fr hb
 obtain ⟨C'',h3,h4⟩:=h' blk C' E fr h1
 exact ⟨C'',h3,by omega⟩
theorem Ext.refl (J I:Rg) (β:Bt) (σ:Sg) (w:World):Ext J I β σ w I β σ w :=
 ⟨fun _ _ h=>h,fun _ _ _ _ h=>h,fun b x h=>⟨x,h,.refl β b x⟩,.refl w⟩
theorem Ext.trans {J I I' I'':Rg} {β β' β'':Bt} {σ σ' σ'':Sg} {w w' w'':World} (h:Ext J I β σ w I' β' σ' w') (h':Ext J I' β' σ' w' I'' β'' σ'' w'') :
  Ext J I β σ w I'' β'' σ'' w'':=by
 refine ⟨fun b i hi=>h'.grow b i (h.grow b i hi),?_,?_,h.cap.trans h'.cap⟩
 ·intro b i v hk hc
  exact h'.stays b i v (hk.imp (h.grow b i) id) (h.stays b i v hk hc)
 ·intro b x hx
  obtain ⟨x',h1,h2⟩:=h.evo b x hx
  obtain ⟨x'',h3,h4⟩:=h'.evo b x' h1
  exact ⟨x'',h3,h2.trans h4⟩
section
variable {J I I':Rg} {β β':Bt} {σ σ':Sg} {w w':World}
theorem Ext.staysI (h:Ext J I β σ w I' β' σ' w'):Stays I w w':=fun b i v hi=>h.stays b i v (.inl hi)
theorem Ext.rd (h:Ext J I β σ w I' β' σ' w') {t:Tc} {x:t.den} {vs:List Value} (hr:RD I w t x vs):RD I' w' t x vs:=hr.mono h.grow h.staysI
theorem Ext.bothI (h:Ext J I β σ w I' β' σ' w') (bor:Bool):∀ b i,both I J bor b i→both I' J bor b i:=fun b i hk=>hk.imp (h.grow b i) id
theorem Ext.bothS (h:Ext J I β σ w I' β' σ' w') (bor:Bool):Stays (both I J bor) w w':=fun b i v hk=>h.stays b i v (hk.imp id fun z=>⟨rfl,z.2⟩)
theorem Ext.rowAt (h:Ext J I β σ w I' β' σ' w') {bor:Bool} {t:Tc} {xs:List t.den} {a:Addr} (hr:RowAt (both I J bor) t.sz (RD (both I J bor) w t) w xs a) :
  RowAt (both I' J bor) t.sz (RD (both I' J bor) w' t) w' xs a :=
 hr.mono (h.bothI bor) (h.bothS bor) (fun x vs hv=>hv.mono (h.bothI bor) (h.bothS bor))
theorem RefAt.evo {b ver i base d:Nat} {u:Value} {x x':Box} (h:RefAt β b ver i base d u x) (he:Evo β β' b x x'):RefAt β' b ver i base d u x':=by
 cases x <;> cases x' <;> simp only [Evo] at he <;> try exact he.elim
 ·obtain ⟨blk,h1,h2⟩:=h
  exact ⟨blk,by rw [he.2,h1],h2⟩
 ·rename_i v t xs v' t' xs'
  obtain ⟨hle,h⟩:=h
  rcases he with ⟨h1,h2,h3,h4⟩ | he
  ·subst h1; subst h2
   refine ⟨hle,fun hv=>?_⟩
   obtain ⟨hi,blk,o,h5,h6⟩:=h hv
   exact ⟨by omega,blk,o,by rw [h4,h5],h6⟩
  ·exact ⟨by omega,fun hv=>by omega⟩
 ·trivial
 ·rename_i v t pos inn v' t' pos' inn'
  obtain ⟨hle,h⟩:=h
  rcases he with ⟨h1,h2,h3,h4⟩ | he
  ·subst h1; subst h2
   refine ⟨hle,fun hv=>?_⟩
   obtain ⟨hi,blk,o,h5,h6⟩:=h hv
   exact ⟨by omega,blk,o,by rw [h4,h5],h6⟩
  ·exact ⟨by omega,fun hv=>by omega⟩
 ·trivial
 ·trivial
theorem Cap.mono {blk n:Nat} (h:Cap w blk n) (hc:Z563 w w'):Cap w' blk n:=by
 obtain ⟨C,E,fr,h1,h2⟩:=h
 obtain ⟨C',h3,h4⟩:=hc blk C E fr h1
 exact ⟨C',E,fr,h3,by omega⟩
theorem Z564.evo {b ver:Nat} {rng:Option (Nat×Nat)} {u:Value} {x x':Box} (h:Z564 β w b ver rng u x) (he:Evo β β' b x x') (hc:Z563 w w') :
  Z564 β' w' b ver rng u x':=by
 cases x <;> cases x' <;> simp only [Evo] at he <;> try exact he.elim
 ·trivial
 ·rename_i v t xs v' t' xs'
  obtain ⟨hle,h⟩:=h
  rcases he with ⟨h1,h2,h3,h4⟩ | he
  ·subst h1; subst h2
   refine ⟨hle,fun hv=>?_⟩
   have h:=h hv
   cases rng with
   | none =>
    obtain ⟨A,c,hu,hk⟩:=h
    refine ⟨A,c,by rw [h3,hu],?_⟩
    rcases hk with ⟨hk,hc0⟩ | ⟨blk,o,hb,hA,hl,hcap⟩
    ·refine .inl ⟨?_,hc0⟩
     rw [← List.length_eq_zero_iff] at hk ⊢; omega
    ·exact .inr ⟨blk,o,by rw [h4,hb],hA,by omega,hcap.mono hc⟩
   | some p =>
    obtain ⟨off,n⟩:=p
    obtain ⟨A,c,hu,hl,hk,hxc,hcap⟩:=h
    have hlen:((xs'.drop off).take n).length=((xs.drop off).take n).length:=by simp [h3]
    refine ⟨A,c,by rw [hlen,hu],by rw [hlen]; exact hl,?_,by omega,hcap.imp id fun ⟨blk,o,g1,g2,g3⟩=>⟨blk,o,by rw [h4,g1],g2,g3.mono hc⟩⟩
    rcases hk with hk | ⟨blk,o,hb,hA⟩
    ·refine .inl ?_
     rw [← List.length_eq_zero_iff] at hk ⊢; omega
    ·exact .inr ⟨blk,o,by rw [h4,hb],hA⟩
  ·exact ⟨by omega,fun hv=>by omega⟩
 ·trivial
 ·rename_i v t pos inn v' t' pos' inn'
  obtain ⟨hle,h⟩:=h
  rcases he with ⟨h1,h2,h3,h4⟩ | he
  ·subst h1; subst h2
   refine ⟨hle,fun hv hr=>?_⟩
   obtain ⟨A,c,hu,hk⟩:=h hv hr
   refine ⟨A,c,by rw [h3,hu],?_⟩
   rcases hk with ⟨hk,hc0⟩ | ⟨blk,o,hb,hA,hl,hcap⟩
   ·refine .inl ⟨?_,hc0⟩
    rw [← List.length_eq_zero_iff] at hk ⊢; omega
   ·exact .inr ⟨blk,o,by rw [h4,hb],hA,by omega,hcap.mono hc⟩
  ·exact ⟨by omega,fun hv=>by omega⟩
 ·trivial
 ·trivial
theorem CapsAt.ext (h:Ext J I β σ w I' β' σ' w'):∀ {caps:List Nat} {vs:List Value},CapsAt β σ caps vs→CapsAt β' σ' caps vs
 | [],_,hv=>hv
 | b :: r,vs,hv=>by
  obtain ⟨v,rest,h1,⟨x,hx,hr⟩,h2⟩:=hv
  obtain ⟨x',hx',he⟩:=h.evo b x hx
  exact ⟨v,rest,h1,⟨x',hx',hr.evo he⟩,CapsAt.ext h h2⟩
theorem Ext.rl (h:Ext J I β σ w I' β' σ' w') {l:Lf} {u:Value} (hl:RL I J β σ w l u):RL I' J β' σ' w' l u:=by
 cases l with
 | sc v=>exact hl
 | list bor t xs =>
  obtain ⟨A,c,h1,h2,h3⟩:=hl
  refine ⟨A,c,h1,h2,h3.imp id ?_⟩
  rintro ⟨a,ha,hsp,hr⟩
  exact ⟨a,ha,hsp,h.rowAt hr⟩
 | slice b ver rng =>
  obtain ⟨x,hx,hs⟩:=hl
  obtain ⟨x',hx',he⟩:=h.evo b x hx
  exact ⟨x',hx',hs.evo he h.cap⟩
 | ref b ver i base len d =>
  obtain ⟨ho,x,hx,hs⟩:=hl
  obtain ⟨x',hx',he⟩:=h.evo b x hx
  exact ⟨ho,x',hx',hs.evo he⟩
 | eref bor t xs i base len d =>
  obtain ⟨ho,hi,a,h1,hr⟩:=hl
  exact ⟨ho,hi,a,h1,h.rowAt hr⟩
 | arr b ver i base n hi =>
  obtain ⟨ho,x,hx,A,hs,hu⟩:=hl
  obtain ⟨x',hx',he⟩:=h.evo b x hx
  exact ⟨ho,x',hx',A,hs.evo he,hu⟩
 | clos f caps =>
  obtain ⟨vs,h1,h2⟩:=hl
  exact ⟨vs,h1,h2.ext h⟩
 | inn b p =>
  obtain ⟨hfl,x,hx,hs⟩:=hl
  obtain ⟨x',hx',he⟩:=h.evo _ x hx
  exact ⟨hfl,x',hx',hs.evo he h.cap⟩
 | iref b p i base len d =>
  obtain ⟨hfl,ho,x,hx,hs⟩:=hl
  obtain ⟨x',hx',he⟩:=h.evo _ x hx
  exact ⟨hfl,ho,x',hx',hs.evo he⟩
 | ub p=>exact hl
 | dead=>trivial
theorem Ext.rls (h:Ext J I β σ w I' β' σ' w'):∀ {ls:List Lf} {vs:List Value},RLs I J β σ w ls vs→RLs I' J β' σ' w' ls vs
 | [],_,hl=>hl
 | l :: r,vs,hl=>by
  obtain ⟨v,rest,h1,h2,h3⟩:=hl
  exact ⟨v,rest,h1,h.rl h2,h.rls h3⟩
theorem Ext.rp (h:Ext J I β σ w I' β' σ' w') {p:Bool×List Lf} {u:Value} (hp:RP I J β σ w p u):RP I' J β' σ' w' p u:=by
 obtain ⟨ag,ls⟩:=p
 cases ag with
 | true =>
  obtain ⟨vs,h1,h2⟩:=hp
  exact ⟨vs,h1,h.rls h2⟩
 | false =>
  match ls,hp with
  | [],_=>trivial
  | [l],hp=>exact h.rl hp
  | _ :: _ :: _,_=>trivial
theorem Ext.rt (h:Ext J I β σ w I' β' σ' w'):∀ {xs:List (Bool×List Lf)} {vs:List Value},RT I J β σ w xs vs→RT I' J β' σ' w' xs vs
 | [],_,hl=>hl
 | l :: r,vs,hl=>by
  obtain ⟨v,rest,h1,h2,h3⟩:=hl
  exact ⟨v,rest,h1,h.rp h2,h.rt h3⟩
theorem Ext.rv (h:Ext J I β σ w I' β' σ' w') {p:PV} {u:Value} (hp:RV I J β σ w p u):RV I' J β' σ' w' p u:=by
 cases p with
 | one l=>exact h.rl hp
 | agg ls=>obtain ⟨vs,h1,h2⟩:=hp; exact ⟨vs,h1,h.rls h2⟩
 | tup xs=>obtain ⟨vs,h1,h2⟩:=hp; exact ⟨vs,h1,h.rt h2⟩
theorem Ext.rvs (h:Ext J I β σ w I' β' σ' w'):∀ {ps:List PV} {vs:List Value},RVs I J β σ w ps vs→RVs I' J β' σ' w' ps vs
 | [],_,hl=>hl
 | l :: r,vs,hl=>by
  obtain ⟨v,rest,h1,h2,h3⟩:=hl
  exact ⟨v,rest,h1,h.rv h2,h.rvs h3⟩
end
end Go.Abs
