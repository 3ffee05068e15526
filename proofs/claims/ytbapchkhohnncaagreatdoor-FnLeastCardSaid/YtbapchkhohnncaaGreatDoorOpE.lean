import Derived.Test.YtbapchkhohnncaaGreatDoorOpD
set_option linter.unusedSimpArgs false
set_option linter.unusedSectionVars false
set_option linter.unusedVariables false
namespace Go.Abs
section
variable {P:Program} {F:Fr} {I:Rg} {β:Bt} {σ:Sg} {w:World} {ty:Nat→Option TyI}
theorem Z7 (d:Nat) {T:TypeId} (h:P.underlying T=some .bool) (a b:Bool):(Op.equalIn (d+1) T (.bool a) (.bool b)).run P w=.ok (a==b) w:=by
 simp [Op.equalIn,run_underlying h]
theorem Z92 {T:TypeId} (h:P.underlying T=some .bool) (a b:Bool):(binOp .eql T (.bool a) (.bool b)).run P w=.ok (.bool (a==b)) w:=by
 have e:binOp .eql T (.bool a) (.bool b)=(do pure (.bool (← Op.equal T (.bool a) (.bool b)))):=rfl
 have h2:(Op.equal T (.bool a) (.bool b)).run P w=.ok (a==b) w:=Z7 9999 h a b
 rw [e,Sem.run_bind,h2]
 rfl
theorem Z93 {T:TypeId} (h:P.underlying T=some .bool) (a b:Bool):(binOp .neq T (.bool a) (.bool b)).run P w=.ok (.bool (!(a==b))) w:=by
 have e:binOp .neq T (.bool a) (.bool b)=(do pure (.bool (!(← Op.equal T (.bool a) (.bool b))))):=rfl
 have h2:(Op.equal T (.bool a) (.bool b)).run P w=.ok (a==b) w:=Z7 9999 h a b
 rw [e,Sem.run_bind,h2]
 rfl
theorem Z14 (d:Nat) {T el:TypeId} (h:P.underlying T=some (.slice el)) (A:Option Addr) (n c:Nat):(Op.equalIn (d+1) T (.slice A n c) (.slice none 0 0)).run P w=.ok A.isNone w:=by
 cases A <;> simp [Op.equalIn,run_underlying h]
theorem Z151 {T el:TypeId} (h:P.underlying T=some (.slice el)) (A:Option Addr) (n c:Nat):(binOp .eql T (.slice A n c) (.slice none 0 0)).run P w=.ok (.bool A.isNone) w:=by
 have e:binOp .eql T (.slice A n c) (.slice none 0 0)=(do pure (.bool (← Op.equal T (.slice A n c) (.slice none 0 0)))):=rfl
 have h2:(Op.equal T (.slice A n c) (.slice none 0 0)).run P w=.ok A.isNone w:=Z14 9999 h A n c
 rw [e,Sem.run_bind,h2]
 rfl
theorem Z118 {get:Nat→Option Box} {l:Lf} {t:Tc} {xs:List t.den} {u:Value} (hg:∀ b∈rdOf l,σ b=get b) (hc:Z596 get l=some ⟨t,xs⟩) (hl:RL I F.J β σ w l u) :
  ∃ A c,u=.slice A xs.length c∧(A=none→xs=[]):=by
 unfold Z596 at hc
 split at hc
 ·rename_i bor t' ys
  cases hbf:!bor||Abs.flatT t' with
  | false=>rw [hbf] at hc; cases hc
  | true =>
  rw [hbf] at hc
  simp only [cond_true,Option.some.injEq,Sigma.mk.injEq] at hc
  obtain ⟨rfl,hc⟩:=hc
  have hc:=eq_of_heq hc
  subst hc
  obtain ⟨A,c,rfl,_,h⟩:=hl
  refine ⟨A,c,rfl,fun e=>?_⟩
  rcases h with h | ⟨a,ha,_⟩
  ·exact h
  ·rw [e] at ha; cases ha
 ·rename_i b ver rng
  obtain ⟨x,hx,hs⟩:=hl
  rw [hg b (by simp [rdOf])] at hx
  rw [hx] at hc
  cases x with
  | row cur t0 ys =>
   simp only at hc
   cases hv:Nat.beq ver cur with
   | false=>rw [hv,cond_false] at hc; cases hc
   | true =>
    rw [hv,cond_true] at hc
    simp only [Option.some.injEq,Sigma.mk.injEq] at hc
    obtain ⟨rfl,hc⟩:=hc
    have hc:=eq_of_heq hc
    subst hc
    have hs:=hs.2 (Nat.eq_of_beq_eq_true hv)
    cases rng with
    | none =>
     obtain ⟨A,c,rfl,h⟩:=hs
     refine ⟨A,c,rfl,fun e=>?_⟩
     rcases h with ⟨h,_⟩ | ⟨blk,o,_,ha,_⟩
     ·simp [view,h]
     ·rw [e] at ha; cases ha
    | some p =>
     obtain ⟨off,n⟩:=p
     obtain ⟨A,c,rfl,_,h,_⟩:=hs
     refine ⟨A,c,rfl,fun e=>?_⟩
     rcases h with h | ⟨blk,o,_,ha⟩
     ·exact h
     ·rw [e] at ha; cases ha
  | var T c=>cases hc
  | pool ver' t pos inn=>cases hc
  | gone=>cases hc
 ·cases hc
theorem Z150 {T:TypeId} {us vs:Array Value} {e:Bool} (h2:(Op.equal T (.agg us) (.agg vs)).run P w=.ok e w):(binOp .eql T (.agg us) (.agg vs)).run P w=.ok (.bool e) w:=by
 have e:binOp .eql T (.agg us) (.agg vs)=(do pure (.bool (← Op.equal T (.agg us) (.agg vs)))):=rfl
 rw [e,Sem.run_bind,h2]
 rfl
theorem Z153 {T:TypeId} {us vs:Array Value} {e:Bool} (h2:(Op.equal T (.agg us) (.agg vs)).run P w=.ok e w):(binOp .neq T (.agg us) (.agg vs)).run P w=.ok (.bool (!e)) w:=by
 have e:binOp .neq T (.agg us) (.agg vs)=(do pure (.bool (!(← Op.equal T (.agg us) (.agg vs))))):=rfl
 rw [e,Sem.run_bind,h2]
 rfl
theorem Z177 (hty:TysOk P ty) {T:TypeId} {TI:TyI} (hT:ty T=some TI) {op:BinOp} {a b v:Value} {g:Bool} (h:binV TI.ds op a b=some (g,v)) (hg:g=true) (x y:Operand) :
  (do eqGuard op T x y a b; binOp op T a b:Sem Value).run P w=.ok v w:=by
 obtain ⟨d,hund,hds,_⟩:=(hty T TI hT).desc
 subst hg
 cases a with
 | int k a =>
  cases b with
  | int k' b =>
   simp only [eqGuard_at_int,pure_bind]
   by_cases hsh:op=.shl∨op=.shr
   ·rcases hsh with rfl | rfl <;> simp only [binV,Option.some.injEq,Prod.mk.injEq,decide_eq_true_eq] at h <;> obtain ⟨h1,rfl⟩:=h <;>
     simp [binOp,Op.shift,show ¬ b < 0 by omega]
   ·have hb:(if k=k' then (match op with
      | .add=>some (true,Value.int k (k.wrap (a+b)))
      | .sub=>some (true,.int k (k.wrap (a - b)))
      | .mul=>some (true,.int k (k.wrap (a*b)))
      | .quo=>some (!(b==0),.int k (k.wrap (a.tdiv b)))
      | .rem=>some (!(b==0),.int k (a.tmod b))
      | .eql=>some (true,.bool (a==b))
      | .neq=>some (true,.bool (a != b))
      | .lss=>some (true,.bool (decide (a < b)))
      | .leq=>some (true,.bool (decide (a≤b)))
      | .gtr=>some (true,.bool (decide (a > b)))
      | .geq=>some (true,.bool (decide (a≥b)))
      | .and=>some (true,.int k (k.wrap (BitVec.ofInt k.bits a &&& BitVec.ofInt k.bits b).toNat))
      | .or=>some (true,.int k (k.wrap (BitVec.ofInt k.bits a ||| BitVec.ofInt k.bits b).toNat))
      | .xor=>some (true,.int k (k.wrap (BitVec.ofInt k.bits a ^^^ BitVec.ofInt k.bits b).toNat))
      | _=>none) else none)=some (true,v):=by
     rw [← h]
     cases op <;> first | rfl | exact absurd (.inl rfl) hsh | exact absurd (.inr rfl) hsh
    split at hb
    ·rename_i hk
     subst hk
     cases op <;> simp at hb <;> (try (obtain ⟨hb0,hb⟩:=hb)) <;> (try subst hb) <;>
      first
       | (simp [binOp,Op.intArith]; done)
       | (simp [binOp,Op.intCmp]; done)
       | (simp [binOp,Op.intBits]; done)
       | (simp [binOp,Op.intDiv,hb0]; done)
       | exact absurd (.inl rfl) hsh
       | exact absurd (.inr rfl) hsh
    ·cases hb
  | _=>simp [binV] at h
 | bool a =>
  cases b with
  | bool b =>
   simp only [eqGuard_at_bool,pure_bind]
   simp only [binV] at h
   split at h
   ·rename_i hds'
    rw [hds'] at hds
    simp only [DsOk] at hds
    subst hds
    simp only [Option.some.injEq,Prod.mk.injEq,true_and] at h
    subst h
    exact Z92 hund a b
   ·rename_i hds'
    rw [hds'] at hds
    simp only [DsOk] at hds
    subst hds
    simp only [Option.some.injEq,Prod.mk.injEq,true_and] at h
    subst h
    exact Z93 hund a b
   ·cases h
  | _=>simp [binV] at h
 | string a =>
  cases b with
  | string b =>
   simp only [eqGuard_at_string,pure_bind]
   cases op <;> simp [binV] at h <;> (try (obtain ⟨h0,h⟩:=h)) <;> (try subst h) <;>
    (try (replace h0:a.size+b.size≤9223372036854775807:=Nat.le_of_ble_eq_true h0)) <;>
    first
     | (simp [binOp,Op.stringOp]; done)
     | (simp [binOp,Op.stringOp]; omega)
  | _=>simp [binV] at h
 | _=>simp [binV] at h
theorem Z389 {op:UnOp} {a v:Value} (h:unV op a=some v):(Op.unary op a).run P w=.ok v w:=by
 cases a <;> cases op <;> simp [unV] at h <;> subst h <;> simp [Op.unary,Op.intArith]
theorem Z476 {get:Nat→Option Box}:∀ {ls ls':List Lf} {gone:List Nat},immL get ls=some (ls',gone)→∀ b∈gone,(get b).isSome=true
 | [],ls',gone,h,b,hb=>by
  simp only [immL,Option.some.injEq,Prod.mk.injEq] at h
  rw [← h.2] at hb; cases hb
 | l :: r,ls',gone,h,b,hb=>by
  have plain:(match immL get r with | some (ls,gone)=>some (l :: ls,gone) | none=>none)=some (ls',gone)→(get b).isSome=true:=by
   intro h
   cases hr:immL get r with
   | none=>rw [hr] at h; cases h
   | some p =>
    obtain ⟨q,g⟩:=p
    rw [hr] at h
    simp only [Option.some.injEq,Prod.mk.injEq] at h
    obtain ⟨_,rfl⟩:=h
    exact Z476 hr b hb
  cases l with
  | slice c ver rng =>
   simp only [immL] at h
   cases hc:get c with
   | none=>simp only [hc] at h; cases h
   | some y =>
    cases y with
    | row ver' t xs =>
     simp only [hc] at h
     cases hver:Nat.beq ver ver' with
     | false=>simp [hver] at h
     | true =>
      simp only [hver,cond_true] at h
      cases hr:immL get r with
      | none=>simp only [hr] at h; cases h
      | some p =>
       obtain ⟨q,g⟩:=p
       simp only [hr] at h
       cases hm:mem c g with
       | true=>simp [hm] at h
       | false =>
        simp only [hm,cond_false,Option.some.injEq,Prod.mk.injEq] at h
        obtain ⟨_,rfl⟩:=h
        rcases List.mem_cons.1 hb with rfl | hb
        ·simp [hc]
        ·exact Z476 hr b hb
    | _=>simp [hc] at h
  | sc _=>exact plain h
  | list _ _ _=>exact plain h
  | ref _ _ _ _ _ _=>exact plain h
  | eref _ _ _ _ _ _ _=>exact plain h
  | arr _ _ _ _ _ _=>exact plain h
  | clos _ _=>exact plain h
  | inn _ _=>exact plain h
  | iref _ _ _ _ _ _=>exact plain h
  | ub _=>exact plain h
  | dead=>exact plain h
theorem Z406 (b o n:Nat):Addr.add ⟨b,o,none⟩ n=⟨b,o+n,none⟩:=by unfold Addr.add; split <;> simp_all
theorem Z152 {T el:TypeId} {E:TyI} (hund:P.underlying T=some (.slice el)) (hE:TyOk P el E) {blk o n c:Nat} {k:IntKind} {i:Int} (h0:0≤i) (h1:i < (n:Int)) :
  (Instr.indexAt T (.slice (some ⟨blk,o,none⟩) n c) (.int k i)).run P w=.ok (.pointer (some ⟨blk,o+i.toNat*E.sz,none⟩)) w:=by
 simp [Instr.indexAt,asIntOf,run_underlying hund,hE.run_size,h0,h1,Z406]
theorem Z568 {p q:Prop} [Decidable p] [Decidable q] (h:(decide p&&decide q)=true):p∧q:=by
 simpa using h
theorem Z71 (hty:TysOk P ty) (h:Inv F I β σ w) {get:Nat→Option Box} {T:TypeId} {l:Lf} {k:IntKind} {i:Int} {e:Eff} {u:Value} (hs:Z62 ty get T l i=some e) (hgd:e.g=true)
  (hg:∀ b∈e.rd,σ b=get b) (hl:RL I F.J β σ w l u):e.upd=[]∧∃ u',(Instr.indexAt T u (.int k i)).run P w=.ok u' w∧RV I F.J β σ w e.v u':=by
 unfold Z62 at hs
 cases hT:ty T with
 | none=>simp [hT] at hs
 | some TI =>
  obtain ⟨d,hund,hds,_⟩:=(hty T TI hT).desc
  simp only [hT] at hs
  cases hDs:TI.ds with
  | slice el =>
   rw [hDs] at hds
   simp only [DsOk] at hds
   subst hds
   simp only [hDs] at hs
   cases l with
   | list bor t xs =>
    cases hE:ty el with
    | none=>simp [hE] at hs
    | some E =>
    have hEl:=hty el E hE
    simp only [hE] at hs
    split at hs
    ·rename_i ht
     simp only [Option.some.injEq] at hs
     subst hs
     obtain ⟨h0,h1⟩:=Z568 hgd
     obtain ⟨A,c,rfl,hlc,hk⟩:=hl
     rcases hk with rfl | ⟨a,rfl,hsp,hrow⟩
     ·simp at h1; omega
     ·have ha:a=⟨a.block,a.off,none⟩:=by cases a; simp_all
      refine ⟨rfl,_,by rw [ha]; exact Z152 hund hEl h0 h1,.inl ⟨rfl,rfl⟩,by omega,a,?_,hrow⟩
      rw [← ht,hEl.size]
      simp
    ·cases hs
   | slice b ver rng =>
    cases hE:ty el with
    | none=>simp [hE] at hs
    | some E =>
    have hEl:=hty el E hE
    simp only [hE] at hs
    obtain ⟨x,hx,hsl⟩:=hl
    cases hb:get b with
    | none=>simp [hb] at hs
    | some y =>
     cases y with
     | row ver' t xs =>
      simp only [hb] at hs
      cases hver:Nat.beq ver ver' with
      | false=>simp [hver] at hs
      | true =>
       simp only [hver,cond_true] at hs
       have hver:=Nat.eq_of_beq_eq_true hver
       subst hver
       split at hs
       ·rename_i ht
        cases rng with
        | none =>
         simp only [Option.some.injEq] at hs
         subst hs
         obtain ⟨h0,h1⟩:=Z568 hgd
         have hxb:σ b=some (.row ver t xs):=by rw [hg b (by simp),hb]
         rw [hx] at hxb; injection hxb with hxb; subst hxb
         obtain ⟨A,c,rfl,hk⟩:=hsl.2 rfl
         rcases hk with ⟨rfl,_⟩ | ⟨blk,o,hbb,rfl,_,_⟩
         ·simp at h1; omega
         ·refine ⟨rfl,_,Z152 hund hEl h0 h1,.inl ⟨rfl,rfl⟩,.row ver t xs,hx,Nat.le_refl _,fun _=>⟨by omega,blk,o,hbb,?_⟩⟩
          rw [← ht,hEl.size]
          simp
        | some p =>
         obtain ⟨off,n⟩:=p
         simp only [Option.some.injEq] at hs
         subst hs
         obtain ⟨h0,h1⟩:=Z568 hgd
         have hxb:σ b=some (.row ver t xs):=by rw [hg b (by simp),hb]
         rw [hx] at hxb; injection hxb with hxb; subst hxb
         obtain ⟨A,c,rfl,_,hk,_⟩:=hsl.2 rfl
         rcases hk with hk | ⟨blk,o,hbb,rfl⟩
         ·rw [hk] at h1; simp at h1; omega
         ·refine ⟨rfl,_,Z152 hund hEl h0 h1,.inl ⟨rfl,rfl⟩,.row ver t xs,hx,Nat.le_refl _,fun _=>⟨?_,blk,o,hbb,?_⟩⟩
          ·simp at h1; omega
          ·rw [← ht,hEl.size,Nat.add_mul]
           simp [Nat.add_assoc]
       ·cases hs
     | _=>simp [hb] at hs
   | arr b ver ix base n hi =>
    simp only [sizeT] at hs
    cases hE:ty el with
    | none=>simp [hE] at hs
    | some E =>
    have hEl:=hty el E hE
    simp only [hE] at hs
    split at hs
    ·rename_i hsz
     cases hsol:solid get (.ref b ver ix base 0 0) with
     | false=>simp [hsol] at hs
     | true =>
      simp only [hsol,cond_true,Option.some.injEq] at hs
      subst hs
      obtain ⟨h0,h1⟩:=Z568 hgd
      obtain ⟨ho,x,hx,A,hr,rfl⟩:=hl
      have hxb:=hg b (by simp)
      rw [hx] at hxb
      simp only [solid,← hxb] at hsol
      have hsz':E.sz=1:=Option.some.inj hsz
      cases x with
      | var T' cells =>
       obtain ⟨blk,hbb,hA⟩:=hr
       injection hA with hA
       subst hA
       refine ⟨rfl,_,Z152 hund hEl h0 h1,.inr (by omega),_,hx,blk,hbb,?_⟩
       rw [hsz']; simp
      | row ver' t xs =>
       have hver:=Nat.eq_of_beq_eq_true hsol
       obtain ⟨hi,blk,o,hbb,hA⟩:=hr.2 hver
       injection hA with hA
       subst hA
       refine ⟨rfl,_,Z152 hund hEl h0 h1,.inr (by omega),_,hx,hr.1,fun _=>⟨hi,blk,o,hbb,?_⟩⟩
       rw [hsz']; simp [Nat.add_assoc]
      | pool ver' t xs inn =>
       have hver:=Nat.eq_of_beq_eq_true hsol
       obtain ⟨hi,blk,o,hbb,hA⟩:=hr.2 hver
       injection hA with hA
       subst hA
       refine ⟨rfl,_,Z152 hund hEl h0 h1,.inr (by omega),_,hx,hr.1,fun _=>⟨hi,blk,o,hbb,?_⟩⟩
       rw [hsz']; simp [Nat.add_assoc]
      | gone=>simp at hsol
    ·cases hs
   | _=>simp at hs
  | arr n el =>
   rw [hDs] at hds
   simp only [DsOk] at hds
   subst hds
   simp only [hDs] at hs
   have hrun:∀ {E:TyI},TyOk P el E→E.sz=1→0≤i→i < (n:Int)→∀ blk o,(Instr.indexAt T (.pointer (some ⟨blk,o,none⟩)) (.int k i)).run P w=.ok (.pointer (some ⟨blk,o+i.toNat,none⟩)) w:=by
    intro E hE h1 h0 hlt blk o
    simp [Instr.indexAt,Instr.sureAddr,asIntOf,run_underlying hund,hE.run_size,h0,hlt,Z406,h1]
   cases hE:ty el with
   | none=>cases l <;> simp [sizeT,hE] at hs <;> (split at hs <;> simp at hs)
   | some E =>
    have hEl:=hty el E hE
    cases l with
    | ref b ver ix base len dd =>
     simp only [sizeT,hE] at hs
     split at hs
     ·rename_i hz hsz
      simp only [Option.some.injEq] at hsz
      cases hsol:solid get (.ref b ver ix base 0 0) with
      | false=>simp [hsol] at hs
      | true =>
       simp only [hsol,cond_true,Option.some.injEq] at hs
       subst hs
       obtain ⟨h0,h1⟩:=Z568 hgd
       obtain ⟨ho,x,hx,hr⟩:=hl
       have hd0:dd=0:=by rcases ho with ⟨_,h⟩ | h <;> omega
       subst hd0
       have hxb:=hg b (by simp)
       rw [hx] at hxb
       simp only [solid,← hxb] at hsol
       cases x with
       | var T' cells =>
        obtain ⟨blk,hbb,rfl⟩:=hr
        exact ⟨rfl,_,hrun hEl hsz h0 h1 _ _,.inr (by omega),_,hx,blk,hbb,by simp⟩
       | row ver' t xs =>
        have hver:=Nat.eq_of_beq_eq_true hsol
        obtain ⟨hi,blk,o,hbb,rfl⟩:=hr.2 hver
        exact ⟨rfl,_,hrun hEl hsz h0 h1 _ _,.inr (by omega),_,hx,hr.1,fun _=>⟨hi,blk,o,hbb,by simp [Nat.add_assoc]⟩⟩
       | pool ver' t xs inn =>
        have hver:=Nat.eq_of_beq_eq_true hsol
        obtain ⟨hi,blk,o,hbb,rfl⟩:=hr.2 hver
        exact ⟨rfl,_,hrun hEl hsz h0 h1 _ _,.inr (by omega),_,hx,hr.1,fun _=>⟨hi,blk,o,hbb,by simp [Nat.add_assoc]⟩⟩
       | gone=>simp at hsol
     ·cases hs
    | eref bor t xs ix base len dd =>
     simp only [sizeT,hE] at hs
     split at hs
     ·rename_i hz hsz
      simp only [Option.some.injEq] at hsz hs
      subst hs
      obtain ⟨h0,h1⟩:=Z568 hgd
      obtain ⟨ho,hi,a,rfl,hrow⟩:=hl
      have hd0:dd=0:=by rcases ho with ⟨_,h⟩ | h <;> omega
      subst hd0
      exact ⟨rfl,_,hrun hEl hsz h0 h1 _ _,.inr (by omega),hi,a,by simp [Nat.add_assoc],hrow⟩
     ·cases hs
    | _=>simp at hs
  | _=>simp [hDs] at hs
theorem Z275 {lo hi len:Int} (h:Z416 lo hi len=true):0≤lo∧lo≤hi∧hi≤len:=by
 simp [Z416] at h
 exact ⟨h.1.1,h.1.2,h.2⟩
theorem Z246 (isSlice:Bool) {len cap:Nat} {lo hi:Option Int} {kl kh:IntKind} (hlc:len≤cap) (h:Z416 (lo.getD 0) (hi.getD (len:Int)) (len:Int)=true) :
  (Instr.sliceBounds isSlice len cap (lo.map (Value.int kl)) (hi.map (Value.int kh)) none).run P w=.ok ((lo.getD 0).toNat,(hi.getD (len:Int)).toNat,cap) w:=by
 obtain ⟨h0,h1,h2⟩:=Z275 h
 cases lo with
 | none =>
  cases hi with
  | none=>simp [Instr.sliceBounds,Instr.sliceBound,asIntOf]
  | some hh =>
   simp only [Option.getD_some,Option.getD_none] at h0 h1 h2
   have h3:hh≤(cap:Int):=by omega
   simp [Instr.sliceBounds,Instr.sliceBound,asIntOf,h1,h3]
 | some l =>
  cases hi with
  | none =>
   simp only [Option.getD_some,Option.getD_none] at h0 h1 h2
   simp [Instr.sliceBounds,Instr.sliceBound,asIntOf,h0,h1]
  | some hh =>
   simp only [Option.getD_some,Option.getD_none] at h0 h1 h2
   have h3:hh≤(cap:Int):=by omega
   have h4:0≤hh:=by omega
   have h5:l≤max hh 0:=by omega
   simp [Instr.sliceBounds,Instr.sliceBound,asIntOf,h0,h3,h4,h5]
theorem Z32 (isSlice:Bool) {len cap:Nat} {lo hi:Option Int} {kl kh:IntKind} (hlc:len≤cap) (h0:0≤lo.getD 0) (h1:lo.getD 0≤hi.getD (len:Int)) (h2:hi.getD (len:Int)≤(cap:Int)) :
  (Instr.sliceBounds isSlice len cap (lo.map (Value.int kl)) (hi.map (Value.int kh)) none).run P w=.ok ((lo.getD 0).toNat,(hi.getD (len:Int)).toNat,cap) w:=by
 cases lo with
 | none =>
  cases hi with
  | none=>simp [Instr.sliceBounds,Instr.sliceBound,asIntOf]
  | some hh =>
   simp only [Option.getD_some,Option.getD_none] at h0 h1 h2
   simp [Instr.sliceBounds,Instr.sliceBound,asIntOf,h1,h2]
 | some l =>
  cases hi with
  | none =>
   simp only [Option.getD_some,Option.getD_none] at h0 h1 h2
   simp [Instr.sliceBounds,Instr.sliceBound,asIntOf,h0,h1]
  | some hh =>
   simp only [Option.getD_some,Option.getD_none] at h0 h1 h2
   have h4:0≤hh:=by omega
   have h5:l≤max hh 0:=by omega
   simp [Instr.sliceBounds,Instr.sliceBound,asIntOf,h0,h2,h4,h5]
theorem Z294 (hty:TysOk P ty) (h:Inv F I β σ w) {get:Nat→Option Box} {T:TypeId} {l:Lf} {kl kh km:IntKind} {lo hi m:Int} {e:Eff} {u:Value} (hs:Z258 ty get T l lo hi m=some e) (hgd:e.g=true)
  (hg:∀ b∈e.rd,σ b=get b) (hl:RL I F.J β σ w l u) :
  e.upd=[]∧∃ u',(Instr.sliceAt T u (some (.int kl lo)) (some (.int kh hi)) (some (.int km m))).run P w=.ok u' w∧RV I F.J β σ w e.v u':=by
 unfold Z258 at hs
 cases hT:ty T with
 | none=>simp [hT] at hs
 | some TI =>
  obtain ⟨d,hund,hds,_⟩:=(hty T TI hT).desc
  simp only [hT] at hs
  split at hs
  ·rename_i el b ver hDs
   rw [hDs] at hds
   simp only [DsOk] at hds
   subst hds
   obtain ⟨x,hx,hsl⟩:=hl
   split at hs
   ·rename_i E ver' t xs hE hb
    have hEl:=hty el E hE
    cases hver:Nat.beq ver ver' with
    | false=>simp [hver] at hs
    | true =>
     simp only [hver,cond_true,Option.some.injEq] at hs
     have hver:=Nat.eq_of_beq_eq_true hver
     subst hver
     subst hs
     have hxb:σ b=some (.row ver t xs):=by rw [hg b (by simp),hb]
     rw [hx] at hxb; injection hxb with hxb; subst hxb
     rw [Bool.and_eq_true,decide_eq_true_eq] at hgd
     obtain ⟨hgb,hm⟩:=hgd
     obtain ⟨h0,h1,h2⟩:=Z275 hgb
     obtain ⟨A,c,rfl,hk⟩:=hsl.2 rfl
     have hlc:xs.length≤c:=by
      rcases hk with ⟨rfl,_⟩ | ⟨_,_,_,_,h,_⟩
      ·simp
      ·exact h
     have hmc:m≤(c:Int):=by omega
     have hm0:0≤m:=by omega
     have hh0:0≤hi:=by omega
     have hb3:(Instr.sliceBounds true xs.length c (some (.int kl lo)) (some (.int kh hi)) (some (.int km m))).run P w=.ok (lo.toNat,hi.toNat,m.toNat) w:=by
      have e1:hi≤max m 0:=by omega
      have e2:lo≤max hi 0:=by omega
      simp [Instr.sliceBounds,Instr.sliceBound,asIntOf,hmc,hm0,hh0,h0,e1,e2]
     exact ⟨rfl,.slice (if m.toNat=lo.toNat then A else A.map (·.add (lo.toNat*E.sz))) (hi.toNat - lo.toNat) (m.toNat - lo.toNat),by simp [Instr.sliceAt,Instr.slice,run_underlying hund,hb3,hEl.run_size],trivial⟩
   ·cases hs
  ·cases hs
theorem Z436 (hty:TysOk P ty) (h:Inv F I β σ w) {get:Nat→Option Box} {T:TypeId} {l:Lf} {kl kh:IntKind} {lo hi:Option Int} {e:Eff} {u:Value} (hs:Z377 ty get T l lo hi=some e) (hgd:e.g=true)
  (hg:∀ b∈e.rd,σ b=get b) (hl:RL I F.J β σ w l u) :
  e.upd=[]∧∃ u',(Instr.sliceAt T u (lo.map (Value.int kl)) (hi.map (Value.int kh)) none).run P w=.ok u' w∧RV I F.J β σ w e.v u':=by
 unfold Z377 at hs
 cases hT:ty T with
 | none=>simp [hT] at hs
 | some TI =>
  obtain ⟨d,hund,hds,_⟩:=(hty T TI hT).desc
  simp only [hT] at hs
  cases hDs:TI.ds with
  | str =>
   rw [hDs] at hds
   simp only [DsOk] at hds
   subst hds
   simp only [hDs] at hs
   cases l with
   | sc v =>
    cases v with
    | string s =>
     simp only [Option.some.injEq] at hs
     subst hs
     simp only [RL] at hl
     subst hl
     have hb:=Z246 (P:=P) (w:=w) false (len:=s.size) (cap:=s.size) (kl:=kl) (kh:=kh) (Nat.le_refl _) hgd
     refine ⟨rfl,.string (s.extract (lo.getD 0).toNat (hi.getD (s.size:Int)).toNat),?_,rfl⟩
     simp [Instr.sliceAt,Instr.slice,run_underlying hund,hb]
    | _=>simp at hs
   | _=>simp at hs
  | slice el =>
   rw [hDs] at hds
   simp only [DsOk] at hds
   subst hds
   simp only [hDs] at hs
   have hrun:∀ {E:TyI},TyOk P el E→∀ {A:Option Addr} {len cap:Nat},len≤cap→Z416 (lo.getD 0) (hi.getD (len:Int)) (len:Int)=true →
     (Instr.sliceAt T (.slice A len cap) (lo.map (Value.int kl)) (hi.map (Value.int kh)) none).run P w =
      .ok (.slice (if cap=(lo.getD 0).toNat then A else A.map (·.add ((lo.getD 0).toNat*E.sz))) ((hi.getD (len:Int)).toNat - (lo.getD 0).toNat) (cap - (lo.getD 0).toNat)) w:=by
    intro E hE A len cap hlc hok
    have hb:=Z246 (P:=P) (w:=w) true (kl:=kl) (kh:=kh) hlc hok
    simp [Instr.sliceAt,Instr.slice,run_underlying hund,hb,hE.run_size]
   have hlen:∀ {α:Type} (xs:List α),Z416 (lo.getD 0) (hi.getD (xs.length:Int)) (xs.length:Int)=true →
     ((xs.drop (lo.getD 0).toNat).take ((hi.getD (xs.length:Int)).toNat - (lo.getD 0).toNat)).length=(hi.getD (xs.length:Int)).toNat - (lo.getD 0).toNat:=by
    intro α xs hok
    obtain ⟨h0,h1,h2⟩:=Z275 hok
    simp
    omega
   cases l with
   | list bor t xs =>
    cases hE:ty el with
    | none=>simp [hE] at hs
    | some E =>
     have hEl:=hty el E hE
     simp only [hE] at hs
     split at hs
     ·rename_i ht
      simp only [Option.some.injEq] at hs
      subst hs
      obtain ⟨h0,h1,h2⟩:=Z275 hgd
      obtain ⟨A,c,rfl,hlc,hk⟩:=hl
      refine ⟨rfl,_,hrun hEl hlc hgd,?_⟩
      refine ⟨_,_,by rw [hlen xs hgd],by rw [hlen xs hgd]; omega,?_⟩
      by_cases hv:(xs.drop (lo.getD 0).toNat).take ((hi.getD (xs.length:Int)).toNat - (lo.getD 0).toNat)=[]
      ·exact .inl hv
      ·have hne:0 < (hi.getD (xs.length:Int)).toNat - (lo.getD 0).toNat:=by
        rw [← hlen xs hgd]; exact List.length_pos_iff.2 hv
       rcases hk with rfl | ⟨a,rfl,hsp,hrow⟩
       ·simp at hv
       ·refine .inr ⟨⟨a.block,a.off+(lo.getD 0).toNat*t.sz,none⟩,?_,rfl,hrow.view _ _⟩
        rw [if_neg (by omega)]
        have ha:a=⟨a.block,a.off,none⟩:=by cases a; simp_all
        rw [ha,← ht,hEl.size]
        simp [Z406]
     ·cases hs
   | slice b ver rng =>
    cases rng with
    | some p =>
     obtain ⟨off,n⟩:=p
     cases hE:ty el with
     | none=>simp [hE] at hs
     | some E =>
      have hEl:=hty el E hE
      simp only [hE] at hs
      obtain ⟨x,hx,hsl⟩:=hl
      cases hb:get b with
      | none=>simp [hb] at hs
      | some y =>
       cases y with
       | row ver' t xs =>
        simp only [hb] at hs
        cases hver:Nat.beq ver ver' with
        | false=>simp [hver] at hs
        | true =>
         simp only [hver,cond_true] at hs
         have hver:=Nat.eq_of_beq_eq_true hver
         subst hver
         split at hs
         ·rename_i ht
          simp only [Option.some.injEq] at hs
          subst hs
          have hxb:σ b=some (.row ver t xs):=by rw [hg b (by simp),hb]
          rw [hx] at hxb; injection hxb with hxb; subst hxb
          obtain ⟨A,c,rfl,hlc,_,hxc,hk⟩:=hsl.2 rfl
          have hvl:((xs.drop off).take n).length≤xs.length - off:=by simp; omega
          generalize ((xs.drop off).take n).length=vl at hlc hvl hgd ⊢
          obtain ⟨h0,h1,h2⟩:=Z275 hgd
          have hb2:=Z32 (P:=P) (w:=w) true (len:=vl) (cap:=c) (kl:=kl) (kh:=kh) hlc (lo:=lo) (hi:=hi) h0 h1 (by omega)
          have hle:(lo.getD 0).toNat≤c:=by omega
          have hlen2:((xs.drop (off+(lo.getD 0).toNat)).take ((hi.getD (vl:Int)).toNat - (lo.getD 0).toNat)).length=(hi.getD (vl:Int)).toNat - (lo.getD 0).toNat:=by
           simp; omega
          refine ⟨rfl,.slice (if c=(lo.getD 0).toNat then A else A.map (·.add ((lo.getD 0).toNat*E.sz))) ((hi.getD (vl:Int)).toNat - (lo.getD 0).toNat) (c - (lo.getD 0).toNat),?_,.row ver t xs,hx,Nat.le_refl _,fun _=>⟨_,_,by rw [hlen2],by rw [hlen2]; omega,?_⟩⟩
          ·simp [Instr.sliceAt,Instr.slice,run_underlying hund,hb2,hEl.run_size]
          ·have hmain:c - (lo.getD 0).toNat=0∨∃ blk o,β b=some (blk,o)∧(if c=(lo.getD 0).toNat then A else A.map (·.add ((lo.getD 0).toNat*E.sz)))=some ⟨blk,o+(off+(lo.getD 0).toNat)*t.sz,none⟩∧Cap w blk (o+(off+(lo.getD 0).toNat+(c - (lo.getD 0).toNat))*t.sz):=by
            rcases hk with hk | ⟨blk,o,hbb,rfl,hcap⟩
            ·exact .inl (by omega)
            ·by_cases he:c=(lo.getD 0).toNat
             ·exact .inl (by omega)
             ·refine .inr ⟨blk,o,hbb,?_,?_⟩
              ·rw [if_neg he,← ht,hEl.size]
               simp [Z406,Nat.add_mul,Nat.add_assoc]
              ·rw [show off+(lo.getD 0).toNat+(c - (lo.getD 0).toNat)=off+c by omega]; exact hcap
           refine ⟨?_,by omega,hmain⟩
           rcases hmain with hm | ⟨blk,o,g1,g2,_⟩
           ·refine .inl (List.length_eq_zero_iff.1 ?_)
            rw [hlen2]; omega
           ·exact .inr ⟨blk,o,g1,g2⟩
         ·cases hs
       | _=>simp [hb] at hs
    | none =>
    cases hE:ty el with
    | none=>simp [hE] at hs
    | some E =>
     have hEl:=hty el E hE
     simp only [hE] at hs
     obtain ⟨x,hx,hsl⟩:=hl
     cases hb:get b with
     | none=>simp [hb] at hs
     | some y =>
      cases y with
      | row ver' t xs =>
       simp only [hb] at hs
       cases hver:Nat.beq ver ver' with
       | false=>simp [hver] at hs
       | true =>
        simp only [hver,cond_true] at hs
        have hver:=Nat.eq_of_beq_eq_true hver
        subst hver
        split at hs
        ·rename_i ht
         simp only [Option.some.injEq] at hs
         subst hs
         obtain ⟨h0,h1,h2⟩:=Z275 hgd
         have hxb:σ b=some (.row ver t xs):=by rw [hg b (by simp),hb]
         rw [hx] at hxb; injection hxb with hxb; subst hxb
         obtain ⟨A,c,rfl,hk⟩:=hsl.2 rfl
         have hlc:xs.length≤c:=by
          rcases hk with ⟨rfl,_⟩ | ⟨_,_,_,_,h,_⟩
          ·simp
          ·exact h
         refine ⟨rfl,_,hrun hEl hlc hgd,.row ver t xs,hx,Nat.le_refl _,fun _=>⟨_,_,by rw [hlen xs hgd],by rw [hlen xs hgd]; omega,?_⟩⟩
         have hmain:c - (lo.getD 0).toNat=0∨∃ blk o,β b=some (blk,o)∧(if c=(lo.getD 0).toNat then A else A.map (·.add ((lo.getD 0).toNat*E.sz)))=some ⟨blk,o+(lo.getD 0).toNat*t.sz,none⟩∧Cap w blk (o+((lo.getD 0).toNat+(c - (lo.getD 0).toNat))*t.sz):=by
          rcases hk with ⟨rfl,hc0⟩ | ⟨blk,o,hbb,rfl,_,hcap⟩
          ·exact .inl (by omega)
          ·by_cases he:c=(lo.getD 0).toNat
           ·exact .inl (by omega)
           ·refine .inr ⟨blk,o,hbb,?_,?_⟩
            ·rw [if_neg he,← ht,hEl.size]
             simp [Z406]
            ·rw [show (lo.getD 0).toNat+(c - (lo.getD 0).toNat)=c by omega]; exact hcap
         refine ⟨?_,by omega,hmain⟩
         rcases hmain with hm | ⟨blk,o,g1,g2,_⟩
         ·refine .inl (List.length_eq_zero_iff.1 ?_)
          rw [hlen xs hgd]; omega
         ·exact .inr ⟨blk,o,g1,g2⟩
        ·cases hs
      | _=>simp [hb] at hs
   | _=>simp at hs
  | arr n el =>
   rw [hDs] at hds
   simp only [DsOk] at hds
   subst hds
   simp only [hDs] at hs
   cases l with
   | ref b ver ix base len dd =>
    simp only [sizeT] at hs
    cases hE:ty el with
    | none=>simp [hE] at hs
    | some E =>
    have hEl:=hty el E hE
    simp only [hE] at hs
    split at hs
    ·rename_i hz hsz
     cases hsol:solid get (.ref b ver ix base 0 0) with
     | false=>simp [hsol] at hs
     | true =>
      simp only [hsol,cond_true,Option.some.injEq] at hs
      subst hs
      obtain ⟨h0,h1,h2⟩:=Z275 hgd
      obtain ⟨ho,x,hx,hr⟩:=hl
      have hd0:dd=0:=by rcases ho with ⟨_,h⟩ | h <;> omega
      subst hd0
      have hxb:=hg b (by simp)
      rw [hx] at hxb
      simp only [solid,← hxb] at hsol
      have hb:=Z246 (P:=P) (w:=w) false (len:=n) (cap:=n) (lo:=none) (hi:=hi) (kl:=kl) (kh:=kh) (Nat.le_refl _) hgd
      have hA:∃ a,u=.pointer (some a)∧a.spot=none:=by
       cases x with
       | var T' cells=>obtain ⟨blk,_,hu⟩:=hr; exact ⟨_,hu,rfl⟩
       | row ver' t xs=>obtain ⟨_,blk,o,_,hu⟩:=hr.2 (Nat.eq_of_beq_eq_true hsol); exact ⟨_,hu,rfl⟩
       | pool ver' t xs inn=>obtain ⟨_,blk,o,_,hu⟩:=hr.2 (Nat.eq_of_beq_eq_true hsol); exact ⟨_,hu,rfl⟩
       | gone=>simp at hsol
      obtain ⟨a,rfl,hsp⟩:=hA
      have ha:a=⟨a.block,a.off,none⟩:=by cases a; simp_all
      have hadd:a.add (0*E.sz)=a:=by rw [ha,Z406]; simp
      refine ⟨rfl,.slice (some a) (hi.getD (n:Int)).toNat n,?_,by omega,x,hx,some a,hr,rfl⟩
      have hb':(Instr.sliceBounds false n n none (hi.map (Value.int kh)) none).run P w=.ok (0,(hi.getD (n:Int)).toNat,n) w:=hb
      have hite:(if n=0 then a else a.add (0*E.sz))=a:=by rw [hadd]; split <;> rfl
      rw [ha] at hite ⊢
      simp [Instr.sliceAt,Instr.sureAddr,run_underlying hund,hEl.run_size,hb',hite]
      simpa using hite
    ·cases hs
   | _=>simp at hs
  | _=>simp [hDs] at hs
end
end Go.Abs
