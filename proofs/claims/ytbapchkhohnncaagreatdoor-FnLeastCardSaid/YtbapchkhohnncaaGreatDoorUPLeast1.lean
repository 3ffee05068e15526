import Derived.Test.YtbapchkhohnncaaGreatDoorLib
import Derived.Test.YtbapchkhohnncaaGreatDoorTrod
import Derived.Test.YtbapchkhohnncaaGreatDoorDPLeast0
import Derived.Test.YtbapchkhohnncaaGreatDoorUPLeast0
import Derived.Lib.IndexBytes
import Derived.Lib.IndexMore
import Derived.Lib.SplitLaws
set_option linter.unusedSimpArgs false
set_option linter.unusedSectionVars false
set_option linter.unusedVariables false
namespace Go.Abs
def sP (a b:Ob→Int) (l:List Ob):Int:=sumL (l.map fun o=>o.2.2*(a o*b o))
def gM (a b c d:Ob→Int) (l:List Ob):Int:=sP a c l*sP b d l - sP a d l*sP b c l
def kM (a b c d:Ob→Int) (o:Ob) (l:List Ob):Int:=sumL (l.map fun i=>i.2.2*((a o*b i - a i*b o)*(c o*d i - c i*d o)))
theorem Z709 (a b:Ob→Int) (o:Ob) (l:List Ob):sP a b (o :: l)=o.2.2*(a o*b o)+sP a b l:=rfl
theorem kM_is (a b c d:Ob→Int) (o:Ob):∀ l:List Ob,kM a b c d o l=a o*c o*sP b d l - a o*d o*sP b c l - b o*c o*sP a d l+b o*d o*sP a c l
 | []=>by simp [kM,sP,sumL]
 | i :: r=>by
  have ih:=kM_is a b c d o r
  rw [Z709,Z709,Z709,Z709]
  show i.2.2*((a o*b i - a i*b o)*(c o*d i - c i*d o))+kM a b c d o r=_
  rw [ih]
  grind
theorem Z625 (a b c d:Ob→Int) (o:Ob) (l:List Ob):gM a b c d (o :: l)=gM a b c d l+o.2.2*kM a b c d o l:=by
 unfold gM
 rw [kM_is,Z709,Z709,Z709,Z709]
 grind
theorem sq_nn (x:Int):0≤x*x:=by
 rcases Int.le_total 0 x with h | h
 ·exact Int.mul_nonneg h h
 ·have:=Int.mul_nonneg (show 0≤-x by omega) (show 0≤-x by omega)
  grind
theorem kM_mix (a b c d:Ob→Int) (o:Ob):∀ l:List Ob,(∀ i∈l,0≤i.2.2)→2*kM a b c d o l≤kM a b a b o l+kM c d c d o l∧-(kM a b a b o l+kM c d c d o l)≤2*kM a b c d o l
 | [],h=>by simp [kM,sumL]
 | i :: r,h=>by
  obtain ⟨h1,h2⟩:=kM_mix a b c d o r fun j hj=>h j (by simp [hj])
  have hw:=h i (by simp)
  have e:∀ a b c d:Ob→Int,kM a b c d o (i :: r)=i.2.2*((a o*b i - a i*b o)*(c o*d i - c i*d o))+kM a b c d o r:=fun _ _ _ _=>rfl
  rw [e,e,e]
  generalize a o*b i - a i*b o=x
  generalize c o*d i - c i*d o=y
  have p1:=Int.mul_nonneg hw (sq_nn (x - y))
  have p2:=Int.mul_nonneg hw (sq_nn (x+y))
  have e1:i.2.2*((x - y)*(x - y))=i.2.2*(x*x)+i.2.2*(y*y) - 2*(i.2.2*(x*y)):=by grind
  have e2:i.2.2*((x+y)*(x+y))=i.2.2*(x*x)+i.2.2*(y*y)+2*(i.2.2*(x*y)):=by grind
  omega
theorem gM_mix (a b c d:Ob→Int):∀ l:List Ob,(∀ i∈l,0≤i.2.2)→2*gM a b c d l≤gM a b a b l+gM c d c d l∧-(gM a b a b l+gM c d c d l)≤2*gM a b c d l
 | [],h=>by simp [gM,sP,sumL]
 | o :: r,h=>by
  obtain ⟨h1,h2⟩:=gM_mix a b c d r fun j hj=>h j (by simp [hj])
  obtain ⟨k1,k2⟩:=kM_mix a b c d o r fun j hj=>h j (by simp [hj])
  have hw:=h o (by simp)
  rw [Z625,Z625,Z625]
  have p1:=Int.mul_le_mul_of_nonneg_left k1 hw
  have p2:=Int.mul_le_mul_of_nonneg_left k2 hw
  have e1:o.2.2*(2*kM a b c d o r)=2*(o.2.2*kM a b c d o r):=by grind
  have e2:o.2.2*(kM a b a b o r+kM c d c d o r)=o.2.2*kM a b a b o r+o.2.2*kM c d c d o r:=by grind
  have e3:o.2.2*-(kM a b a b o r+kM c d c d o r)=-(o.2.2*kM a b a b o r+o.2.2*kM c d c d o r):=by grind
  rw [e1,e2] at p1
  rw [e1,e3] at p2
  omega
theorem Z640 (a b:Ob→Int) (o:Ob):∀ l:List Ob,(∀ i∈l,1≤i.2.2∧i.2.2≤3)→(∀ i∈l,-9≤a o*b i - a i*b o∧a o*b i - a i*b o≤9)→0≤kM a b a b o l∧kM a b a b o l≤243*(l.length:Int)
 | [],_,_=>by simp [kM,sumL]
 | i :: r,h,hm=>by
  obtain ⟨h1,h2⟩:=Z640 a b o r (fun j hj=>h j (by simp [hj])) fun j hj=>hm j (by simp [hj])
  have hw:=h i (by simp)
  have hx:=hm i (by simp)
  show 0≤i.2.2*((a o*b i - a i*b o)*(a o*b i - a i*b o))+kM a b a b o r∧i.2.2*((a o*b i - a i*b o)*(a o*b i - a i*b o))+kM a b a b o r≤_
  have s0:=sq_nn (a o*b i - a i*b o)
  have s1:=(mul_bd hx hx).2
  have p:=Z224 (a:=i.2.2) (A:=3) (by omega) (show 0≤(a o*b i - a i*b o)*(a o*b i - a i*b o)∧(a o*b i - a i*b o)*(a o*b i - a i*b o)≤81 by omega)
  rw [List.length_cons]
  push_cast
  omega
theorem Z626 (a b:Ob→Int):∀ l:List Ob,(∀ i∈l,1≤i.2.2∧i.2.2≤3)→(∀ o∈l,∀ i∈l,-9≤a o*b i - a i*b o∧a o*b i - a i*b o≤9)→l.length≤7→0≤gM a b a b l∧gM a b a b l≤15309:=by
 have key:∀ l:List Ob,(∀ i∈l,1≤i.2.2∧i.2.2≤3)→(∀ o∈l,∀ i∈l,-9≤a o*b i - a i*b o∧a o*b i - a i*b o≤9)→0≤gM a b a b l∧2*gM a b a b l≤729*((l.length:Int)*((l.length:Int) - 1)):=by
  intro l
  induction l with
  | nil=>intro _ _; simp [gM,sP,sumL]
  | cons o r ih =>
   intro h hm
   obtain ⟨h1,h2⟩:=ih (fun j hj=>h j (by simp [hj])) fun p hp j hj=>hm p (by simp [hp]) j (by simp [hj])
   obtain ⟨k1,k2⟩:=Z640 a b o r (fun j hj=>h j (by simp [hj])) fun j hj=>hm o (by simp) j (by simp [hj])
   have hw:=h o (by simp)
   have p:=Z224 (a:=o.2.2) (A:=3) (by omega) ⟨k1,k2⟩
   rw [Z625,List.length_cons]
   have e:(((r.length+1:Nat):Int))*(((r.length+1:Nat):Int) - 1)=(r.length:Int)*((r.length:Int) - 1)+2*(r.length:Int):=by push_cast; grind
   rw [e]
   omega
 intro l h hm hl
 obtain ⟨h1,h2⟩:=key l h hm
 have p:=Z224 (a:=(l.length:Int)) (b:=(l.length:Int)) (A:=7) (B:=7) (by omega) (by omega)
 have e:(l.length:Int)*((l.length:Int) - 1)=(l.length:Int)*(l.length:Int) - (l.length:Int):=by grind
 have hh:(l.length:Int)*((l.length:Int) - 1)≤42:=by
  have:l.length=0∨l.length=1∨l.length=2∨l.length=3∨l.length=4∨l.length=5∨l.length=6∨l.length=7:=by omega
  rcases this with h | h | h | h | h | h | h | h <;> rw [h] <;> decide
 omega
theorem sP_bd (a b:Ob→Int) (M:Int):∀ l:List Ob,(∀ i∈l,1≤i.2.2∧i.2.2≤3)→(∀ i∈l,-M≤a i*b i∧a i*b i≤M)→-(3*M*(l.length:Int))≤sP a b l∧sP a b l≤3*M*(l.length:Int)
 | [],_,_=>by simp [sP,sumL]
 | i :: r,h,hm=>by
  obtain ⟨h1,h2⟩:=sP_bd a b M r (fun j hj=>h j (by simp [hj])) fun j hj=>hm j (by simp [hj])
  have hw:=h i (by simp)
  have p:=mul_bd (a:=i.2.2) (A:=3) (by omega) (hm i (by simp))
  rw [Z709,List.length_cons]
  have e:3*M*((r.length+1:Nat):Int)=3*M*(r.length:Int)+3*M:=by push_cast; grind
  rw [e]
  omega
theorem gM_13 (a b:Ob→Int) (l:List Ob) (h:∀ i∈l,1≤i.2.2∧i.2.2≤3) (hm:∀ i∈l,a i*a i+b i*b i≤13) (hl:l.length≤7):gM a b a b l≤18632:=by
 have key:∀ l:List Ob,(∀ i∈l,1≤i.2.2∧i.2.2≤3)→(∀ i∈l,a i*a i+b i*b i≤13)→0≤sP a a l∧0≤sP b b l∧sP a a l+sP b b l≤39*(l.length:Int):=by
  intro l
  induction l with
  | nil=>intro _ _; simp [sP,sumL]
  | cons i r ih =>
   intro h hm
   obtain ⟨h1,h2,h3⟩:=ih (fun j hj=>h j (by simp [hj])) fun j hj=>hm j (by simp [hj])
   have hw:=h i (by simp)
   have hx:=hm i (by simp)
   have s1:=sq_nn (a i)
   have s2:=sq_nn (b i)
   have p1:=Int.mul_nonneg (show 0≤i.2.2 by omega) s1
   have p2:=Int.mul_nonneg (show 0≤i.2.2 by omega) s2
   have p:=Z224 (a:=i.2.2) (A:=3) (by omega) (show 0≤a i*a i+b i*b i∧a i*a i+b i*b i≤13 by omega)
   have e:i.2.2*(a i*a i+b i*b i)=i.2.2*(a i*a i)+i.2.2*(b i*b i):=by grind
   rw [e] at p
   rw [Z709,Z709,List.length_cons]
   push_cast
   omega
 obtain ⟨h1,h2,h3⟩:=key l h hm
 unfold gM
 have s:=sq_nn (sP a a l - sP b b l)
 have s2:=sq_nn (sP a b l)
 have hc:sP b a l=sP a b l:=by
  unfold sP
  congr 1
  refine List.map_congr_left fun o _=>?_
  grind
 rw [hc]
 have hq:=Z224 (a:=sP a a l+sP b b l) (b:=sP a a l+sP b b l) (A:=273) (B:=273) (by omega) (by omega)
 have e:(sP a a l+sP b b l)*(sP a a l+sP b b l)=(sP a a l - sP b b l)*(sP a a l - sP b b l)+4*(sP a a l*sP b b l):=by grind
 rw [e] at hq
 omega
theorem fin4 {x:Int} (h:-1≤x∧x≤2):∃ k:Fin 4,x=(k.val:Int) - 1:=⟨⟨(x+1).toNat,by omega⟩,by simp only; omega⟩
theorem Z492:∀ x y z u v w:Fin 4,(-9≤((x.val:Int) - z.val)*((v.val:Int) - w.val) - ((u.val:Int) - w.val)*((y.val:Int) - z.val))∧(((x.val:Int) - z.val)*((v.val:Int) - w.val) - ((u.val:Int) - w.val)*((y.val:Int) - z.val)≤9):=by decide +kernel
theorem Z667 {x y z u v w:Int} (hx:-1≤x∧x≤2) (hy:-1≤y∧y≤2) (hz:-1≤z∧z≤2) (hu:-1≤u∧u≤2) (hv:-1≤v∧v≤2) (hw:-1≤w∧w≤2) :
  -9≤(x - z)*(v - w) - (u - w)*(y - z)∧(x - z)*(v - w) - (u - w)*(y - z)≤9:=by
 obtain ⟨x,rfl⟩:=fin4 hx
 obtain ⟨y,rfl⟩:=fin4 hy
 obtain ⟨z,rfl⟩:=fin4 hz
 obtain ⟨u,rfl⟩:=fin4 hu
 obtain ⟨v,rfl⟩:=fin4 hv
 obtain ⟨w,rfl⟩:=fin4 hw
 have:=Z492 x y z u v w
 have e:∀ a b:Fin 4,((a.val:Int) - 1) - ((b.val:Int) - 1)=(a.val:Int) - b.val:=fun a b=>by omega
 rw [e,e,e,e]
 exact this
theorem Z102:∀ x y z u:Fin 4,(x.val=2∨y.val=2∨z.val=2∨u.val=2)→((x.val:Int) - y.val)*((x.val:Int) - y.val)+((z.val:Int) - u.val)*((z.val:Int) - u.val)≤13:=by decide +kernel
theorem Z166 {x y z u:Int} (hx:-1≤x∧x≤2) (hy:-1≤y∧y≤2) (hz:-1≤z∧z≤2) (hu:-1≤u∧u≤2) (h:x=1∨y=1∨z=1∨u=1):(x - y)*(x - y)+(z - u)*(z - u)≤13:=by
 obtain ⟨x,rfl⟩:=fin4 hx
 obtain ⟨y,rfl⟩:=fin4 hy
 obtain ⟨z,rfl⟩:=fin4 hz
 obtain ⟨u,rfl⟩:=fin4 hu
 have:=Z102 x y z u (by omega)
 have e:∀ a b:Fin 4,((a.val:Int) - 1) - ((b.val:Int) - 1)=(a.val:Int) - b.val:=fun a b=>by omega
 rw [e,e]
 exact this
end Go.Abs
namespace Go.Abs
theorem Z331 {p q:Int} (hq:1≤q∧q≤1000000000) (hp:-1000000000≤p∧p≤1000000000) :
  ∃ g a,mkF p q=some a∧vF a=true∧1≤g∧p=g*a.1∧q=g*a.2:=by
 have hg:=Z627 (p:=p) (q:=q) (by omega)
 have hd1:((Int.gcd p q:Nat):Int) ∣ p:=Int.gcd_dvd_left ..
 have hd2:((Int.gcd p q:Nat):Int) ∣ q:=Int.gcd_dvd_right ..
 have e:redP p q=(p.tdiv ((Int.gcd p q:Nat):Int),q.tdiv ((Int.gcd p q:Nat):Int)):=by
  unfold redP
  rw [dec_f (by omega)]
  rfl
 have e1:((Int.gcd p q:Nat):Int)*p.tdiv ((Int.gcd p q:Nat):Int)=p:=Int.mul_tdiv_cancel' hd1
 have e2:((Int.gcd p q:Nat):Int)*q.tdiv ((Int.gcd p q:Nat):Int)=q:=Int.mul_tdiv_cancel' hd2
 have b1:=Z38 p ((Int.gcd p q:Nat):Int)
 have b2:=Z38 q ((Int.gcd p q:Nat):Int)
 have b3:0≤q.tdiv ((Int.gcd p q:Nat):Int):=Int.tdiv_nonneg (by omega) (by omega)
 have b4:q.tdiv ((Int.gcd p q:Nat):Int)≠0:=by
  intro h
  rw [h,Int.mul_zero] at e2
  omega
 have hv:vF (redP p q)=true:=by
  rw [e]
  unfold vF
  rw [Bool.and_eq_true,Bool.and_eq_true,Z580,Z580]
  refine ⟨by simp only; omega,by simp only; omega,?_⟩
  have hgc:Int.gcd (p.tdiv ((Int.gcd p q:Nat):Int)) (q.tdiv ((Int.gcd p q:Nat):Int))=1:=by
   rw [Int.tdiv_eq_ediv_of_dvd hd1,Int.tdiv_eq_ediv_of_dvd hd2]
   exact Int.gcd_ediv_gcd_ediv_gcd (by omega)
  simp only [hgc]
  rfl
 refine ⟨((Int.gcd p q:Nat):Int),redP p q,?_,hv,by omega,?_,?_⟩
 ·unfold mkF
  rw [hv]
  rfl
 ·rw [e]; exact e1.symm
 ·rw [e]; exact e2.symm
end Go.Abs
namespace Go.Abs
abbrev Src:Type:=List Int×(Int×Int)
structure SrcAt (s:Src) (b:Int):Prop where
 byte:∀ y∈s.1,0≤y∧y≤255
 len:s.1.length≤1000000000
 at0:0≤s.2.1
 at1:s.2.1≤b
theorem SrcAt.mono {s:Src} {b c:Int} (h:SrcAt s b) (hbc:b≤c):SrcAt s c:=⟨h.byte,h.len,h.at0,Int.le_trans h.at1 hbc⟩
theorem and255 (a:Int):0≤andInt .u64 a 255∧andInt .u64 a 255≤255:=by
 unfold andInt
 have h:(BitVec.ofInt IntKind.u64.bits a &&& BitVec.ofInt IntKind.u64.bits 255).toNat≤255:=by
  rw [BitVec.toNat_and]
  exact Nat.le_trans Nat.and_le_right (by decide)
 generalize (BitVec.ofInt IntKind.u64.bits a &&& BitVec.ofInt IntKind.u64.bits 255).toNat=n at h
 rw [show IntKind.wrap .u64 ((n:Nat):Int)=(n:Int) by rw [show IntKind.wrap .u64 (n:Int)=(n:Int) % 18446744073709551616 from rfl]; omega]
 omega
theorem Z730 (a:Int):0≤IntKind.wrap .i64 (andInt .u64 a 255)∧IntKind.wrap .i64 (andInt .u64 a 255)≤255:=by
 have h:=and255 a
 rw [w_in (by unfold I64; omega)]
 exact h
theorem Z532 {s:Src} {b:Int} (h:SrcAt s b) (hb:b≤1000000000000):∃ x s',C107 N0 s=c1 x s'∧(0≤x∧x≤255)∧SrcAt s' (b+1):=by
 have h0:=h.at0
 have h1:=h.at1
 have hw:IntKind.wrap .i64 (s.2.1+1)=s.2.1+1:=w_in (by unfold I64; omega)
 have hat (q:Int):SrcAt (s.1,(s.2.1+1,q)) (b+1):=⟨h.byte,h.len,by simp only; omega,by simp only; omega⟩
 simp only [C107,C107_t,hw]
 by_cases hl:s.2.1 < (s.1.length:Int)
 ·have hn:s.2.1.toNat < s.1.length:=by omega
  have hy:=h.byte _ (List.getElem_mem hn)
  rw [dec_t hl,dec_t h0,Bool.and_self,cond_true,cond_true,get_ix hn,w_in (x:=s.1[s.2.1.toNat]) (by unfold I64; omega)]
  cases decide (s.2.1+1≤(s.1.length:Int)) with
  | true=>exact ⟨_,_,rfl,hy,hat _⟩
  | false=>exact ⟨_,_,rfl,Z730 _,hat _⟩
 ·rw [dec_f hl,cond_false]
  cases decide (s.2.1+1≤(s.1.length:Int)) with
  | true=>exact ⟨_,_,rfl,by omega,hat _⟩
  | false=>exact ⟨_,_,rfl,Z730 _,hat _⟩
theorem Z533 {s:Src} {b:Int} (h:SrcAt s b) (hb:b≤100000000000) {n:Int} (hn:1≤n∧n≤65536):∃ x s',C108 N0 n s=c1 x s'∧(0≤x∧x < n)∧SrcAt s' (b+2):=by
 simp only [C108,C108_t,pr_eta]
 by_cases h1:n≤1
 ·rw [dec_t h1,cond_true]
  exact ⟨_,_,rfl,by omega,h.mono (by omega)⟩
 ·obtain ⟨x,s1,e1,hx,k1⟩:=Z532 h (by omega)
  rw [dec_f h1,cond_false,e1,Option.bind_some]
  dsimp only
  by_cases h2:n > 200
  ·obtain ⟨y,s2,e2,hy,k2⟩:=Z532 k1 (by omega)
   rw [dec_t h2,cond_true,e2,Option.bind_some,Z665 (a:=n) (b:=0) (by omega),cond_true]
   dsimp only
   rw [w_in (x:=x*256) (by unfold I64; omega),w_in (x:=x*256+y) (by unfold I64; omega)]
   exact ⟨_,_,rfl,⟨Int.tmod_nonneg _ (by omega),Int.tmod_lt_of_pos _ (by omega)⟩,k2.mono (by omega)⟩
  ·rw [dec_f h2,cond_false,Z665 (a:=n) (b:=0) (by omega),cond_true]
   exact ⟨_,_,rfl,⟨Int.tmod_nonneg _ (by omega),Int.tmod_lt_of_pos _ (by omega)⟩,k1.mono (by omega)⟩
theorem Z715 {s:Src} {b:Int} (h:SrcAt s b) (hb:b≤100000000000) {n:Int} (hn:1≤n∧n≤65536):∃ x s',C144 N0 n s=c1 x s'∧SrcAt s' (b+2):=by
 obtain ⟨x,s1,e1,hx,k1⟩:=Z533 h hb hn
 simp only [C144,C144_t,pr_eta,e1,Option.bind_some]
 exact ⟨_,_,rfl,k1⟩
theorem Z375 {s:Src} {b:Int} (h:SrcAt s b) (hb:b≤100000000000) {l:List Int} (hl:1≤l.length∧l.length≤65536) :
  ∃ x s',C81 N0 s l=some (((x,()),()),(s',(l,())))∧x∈l∧SrcAt s' (b+2):=by
 obtain ⟨x,s1,e1,hx,k1⟩:=Z533 (n:=(l.length:Int)) h hb (by omega)
 simp only [C81,C81_t,pr_eta,e1,Option.bind_some]
 have hn:x.toNat < l.length:=by omega
 rw [dec_t hx.1,dec_t hx.2,Bool.and_self,cond_true,get_ix hn]
 exact ⟨_,_,rfl,List.getElem_mem hn,k1⟩
theorem Z531 (code:List Int) (h:∀ y∈code,0≤y∧y≤255) (hl:code.length≤1000000000):C329 N0 code=r1 (code,(0,0))∧SrcAt (code,(0,0)) 0 :=
 ⟨rfl,h,hl,Int.le_refl 0,Int.le_refl 0⟩
theorem wf_u8 {n:Int} (h:WfD (.int .u8) n):0≤n∧n≤255:=by
 have h:(Lit.int .u8 n).wf=true:=h
 simp only [Lit.wf,Bool.and_eq_true,decide_eq_true_eq] at h
 have h1:IntKind.min .u8=0:=rfl
 have h2:IntKind.max .u8=255:=rfl
 omega
theorem Z595 {code:List Int} (h:WfD (.list (.int .u8)) code):∀ y∈code,0≤y∧y≤255:=fun y hy=>wf_u8 (h.2 y hy)
end Go.Abs
namespace Go.Abs
theorem Z524 {c P Q:Int} (hc:0 < c) (hQ:0 < Q):redP (c*P) (c*Q)=redP P Q:=by
 have hg:((Int.gcd (c*P) (c*Q):Nat):Int)=c*((Int.gcd P Q:Nat):Int):=by
  rw [Int.gcd_mul_left,Int.natCast_mul]
  congr 1
  omega
 rw [Z155 (Int.mul_pos hc hQ),Z155 hQ,hg,Int.mul_tdiv_mul_of_pos _ _ hc,Int.mul_tdiv_mul_of_pos _ _ hc]
theorem Z707 {P Q P' Q':Int} (hQ:0 < Q) (hQ':0 < Q') (h:P*Q'=P'*Q):mkF P Q=mkF P' Q':=by
 unfold mkF
 rw [← Z524 (c:=Q') hQ' hQ,← Z524 (P:=P') (c:=Q) hQ hQ',Int.mul_comm Q' P,h,Int.mul_comm P' Q,Int.mul_comm Q' Q]
abbrev q4 (z:Int):Fq:=val (mkF z 4)
abbrev Q4 (z:Int):Prop:=-100000000≤z∧z≤100000000
theorem q4_is {z:Int} (h:Q4 z):mkF z 4=some (q4 z)∧vF (q4 z)=true:=by
 obtain ⟨g,a,e,v,_⟩:=Z331 (p:=z) (q:=4) (by omega) (by omega)
 unfold q4
 rw [e]
 exact ⟨rfl,v⟩
theorem q4_val {z:Int} (h:Q4 z):z*(q4 z).2=(q4 z).1*4:=Z523 (by omega) (q4_is h).1
theorem q4_of {z:Int} (h:Q4 z) {P Q:Int} (hQ:0 < Q) (e:P*4=z*Q):mkF P Q=some (q4 z):=by
 rw [Z707 hQ (by omega) e]
 exact (q4_is h).1
theorem q4_bd {z:Int} (h:Q4 z):Bd (q4 z):=Bd.of (q4_is h).2
theorem q4_add {x y:Int} (hx:Q4 x) (hy:Q4 y) (hz:Q4 (x+y)):fadd (q4 x) (q4 y)=some (q4 (x+y)):=by
 have e1:=q4_val hx
 have e2:=q4_val hy
 refine q4_of hz (by have:=bd_qq (q4_bd hx) (q4_bd hy); omega) ?_
 generalize q4 x=a at *
 generalize q4 y=b at *
 grind
theorem q4_mul {w x:Int} (hx:Q4 x) (hz:Q4 (w*x)):fmul (w,1) (q4 x)=some (q4 (w*x)):=by
 have e1:=q4_val hx
 have b:=(q4_bd hx).1
 unfold fmul
 refine q4_of hz (by simp only; omega) ?_
 generalize q4 x=a at *
 simp only
 grind
theorem Z689:q4 0=(0,1):=by
 have h:Q4 0:=by omega
 have:=q4_of h (P:=0) (Q:=1) (by omega) (by omega)
 have e:mkF 0 1=some (0,1):=by decide
 rw [e] at this
 exact (Option.some.inj this).symm
theorem Z528 {s:Src} {b:Int} (h:SrcAt s b) (hb:b≤90000000000):∃ z s',C289 N0 s=c1 (q4 z) s'∧(-80≤z∧z≤80)∧SrcAt s' (b+4):=by
 obtain ⟨x,s1,e1,hx,k1⟩:=Z533 h (by omega) (n:=41) (by omega)
 obtain ⟨q,s2,e2,hq,k2⟩:=Z375 k1 (by omega) (l:=[1,1,2,4]) (by simp)
 have hq:q=1∨q=2∨q=4:=by
  simp only [List.mem_cons,List.not_mem_nil,or_false] at hq
  omega
 simp only [C289,C289_t,pr_eta,e1,Option.bind_some,e2]
 rw [w_in (by unfold I64; omega),C146_is (by unfold small; omega) (by unfold small; omega) (by omega),Option.bind_some]
 dsimp only
 have:∃ z,(-80≤z∧z≤80)∧(x - 20)*4=z*q:=by
  rcases hq with rfl | rfl | rfl
  ·exact ⟨4*(x - 20),by omega,by omega⟩
  ·exact ⟨2*(x - 20),by omega,by omega⟩
  ·exact ⟨x - 20,by omega,by omega⟩
 obtain ⟨z,hz,e⟩:=this
 rw [q4_of (z:=z) (by unfold Q4; omega) (by omega) e]
 exact ⟨z,s2,rfl,hz,k2.mono (by omega)⟩
def st6 (a:A6) (j:Nat) (x:Int):A6:=(cond (Nat.beq j 0) x a.1,(cond (Nat.beq j 1) x a.2.1,(cond (Nat.beq j 2) x a.2.2.1,(cond (Nat.beq j 3) x a.2.2.2.1,(cond (Nat.beq j 4) x a.2.2.2.2.1,cond (Nat.beq j 5) x a.2.2.2.2.2)))))
theorem at_st6 (a:A6) {j i:Nat} (x:Int) (hj:j < 6) (hi:i < 6):at6 (st6 a j x) i=if i=j then x else at6 a i:=by
 have h1:j=0∨j=1∨j=2∨j=3∨j=4∨j=5:=by omega
 have h2:i=0∨i=1∨i=2∨i=3∨i=4∨i=5:=by omega
 rcases h1 with rfl | rfl | rfl | rfl | rfl | rfl <;> rcases h2 with rfl | rfl | rfl | rfl | rfl | rfl <;> rfl
theorem Z409 {p:Nat→Bool}:∀ (k i:Nat),(∀ j,i≤j→j < i+k→p j=true)→allUp p k i=true
 | 0,i,h=>rfl
 | k+1,i,h=>by
  rw [allUp,h i (by omega) (by omega),Z409 k (i+1) fun j h1 h2=>h j (by omega) (by omega)]
  rfl
theorem Z410 {p:Nat→Bool}:∀ (k i j:Nat),i≤j→j < i+k→p j=true→anyUp p k i=true
 | 0,i,j,h1,h2,_=>by omega
 | k+1,i,j,h1,h2,h=>by
  rw [anyUp]
  by_cases e:i=j
  ·subst e; rw [h]; rfl
  ·rw [Z410 k (i+1) j (by omega) (by omega) h,Bool.or_true]
structure ObD (m:Int) (o:Ob):Prop where
 ok:obOk m o=true
 wt:1≤o.2.2∧o.2.2≤3
 cf:∀ j,j < 6→-1≤at6 o.1 j∧at6 o.1 j≤2
 df:∃ z,(-80≤z∧z≤80)∧o.2.1=q4 z
 one:∃ x:Nat,(x:Int) < m∧at6 o.1 x=1
theorem w8d_in {x:Int} (h:-128≤x∧x≤127):IntKind.wrap .i8 x=x:=by
 simp only [IntKind.wrap,IntKind.signed,IntKind.bits]
 simp
 omega
structure CfD (m:Nat) (k:Nat) (a:A6):Prop where
 z:∀ j,j < 6→k≤j→at6 a j=0
 b:∀ j,j < 6→-1≤at6 a j∧at6 a j≤2
theorem CfD.set {m k:Nat} {a:A6} (h:CfD m k a) (hk:k < 6) {x:Int} (hx:-1≤x∧x≤2):CfD m (k+1) (st6 a k x):=by
 refine ⟨fun j hj hkj=>?_,fun j hj=>?_⟩
 ·rw [at_st6 a x hk hj,if_neg (by omega)]; exact h.z j hj (by omega)
 ·rw [at_st6 a x hk hj]
  split
  ·exact hx
  ·exact h.b j hj
theorem CfD.ob {m:Nat} {a:A6} (h:CfD m m a) (hm:m≤6) {x:Nat} (hx:x < m) {z w:Int} (hz:-80≤z∧z≤80) (hw:1≤w∧w≤3):ObD (m:Int) (st6 a x 1,(q4 z,w)):=by
 have hc:∀ j,j < 6→-1≤at6 (st6 a x 1) j∧at6 (st6 a x 1) j≤2:=fun j hj=>by
  rw [at_st6 a 1 (by omega) hj]
  split
  ·omega
  ·exact h.b j hj
 refine ⟨?_,hw,hc,⟨z,hz,rfl⟩,x,by omega,by simp only; rw [at_st6 a 1 (by omega) (by omega),if_pos rfl]⟩
 unfold obOk obTail
 rw [Bool.and_eq_true,Bool.and_eq_true,Bool.and_eq_true]
 refine ⟨Z409 6 0 fun j _ hj=>?_,Z410 6 0 x (by omega) (by omega) ?_,(q4_is (by unfold Q4; omega)).2,Z580.2 (by simp only; omega)⟩
 ·unfold coefAt
  have:=hc j (by omega)
  rw [Bool.and_eq_true,Z580,Bool.or_eq_true]
  refine ⟨by simp only; omega,?_⟩
  by_cases hjm:j < m
  ·left; exact dec_t (by omega)
  ·right
   apply eq_t
   simp only
   rw [at_st6 a 1 (by omega) (by omega),if_neg (by omega)]
   exact h.z j (by omega) (by omega)
 ·unfold nzAt
  simp only
  rw [at_st6 a 1 (by omega) (by omega),if_pos rfl]
  rfl
abbrev DrR:Type:=Option ((((Tb×Unit)×Unit)×(Src×Unit)))
theorem Z444 (G:Int→List Int→Int→Int→Int→Bool→Int→Int→Int→Bool→Int→Int→List Ob→DrR) {m:Nat} (hm:1≤m∧m≤6) (v4:Int) (d:Fq) (w:Int) (cl:Bool) (t1 t2 z0:Int) (zb:Bool) (z1 z2:Int) (obs:List Ob) (hobs:obs.length≤1000) :
  ∀ (f k:Nat) (s:Src) (b:Int) (a:A6),k≤m→m - k < f→SrcAt s b→b+2*((m - k:Nat):Int)≤90000000000→CfD m k a →
  ∃ a' s' x,C286_l9 N0 G f (k:Int) v4 s.1 s.2.1 s.2.2 a.1 a.2.1 a.2.2.1 a.2.2.2.1 a.2.2.2.2.1 a.2.2.2.2.2 d.1 d.2 w (m:Int) cl t1 t2 z0 zb z1 z2 obs
   =G (IntKind.wrap .i64 (v4 - 1)) s'.1 s'.2.1 s'.2.2 (m:Int) cl t1 t2 z0 zb z1 z2 (obs++[(st6 a' x 1,(d,w))])∧x < m∧CfD m m a'∧SrcAt s' (b+2*((m - k:Nat):Int)+2)
 | 0,k,s,b,a,hk,hf,_,_,_=>by omega
 | f+1,k,s,b,a,hk,hf,hs,hb,ha=>by
  simp only [C286_l9,C286_t9,pr_eta]
  by_cases h:k < m
  ·obtain ⟨x,s1,e1,hx,k1⟩:=Z375 hs (by omega) (l:=[0,1,-1,0,1,2]) (by simp)
   have hx:-1≤x∧x≤2:=by
    simp only [List.mem_cons,List.not_mem_nil,or_false] at hx
    omega
   have hk6:decide ((k:Int) < 6)=true:=dec_t (by omega)
   rw [lt_t h,cond_true,e1,Option.bind_some,nn_t,hk6,Bool.and_self,cond_true]
   dsimp only
   rw [w8d_in (by omega),w_succ (i:=k) (by omega),Int.toNat_natCast]
   obtain ⟨a',s',y,g1,g2,g3,g4⟩:=Z444 G hm v4 d w cl t1 t2 z0 zb z1 z2 obs hobs f (k+1) s1 (b+2) (st6 a k x) h (by omega) k1 (by omega) (ha.set (by omega) hx)
   exact ⟨a',s',y,g1,g2,g3,g4.mono (by omega)⟩
  ·have:k=m:=by omega
   subst this
   obtain ⟨x,s1,e1,hx,k1⟩:=Z533 hs (by omega) (n:=(k:Int)) (by omega)
   obtain ⟨y,rfl⟩:∃ y:Nat,x=(y:Int):=⟨x.toNat,by omega⟩
   have hy6:decide ((y:Int) < 6)=true:=dec_t (by omega)
   rw [lt_f h,cond_false,e1,Option.bind_some,nn_t,hy6,Bool.and_self,cond_true,dec_t (by simp only [List.length_cons,List.length_nil]; omega),cond_true]
   exact ⟨a,s1,y,by simp only [Int.toNat_natCast]; rfl,by omega,ha,k1.mono (by omega)⟩
theorem Z443 {m:Nat} (hm:1≤m∧m≤6) (cl:Bool) (t1 t2 z0:Int) (zb:Bool) (z1 z2:Int) :
  ∀ (f v:Nat) (s:Src) (b:Int) (obs:List Ob),v < f→v≤100→SrcAt s b→b+100*(v:Int)≤80000000000→obs.length+v≤1000→(∀ o∈obs,ObD (m:Int) o) →
  ∃ obs' s',C286_l5 N0 f (v:Int) s.1 s.2.1 s.2.2 (m:Int) cl t1 t2 z0 zb z1 z2 obs=c1 ((m:Int),(obs',(cl,(t1,t2)))) s'∧obs'.length=obs.length+v∧(∀ o∈obs',ObD (m:Int) o)
 | 0,v,s,b,obs,hf,_,_,_,_,_=>by omega
 | f+1,v,s,b,obs,hf,hv,hs,hb,hl,ho=>by
  have:=N0_big
  simp only [C286_l5,C286_t5,pr_eta]
  by_cases h:(v:Int) > 0
  ·obtain ⟨z,s1,e1,hz,k1⟩:=Z528 hs (by omega)
   obtain ⟨w,s2,e2,hw,k2⟩:=Z533 k1 (by omega) (n:=3) (by omega)
   rw [dec_t h,cond_true,e1,Option.bind_some]
   dsimp only
   rw [e2,Option.bind_some]
   dsimp only
   rw [w_in (x:=1+w) (by unfold I64; omega)]
   obtain ⟨a',s',x,g1,g2,g3,g4⟩:=Z444 (C286_l5 N0 f) hm (v:Int) (q4 z) (1+w) cl t1 t2 z0 zb z1 z2 obs (by omega) N0 0 s2 _ (0,(0,(0,(0,(0,0))))) (by omega) (by omega) k2 (by omega)
    ⟨fun j hj _=>by
     have h1:j=0∨j=1∨j=2∨j=3∨j=4∨j=5:=by omega
     rcases h1 with rfl | rfl | rfl | rfl | rfl | rfl <;> rfl,fun j hj=>by
     have h1:j=0∨j=1∨j=2∨j=3∨j=4∨j=5:=by omega
     rcases h1 with rfl | rfl | rfl | rfl | rfl | rfl <;> decide⟩
   have hg:=g3.ob (by omega) g2 hz (show 1≤1+w∧1+w≤3 by omega)
   obtain ⟨u,rfl⟩:∃ u,v=u+1:=⟨v - 1,by omega⟩
   have ev:IntKind.wrap .i64 (((u+1:Nat):Int) - 1)=(u:Int):=by rw [w_in (by unfold I64; omega)]; omega
   rw [ev] at g1
   obtain ⟨obs',s'',f1,f2,f3⟩:=Z443 hm cl t1 t2 z0 zb z1 z2 f u s' _ (obs++[(st6 a' x 1,(q4 z,1+w))]) (by omega) (by omega) g4 (by omega) (by simp; omega)
    (fun o h=>by
     rcases List.mem_append.1 h with h | h
     ·exact ho o h
     ·rw [List.mem_singleton.1 h]; exact hg)
   refine ⟨obs',s'',g1.trans f1,by rw [f2]; simp; omega,f3⟩
  ·have:v=0:=by omega
   subst this
   rw [dec_f h,cond_false]
   exact ⟨obs,s,rfl,by omega,ho⟩
structure TbD (t:Tb):Prop where
 ok:tabOk t=true
 ct:1≤t.1∧t.1≤4
 len:t.2.1.length≤7
 obs:∀ o∈t.2.1,ObD t.1 o
 tot:∃ T,(-80≤T∧T≤80)∧t.2.2.2=q4 T
theorem Z442 {s:Src} {b:Int} (h:SrcAt s b) (hb:b≤1000000000):∃ t s',C286 N0 s=c1 t s'∧TbD t:=by
 have:=N0_big
 obtain ⟨x,s1,e1,hx,k1⟩:=Z533 h (by omega) (n:=4) (by omega)
 obtain ⟨o,s2,e2,k2⟩:=Z715 k1 (by omega) (n:=3) (by omega)
 have key:∀ (s3:Src) (b3:Int) (z:Int),SrcAt s3 b3→b3≤2000000000→(-80≤z∧z≤80)→(o=true∨z=0)→∃ t s',C286_j4 N0 s3.1 s3.2.1 s3.2.2 (1+x) o (q4 z).1 (q4 z).2 0 false 0 0=c1 t s'∧TbD t:=by
  intro s3 b3 z k3 hb3 hzb ho
  have hz:Q4 z:=by unfold Q4; omega
  obtain ⟨y,s4,e4,hy,k4⟩:=Z533 k3 (by omega) (n:=8) (by omega)
  obtain ⟨v,rfl⟩:∃ v:Nat,y=(v:Int):=⟨y.toNat,by omega⟩
  obtain ⟨m,hm⟩:∃ m:Nat,1+x=(m:Int):=⟨(1+x).toNat,by omega⟩
  simp only [C286_j4,C286_t4,pr_eta,e4,Option.bind_some]
  rw [hm]
  obtain ⟨obs',s',f1,f2,f3⟩:=Z443 (m:=m) (by omega) o (q4 z).1 (q4 z).2 0 false 0 0 N0 v s4 _ [] (by omega) (by omega) k4 (by omega) (by simp; omega) (fun o h=>by simp at h)
  refine ⟨_,s',f1,?_,by simp only; omega,by rw [List.length_nil] at f2; simp only; omega,f3,z,hzb,rfl⟩
  unfold tabOk
  simp only [Bool.and_eq_true,Z580,List.all_eq_true,Bool.or_eq_true]
  rw [List.length_nil] at f2
  refine ⟨by omega,dec_t (by omega),(q4_is hz).2,?_,fun o ho=>(f3 o ho).ok⟩
  rcases ho with ho | ho
  ·left; exact ho
  ·right
   subst ho
   rw [Z689]
   rfl
 simp only [C286,C286_t,pr_eta,e1,Option.bind_some,C275_is,e2]
 rw [w_in (x:=1+x) (by unfold I64; omega)]
 cases o with
 | true =>
  obtain ⟨z,s3,e3,hz,k3⟩:=Z528 k2 (by omega)
  rw [cond_true,e3,Option.bind_some]
  exact key s3 _ z k3 (by omega) hz (.inl rfl)
 | false =>
  rw [cond_false]
  have:=key s2 _ 0 k2 (by omega) (by omega) (.inr rfl)
  rw [Z689] at this
  exact this
theorem Z172 {code:List Int} (h:∀ y∈code,0≤y∧y≤255) (hl:code.length≤1000000000):∃ t,C325 N0 code=r1 t∧TbD t:=by
 obtain ⟨e,k⟩:=Z531 code h hl
 obtain ⟨t,s',e1,ht⟩:=Z442 k (by omega)
 refine ⟨t,?_,ht⟩
 simp only [C325,C325_t,e,Option.bind_some,pr_eta,e1]
theorem Z297 {m:Int} {j:Nat} (hj:j < 6) (l:List Ob):∀ z:Int,(∀ o∈l,ObD m o)→l.length≤1000→(-1000000+480*(l.length:Int)≤z∧z≤1000000 - 480*(l.length:Int))→(rgtG j l (q4 z)).2=false:=by
 induction l with
 | nil=>intro z _ _ _; rw [rgtG]
 | cons o r ih =>
  intro z h hl hz
  obtain ⟨y,hy,e⟩:=(h o (by simp)).df
  have hc:=(h o (by simp)).cf j hj
  have hw:=(h o (by simp)).wt
  have p:=mul_bd (a:=o.2.2) (b:=at6 o.1 j) (A:=3) (B:=2) (by omega) (by omega)
  have p2:=mul_bd (a:=o.2.2*at6 o.1 j) (b:=y) (A:=6) (B:=80) (by omega) hy
  rw [List.length_cons] at hl hz
  have e1:=q4_mul (w:=o.2.2*at6 o.1 j) (x:=y) (by unfold Q4; omega) (by unfold Q4; omega)
  have e2:=q4_add (x:=z) (y:=o.2.2*at6 o.1 j*y) (by unfold Q4; omega) (by unfold Q4; omega) (by unfold Q4; omega)
  rw [← e] at e1
  have ih:=ih (z+o.2.2*at6 o.1 j*y) (fun o ho=>h o (by simp [ho])) (by omega) (by omega)
  rw [rgtG,e1,show val (some (q4 (o.2.2*at6 o.1 j*y)))=q4 (o.2.2*at6 o.1 j*y) from rfl,e2,show val (some (q4 (z+o.2.2*at6 o.1 j*y)))=q4 (z+o.2.2*at6 o.1 j*y) from rfl]
  simp only [Option.isNone_some,Bool.false_or]
  exact ih
theorem Z191 {t:Tb} (h:TbD t):norB t.2.1 0 t.1.toNat=false:=by
 unfold norB
 rw [List.any_eq_false]
 intro j hj
 rw [Nat.sub_zero,← List.range_eq_range'] at hj
 have hj:=List.mem_range.1 hj
 have hc:=h.ct
 have:=Z297 (m:=t.1) (j:=j) (by omega) t.2.1 0 h.obs (by have:=h.len; omega) (by have:=h.len; omega)
 unfold rgtN
 rw [Z689] at this
 rw [this]
 decide
theorem Z190 {t:Tb} (h:TbD t):(norP t).2.2=0:=by
 unfold norP
 rw [h.ok,Z191 h]
 rfl
end Go.Abs
namespace Go.Abs
theorem Z708 (a b:Ob→Int) (l:List Ob):sP b a l=sP a b l:=by
 unfold sP
 congr 1
 refine List.map_congr_left fun o _=>?_
 grind
theorem split3 (f p q h e:Ob→Int) (u s v:Rat):∀ l:List Ob,sO (fun o=>wQ o*(f o:Rat)*((e o:Rat) / 4 - (p o:Rat)*u - (q o:Rat)*s - (h o:Rat)*v)) l=(sP f e l:Rat) / 4 - (sP f p l:Rat)*u - (sP f q l:Rat)*s - (sP f h l:Rat)*v
 | []=>by simp only [sO,sP,List.map_nil,sumL]; push_cast; grind
 | o :: r=>by
  rw [sO,split3 f p q h e u s v r,Z709,Z709,Z709,Z709]
  unfold wQ
  push_cast
  grind
theorem null3 {a b c d e f:Rat} (h:a*(d*f - e*e) - b*(b*f - e*c)+c*(b*e - d*c)=0) :
  ∃ x y z:Rat,(x≠0∨y≠0∨z≠0)∧a*x+b*y+c*z=0∧b*x+d*y+e*z=0∧c*x+e*y+f*z=0:=by
 by_cases h1:d*f - e*e=0∧c*e - b*f=0∧b*e - c*d=0
 ·by_cases h2:c*e - b*f=0∧a*f - c*c=0∧b*c - a*e=0
  ·by_cases h3:b*e - c*d=0∧b*c - a*e=0∧a*d - b*b=0
   ·by_cases h4:a=0∧b=0
    ·obtain ⟨rfl,rfl⟩:=h4
     have hc:c=0:=by
      have:=h2.2.1
      have e1:c*c=0:=by grind
      rcases Rat.mul_eq_zero.1 e1 with h | h <;> exact h
     subst hc
     exact ⟨1,0,0,.inl (by decide),by grind,by grind,by grind⟩
    ·refine ⟨-b,a,0,?_,by grind,by grind,by grind⟩
     by_cases ha:a=0
     ·left
      intro hb
      exact h4 ⟨ha,by grind⟩
     ·exact .inr (.inl ha)
   ·refine ⟨b*e - c*d,b*c - a*e,a*d - b*b,?_,by grind,by grind,by grind⟩
    by_cases k1:b*e - c*d=0
    ·by_cases k2:b*c - a*e=0
     ·exact .inr (.inr fun k3=>h3 ⟨k1,k2,k3⟩)
     ·exact .inr (.inl k2)
    ·exact .inl k1
  ·refine ⟨c*e - b*f,a*f - c*c,b*c - a*e,?_,by grind,by grind,by grind⟩
   by_cases k1:c*e - b*f=0
   ·by_cases k2:a*f - c*c=0
    ·exact .inr (.inr fun k3=>h2 ⟨k1,k2,k3⟩)
    ·exact .inr (.inl k2)
   ·exact .inl k1
 ·refine ⟨d*f - e*e,c*e - b*f,b*e - c*d,?_,by grind,by grind,by grind⟩
  by_cases k1:d*f - e*e=0
  ·by_cases k2:c*e - b*f=0
   ·exact .inr (.inr fun k3=>h1 ⟨k1,k2,k3⟩)
   ·exact .inr (.inl k2)
  ·exact .inl k1
theorem null2 {a b d:Rat} (h:a*d - b*b=0):∃ x y:Rat,(x≠0∨y≠0)∧a*x+b*y=0∧b*x+d*y=0:=by
 by_cases h4:a=0∧b=0
 ·obtain ⟨rfl,rfl⟩:=h4
  exact ⟨1,0,.inl (by decide),by grind,by grind⟩
 ·refine ⟨-b,a,?_,by grind,by grind⟩
  by_cases ha:a=0
  ·left
   intro hb
   exact h4 ⟨ha,by grind⟩
  ·exact .inr ha
def Told (s:Rat):Prop:=∃ Z W:Int,(1≤W∧W≤1000000000)∧(-1000000000≤Z∧Z≤1000000000)∧s*(W:Rat)=(Z:Rat)
theorem Z723 {s:Rat} {Z D:Int} (hD:D≠0) (hb:-1000000000≤D∧D≤1000000000) (hZ:-1000000000≤Z∧Z≤1000000000) (h:s*(D:Rat)=(Z:Rat)):Told s:=by
 by_cases h0:0 < D
 ·exact ⟨Z,D,by omega,hZ,h⟩
 ·refine ⟨-Z,-D,by omega,by omega,?_⟩
  push_cast
  grind
theorem Z549 {a b:Fq} (ha:Bd a) (hb:Bd b) (h:Told (qv a+qv b)):∃ c,fadd a b=some c:=by
 obtain ⟨Z,W,h1,h2,h3⟩:=h
 obtain ⟨g,c,e,_⟩:=Z331 (p:=Z) (q:=W) h1 h2
 have hq:=(bd_qq ha hb).1
 refine ⟨c,?_⟩
 unfold fadd
 rw [Z707 (P':=Z) (Q':=W) (by omega) (by omega) ?_]
 ·exact e
 ·have n1:=int_ne (x:=a.2) (by have:=ha.1; omega)
  have n2:=int_ne (x:=b.2) (by have:=hb.1; omega)
  have:((a.1:Rat)*(b.2:Rat)+(b.1:Rat)*(a.2:Rat))*(W:Rat)=(Z:Rat)*((a.2:Rat)*(b.2:Rat)):=by
   unfold qv at h3
   grind
  exact_mod_cast this
section
variable {l:List Ob} (hw:∀ i∈l,1≤i.2.2∧i.2.2≤3) (hl:l.length≤7)
include hw hl
theorem sP9 {a b:Ob→Int} (ha:∀ i∈l,-3≤a i∧a i≤3) (hb:∀ i∈l,-3≤b i∧b i≤3):-189≤sP a b l∧sP a b l≤189:=by
 have:=sP_bd a b 9 l hw fun i hi=>mul_bd (ha i hi) (hb i hi)
 omega
theorem sP720 {a e:Ob→Int} (ha:∀ i∈l,-3≤a i∧a i≤3) (he:∀ i∈l,-240≤e i∧e i≤240):-15120≤sP a e l∧sP a e l≤15120:=by
 have:=sP_bd a e 720 l hw fun i hi=>mul_bd (ha i hi) (he i hi)
 omega
theorem three {p q h e:Ob→Int} (hp:∀ i∈l,-3≤p i∧p i≤3) (hq:∀ i∈l,-3≤q i∧q i≤3) (hh:∀ i∈l,-3≤h i∧h i≤3) (he:∀ i∈l,-240≤e i∧e i≤240)
  (g1:0≤gM p h p h l∧gM p h p h l≤18632) (g2:0≤gM q h q h l∧gM q h q h l≤15309) (g3:0≤gM p q p q l∧gM p q p q l≤15309)
  {u s v:Rat} (e1:(sP p e l:Rat) / 4 - (sP p p l:Rat)*u - (sP p q l:Rat)*s - (sP p h l:Rat)*v=0) (e2:(sP q e l:Rat) / 4 - (sP q p l:Rat)*u - (sP q q l:Rat)*s - (sP q h l:Rat)*v=0) (e3:(sP h e l:Rat) / 4 - (sP h p l:Rat)*u - (sP h q l:Rat)*s - (sP h h l:Rat)*v=0)
  (hu:∀ x y z:Rat,(sP p p l:Rat)*x+(sP p q l:Rat)*y+(sP p h l:Rat)*z=0→(sP p q l:Rat)*x+(sP q q l:Rat)*y+(sP q h l:Rat)*z=0→(sP p h l:Rat)*x+(sP q h l:Rat)*y+(sP h h l:Rat)*z=0→x=0∧y=0∧z=0):Told s:=by
 have hnn:∀ i∈l,0≤i.2.2:=fun i hi=>by have:=hw i hi; omega
 have m1:=gM_mix p h q h l hnn
 have m3:=gM_mix p h p q l hnn
 have b1:=sP720 hw hl hp he
 have b2:=sP720 hw hl hq he
 have b3:=sP720 hw hl hh he
 have n11:=sP9 hw hl hp hp
 have n12:=sP9 hw hl hp hq
 have n13:=sP9 hw hl hp hh
 have n22:=sP9 hw hl hq hq
 have n23:=sP9 hw hl hq hh
 have n33:=sP9 hw hl hh hh
 unfold gM at *
 rw [Z708 p q] at e2
 rw [Z708 p h,Z708 q h] at e3
 rw [Z708 q h] at m1 g2
 rw [Z708 p h] at m1 m3 g1
 rw [Z708 q h] at m3
 rw [Z708 p q] at g3 m3
 generalize sP p e l=B1 at *
 generalize sP q e l=B2 at *
 generalize sP h e l=B3 at *
 generalize sP p p l=a at *
 generalize sP p q l=b at *
 generalize sP p h l=c at *
 generalize sP q q l=d at *
 generalize sP q h l=f at *
 generalize sP h h l=g at *
 have hD:a*(d*g - f*f) - b*(b*g - f*c)+c*(b*f - d*c)≠0:=by
  intro h0
  have h0':(a:Rat)*((d:Rat)*(g:Rat) - (f:Rat)*(f:Rat)) - (b:Rat)*((b:Rat)*(g:Rat) - (f:Rat)*(c:Rat))+(c:Rat)*((b:Rat)*(f:Rat) - (d:Rat)*(c:Rat))=0:=by exact_mod_cast h0
  obtain ⟨x,y,z,hne,k1,k2,k3⟩:=null3 h0'
  obtain ⟨rfl,rfl,rfl⟩:=hu x y z k1 k2 k3
  rcases hne with h | h | h <;> exact h rfl
 have c1:-16971≤f*c - b*g∧f*c - b*g≤16971:=by
  have:c*f=f*c:=Int.mul_comm _ _
  omega
 have c2:-18632≤a*g - c*c∧a*g - c*c≤18632:=by omega
 have c3:-16971≤b*c - a*f∧b*c - a*f≤16971:=by omega
 have z1:=mul_bd c1 b1
 have z2:=mul_bd c2 b2
 have z3:=mul_bd c3 b3
 have d1:=mul_bd n22 n33
 have d2:=mul_bd n23 n23
 have d3:=mul_bd n12 n33
 have d4:=mul_bd n23 n13
 have d5:=mul_bd n12 n23
 have d6:=mul_bd n22 n13
 have D1:=mul_bd (A:=189) (B:=71442) n11 (show -71442≤d*g - f*f∧d*g - f*f≤71442 by omega)
 have D2:=mul_bd (A:=189) (B:=71442) n12 (show -71442≤b*g - f*c∧b*g - f*c≤71442 by omega)
 have D3:=mul_bd (A:=189) (B:=71442) n13 (show -71442≤b*f - d*c∧b*f - d*c≤71442 by omega)
 refine Z723 (D:=4*(a*(d*g - f*f) - b*(b*g - f*c)+c*(b*f - d*c))) (Z:=(f*c - b*g)*B1+(a*g - c*c)*B2+(b*c - a*f)*B3) (by omega) (by omega) (by omega) ?_
 push_cast
 generalize (a:Rat)=a at *
 generalize (b:Rat)=b at *
 generalize (c:Rat)=c at *
 generalize (d:Rat)=d at *
 generalize (f:Rat)=f at *
 generalize (g:Rat)=g at *
 generalize (B1:Rat)=B1 at *
 generalize (B2:Rat)=B2 at *
 generalize (B3:Rat)=B3 at *
 have q1:B1=4*(a*u+b*s+c*v):=by grind
 have q2:B2=4*(b*u+d*s+f*v):=by grind
 have q3:B3=4*(c*u+f*s+g*v):=by grind
 rw [q1,q2,q3]
 grind
theorem two {p q e:Ob→Int} (hp:∀ i∈l,-3≤p i∧p i≤3) (hq:∀ i∈l,-3≤q i∧q i≤3) (he:∀ i∈l,-240≤e i∧e i≤240)
  {u s:Rat} (e1:(sP p e l:Rat) / 4 - (sP p p l:Rat)*u - (sP p q l:Rat)*s=0) (e2:(sP q e l:Rat) / 4 - (sP q p l:Rat)*u - (sP q q l:Rat)*s=0)
  (hu:∀ x y:Rat,(sP p p l:Rat)*x+(sP p q l:Rat)*y=0→(sP p q l:Rat)*x+(sP q q l:Rat)*y=0→x=0∧y=0):Told s:=by
 have b1:=sP720 hw hl hp he
 have b2:=sP720 hw hl hq he
 have n11:=sP9 hw hl hp hp
 have n12:=sP9 hw hl hp hq
 have n22:=sP9 hw hl hq hq
 rw [Z708 p q] at e2
 generalize sP p e l=B1 at *
 generalize sP q e l=B2 at *
 generalize sP p p l=a at *
 generalize sP p q l=b at *
 generalize sP q q l=d at *
 have hD:a*d - b*b≠0:=by
  intro h0
  have h0':(a:Rat)*(d:Rat) - (b:Rat)*(b:Rat)=0:=by exact_mod_cast h0
  obtain ⟨x,y,hne,k1,k2⟩:=null2 h0'
  obtain ⟨rfl,rfl⟩:=hu x y k1 k2
  rcases hne with h | h <;> exact h rfl
 have z1:=mul_bd n12 b1
 have z2:=mul_bd n11 b2
 have d1:=mul_bd n11 n22
 have d2:=mul_bd n12 n12
 refine Z723 (D:=4*(a*d - b*b)) (Z:=a*B2 - b*B1) (by omega) (by omega) (by omega) ?_
 push_cast
 generalize (a:Rat)=a at *
 generalize (b:Rat)=b at *
 generalize (d:Rat)=d at *
 generalize (B1:Rat)=B1 at *
 generalize (B2:Rat)=B2 at *
 have q1:B1=4*(a*u+b*s):=by grind
 have q2:B2=4*(b*u+d*s):=by grind
 rw [q1,q2]
 grind
end
end Go.Abs
namespace Go.Abs
structure Says (obs:List Ob) (m:Nat) (T:Rat) (x:Nat→Rat):Prop where
 a:∀ j,j < m→sO (fun o=>wQ o*aQ o j*reQ m x o) obs=x m
 b:sumR x m 0=T
theorem sO_sub (f g:Ob→Rat) (l:List Ob):sO (fun o=>f o - g o) l=sO f l - sO g l:=by
 have:sO f l=sO (fun o=>f o - g o) l+sO g l:=by
  rw [← sO_add]
  exact Z525 l fun o _=>by grind
 grind
theorem pert {obs:List Ob} {m:Nat} {T:Rat} {x:Nat→Rat} (S:Says obs m T x) (U:∀ y,Says obs m T y→∀ j,j < m→y j=x j) (d:Nat→Rat) (g:Rat) (hd:∀ j,j < m→sO (fun o=>wQ o*aQ o j*axQ m d o) obs=g) (h0:sumR d m 0=0):∀ j,j < m→d j=0:=by
 have hax:∀ o,axQ m (fun j=>if j=m then x m - g else x j+d j) o=axQ m x o+axQ m d o:=fun o=>by
  unfold axQ
  rw [← Z542]
  exact Z261 m 0 fun c _ hc=>by dsimp only; rw [if_neg (by omega)]; grind
 have key:=U (fun j=>if j=m then x m - g else x j+d j) ⟨fun j hj=>?_,?_⟩
 ·intro j hj
  have:=key j hj
  rw [if_neg (by omega)] at this
  grind
 ·rw [if_pos rfl]
  have e:sO (fun o=>wQ o*aQ o j*reQ m (fun j=>if j=m then x m - g else x j+d j) o) obs=sO (fun o=>wQ o*aQ o j*reQ m x o) obs - sO (fun o=>wQ o*aQ o j*axQ m d o) obs:=by
   rw [← sO_sub]
   refine Z525 obs fun o _=>?_
   unfold reQ
   rw [hax o]
   grind
  rw [e,S.a j hj,hd j hj]
 ·have:sumR (fun j=>if j=m then x m - g else x j+d j) m 0=sumR x m 0+sumR d m 0:=by
   rw [← Z542]
   exact Z261 m 0 fun c _ hc=>by rw [if_neg (by omega)]
  rw [this,h0,S.b]
  grind
theorem lin3 (f p q h:Ob→Int) (x y z:Rat):∀ l:List Ob,sO (fun o=>wQ o*(f o:Rat)*((p o:Rat)*x+(q o:Rat)*y+(h o:Rat)*z)) l=(sP f p l:Rat)*x+(sP f q l:Rat)*y+(sP f h l:Rat)*z
 | []=>by simp only [sO,sP,List.map_nil,sumL]; push_cast; grind
 | o :: r=>by
  rw [sO,lin3 f p q h x y z r,Z709,Z709,Z709]
  unfold wQ
  push_cast
  grind
def z4 (o:Ob):Int:=4*o.2.1.1 / o.2.1.2
theorem z4_is {z:Int} (hz:-80≤z∧z≤80) {o:Ob} (h:o.2.1=q4 z):z4 o=z∧qv o.2.1=(z:Rat) / 4:=by
 have hq:Q4 z:=by unfold Q4; omega
 have e:=q4_val hq
 have b:=(q4_bd hq).1
 rw [← h] at e b
 refine ⟨?_,?_⟩
 ·unfold z4
  rw [show 4*o.2.1.1=z*o.2.1.2 by omega]
  exact Int.mul_ediv_cancel _ (by omega)
 ·rw [h,qv_mk (by omega) (q4_is hq).1]
  push_cast
  rfl
section
variable {obs:List Ob} {m:Int} (hd:∀ o∈obs,ObD m o) (hl:obs.length≤7) {T:Int} (hT:-80≤T∧T≤80) {x:Nat→Rat}
include hd hl hT
theorem cw:∀ i∈obs,1≤i.2.2∧i.2.2≤3:=fun i hi=>(hd i hi).wt
theorem cdif {i j:Nat} (hi:i < 6) (hj:j < 6):∀ o∈obs,-3≤at6 o.1 i - at6 o.1 j∧at6 o.1 i - at6 o.1 j≤3:=fun o ho=>by
 have a:=(hd o ho).cf i hi
 have b:=(hd o ho).cf j hj
 omega
theorem ce {j:Nat} (hj:j < 6):∀ o∈obs,-240≤z4 o - at6 o.1 j*T∧z4 o - at6 o.1 j*T≤240:=fun o ho=>by
 obtain ⟨z,hz,e⟩:=(hd o ho).df
 have h1:=(z4_is hz e).1
 have b:=(hd o ho).cf j hj
 have:=mul_bd (a:=at6 o.1 j) (b:=T) (A:=2) (B:=80) (by omega) hT
 omega
theorem cnine {i j k:Nat} (hi:i < 6) (hj:j < 6) (hk:k < 6):0≤gM (fun o=>at6 o.1 i - at6 o.1 k) (fun o=>at6 o.1 j - at6 o.1 k) (fun o=>at6 o.1 i - at6 o.1 k) (fun o=>at6 o.1 j - at6 o.1 k) obs∧gM (fun o=>at6 o.1 i - at6 o.1 k) (fun o=>at6 o.1 j - at6 o.1 k) (fun o=>at6 o.1 i - at6 o.1 k) (fun o=>at6 o.1 j - at6 o.1 k) obs≤15309:=by
 refine Z626 _ _ obs (cw hd hl hT) (fun o ho u hu=>?_) hl
 have a1:=(hd o ho).cf i hi
 have a2:=(hd o ho).cf j hj
 have a3:=(hd o ho).cf k hk
 have b1:=(hd u hu).cf i hi
 have b2:=(hd u hu).cf j hj
 have b3:=(hd u hu).cf k hk
 exact Z667 a1 a2 a3 b1 b2 b3
theorem cnine' {i j k:Nat} (hi:i < 6) (hj:j < 6) (hk:k < 6):0≤gM (fun o=>at6 o.1 i - at6 o.1 k) (fun o=>at6 o.1 k - at6 o.1 j) (fun o=>at6 o.1 i - at6 o.1 k) (fun o=>at6 o.1 k - at6 o.1 j) obs∧gM (fun o=>at6 o.1 i - at6 o.1 k) (fun o=>at6 o.1 k - at6 o.1 j) (fun o=>at6 o.1 i - at6 o.1 k) (fun o=>at6 o.1 k - at6 o.1 j) obs≤15309:=by
 refine Z626 _ _ obs (cw hd hl hT) (fun o ho u hu=>?_) hl
 have a1:=(hd o ho).cf i hi
 have a2:=(hd o ho).cf j hj
 have a3:=(hd o ho).cf k hk
 have b1:=(hd u hu).cf i hi
 have b2:=(hd u hu).cf j hj
 have b3:=(hd u hu).cf k hk
 have:=Z667 a1 a2 a3 b1 b2 b3
 have e:(at6 o.1 i - at6 o.1 k)*(at6 u.1 k - at6 u.1 j) - (at6 u.1 i - at6 u.1 k)*(at6 o.1 k - at6 o.1 j)=-((at6 o.1 i - at6 o.1 k)*(at6 u.1 j - at6 u.1 k) - (at6 u.1 i - at6 u.1 k)*(at6 o.1 j - at6 o.1 k)):=by grind
 rw [e]
 omega
theorem c13 {i j k n:Nat} (hi:i < 6) (hj:j < 6) (hk:k < 6) (hn:n < 6) (h1:∀ o∈obs,at6 o.1 i=1∨at6 o.1 j=1∨at6 o.1 k=1∨at6 o.1 n=1) :
  gM (fun o=>at6 o.1 i - at6 o.1 j) (fun o=>at6 o.1 k - at6 o.1 n) (fun o=>at6 o.1 i - at6 o.1 j) (fun o=>at6 o.1 k - at6 o.1 n) obs≤18632 :=
 gM_13 _ _ obs (cw hd hl hT) (fun o ho=>Z166 ((hd o ho).cf i hi) ((hd o ho).cf j hj) ((hd o ho).cf k hk) ((hd o ho).cf n hn) (h1 o ho)) hl
theorem Z430 {n:Nat} {R:Rat} (S:Says obs n R x) {i j:Nat} (hi:i < n) (hj:j < n):sO (fun o=>wQ o*(((at6 o.1 i - at6 o.1 j:Int)):Rat)*reQ n x o) obs=0:=by
 have:sO (fun o=>wQ o*(((at6 o.1 i - at6 o.1 j:Int)):Rat)*reQ n x o) obs=sO (fun o=>wQ o*aQ o i*reQ n x o) obs - sO (fun o=>wQ o*aQ o j*reQ n x o) obs:=by
  rw [← sO_sub]
  refine Z525 obs fun o _=>?_
  unfold aQ
  push_cast
  grind
 rw [this,S.a i hi,S.a j hj]
 grind
theorem dif_eq {i j:Nat} {D:Ob→Rat} (h:sO (fun o=>wQ o*(((at6 o.1 i - at6 o.1 j:Int)):Rat)*D o) obs=0):sO (fun o=>wQ o*aQ o i*D o) obs=sO (fun o=>wQ o*aQ o j*D o) obs:=by
 have:sO (fun o=>wQ o*(((at6 o.1 i - at6 o.1 j:Int)):Rat)*D o) obs=sO (fun o=>wQ o*aQ o i*D o) obs - sO (fun o=>wQ o*aQ o j*D o) obs:=by
  rw [← sO_sub]
  refine Z525 obs fun o _=>?_
  unfold aQ
  push_cast
  grind
 grind
theorem four_a (h1:∀ o∈obs,at6 o.1 0=1∨at6 o.1 1=1∨at6 o.1 2=1∨at6 o.1 3=1) (S:Says obs 4 ((T:Rat) / 4) x) (U:∀ y,Says obs 4 ((T:Rat) / 4) y→∀ j,j < 4→y j=x j):Told (x 0+x 1):=by
 have hx:x 0+x 1+x 2+x 3=(T:Rat) / 4:=by have:=S.b; simp only [sumR] at this; grind
 have hre:∀ o∈obs,reQ 4 x o=((z4 o - at6 o.1 3*T:Int):Rat) / 4 - ((at6 o.1 0 - at6 o.1 1:Int):Rat)*x 0 - ((at6 o.1 1 - at6 o.1 3:Int):Rat)*(x 0+x 1) - ((at6 o.1 2 - at6 o.1 3:Int):Rat)*x 2:=fun o ho=>by
  obtain ⟨z,hz,e⟩:=(hd o ho).df
  obtain ⟨k1,k2⟩:=z4_is hz e
  unfold reQ axQ aQ
  simp only [sumR]
  rw [k1,k2]
  push_cast
  grind
 have eq:∀ i j,i < 4→j < 4→(sP (fun o=>at6 o.1 i - at6 o.1 j) (fun o=>z4 o - at6 o.1 3*T) obs:Rat) / 4 - (sP (fun o=>at6 o.1 i - at6 o.1 j) (fun o=>at6 o.1 0 - at6 o.1 1) obs:Rat)*x 0 - (sP (fun o=>at6 o.1 i - at6 o.1 j) (fun o=>at6 o.1 1 - at6 o.1 3) obs:Rat)*(x 0+x 1) - (sP (fun o=>at6 o.1 i - at6 o.1 j) (fun o=>at6 o.1 2 - at6 o.1 3) obs:Rat)*x 2=0:=fun i j hi hj=>by
  rw [← split3,← Z430 hd hl hT S hi hj]
  exact Z525 obs fun o ho=>by rw [hre o ho]
 refine three (cw hd hl hT) hl (cdif hd hl hT (by omega) (by omega)) (cdif hd hl hT (by omega) (by omega)) (cdif hd hl hT (by omega) (by omega)) (ce hd hl hT (by omega)) ⟨?_,c13 hd hl hT (by omega) (by omega) (by omega) (by omega) h1⟩ (cnine hd hl hT (by omega) (by omega) (by omega)) (cnine' hd hl hT (by omega) (by omega) (by omega)) (eq 0 1 (by omega) (by omega)) (eq 1 3 (by omega) (by omega)) (eq 2 3 (by omega) (by omega)) ?_
 ·have:=gM_mix (fun o=>at6 o.1 0 - at6 o.1 1) (fun o=>at6 o.1 2 - at6 o.1 3) (fun o=>at6 o.1 0 - at6 o.1 1) (fun o=>at6 o.1 2 - at6 o.1 3) obs (fun i hi=>by have:=cw hd hl hT i hi; omega)
  omega
 ·intro X Y Z k1 k2 k3
  have hax:∀ o,axQ 4 (fun j=>if j=0 then X else if j=1 then Y - X else if j=2 then Z else -Y - Z) o=((at6 o.1 0 - at6 o.1 1:Int):Rat)*X+((at6 o.1 1 - at6 o.1 3:Int):Rat)*Y+((at6 o.1 2 - at6 o.1 3:Int):Rat)*Z:=fun o=>by
   unfold axQ aQ
   simp only [sumR]
   push_cast
   grind
  have z1:∀ i j,(sP (fun o=>at6 o.1 i - at6 o.1 j) (fun o=>at6 o.1 0 - at6 o.1 1) obs:Rat)*X+(sP (fun o=>at6 o.1 i - at6 o.1 j) (fun o=>at6 o.1 1 - at6 o.1 3) obs:Rat)*Y+(sP (fun o=>at6 o.1 i - at6 o.1 j) (fun o=>at6 o.1 2 - at6 o.1 3) obs:Rat)*Z=0→sO (fun o=>wQ o*aQ o i*axQ 4 (fun j=>if j=0 then X else if j=1 then Y - X else if j=2 then Z else -Y - Z) o) obs=sO (fun o=>wQ o*aQ o j*axQ 4 (fun j=>if j=0 then X else if j=1 then Y - X else if j=2 then Z else -Y - Z) o) obs:=fun i j h=>by
   refine dif_eq hd hl hT ?_
   rw [← h,← lin3]
   exact Z525 obs fun o _=>by rw [hax o]
  have w1:=z1 0 1 k1
  have w2:=z1 1 3 (by rw [Z708 (fun o=>at6 o.1 0 - at6 o.1 1)]; exact k2)
  have w3:=z1 2 3 (by rw [Z708 (fun o=>at6 o.1 0 - at6 o.1 1),Z708 (fun o=>at6 o.1 1 - at6 o.1 3)]; exact k3)
  have P:=pert S U (fun j=>if j=0 then X else if j=1 then Y - X else if j=2 then Z else -Y - Z) _ (fun j hj=>by
   have:j=0∨j=1∨j=2∨j=3:=by omega
   rcases this with rfl | rfl | rfl | rfl
   ·exact w1.trans w2
   ·exact w2
   ·exact w3
   ·rfl) (by simp only [sumR]; grind)
  have p0:X=0:=P 0 (by omega)
  have p1:Y - X=0:=P 1 (by omega)
  have p2:Z=0:=P 2 (by omega)
  exact ⟨p0,by grind,p2⟩
theorem four_b (S:Says obs 4 ((T:Rat) / 4) x) (U:∀ y,Says obs 4 ((T:Rat) / 4) y→∀ j,j < 4→y j=x j):Told (x 0+x 1+x 2):=by
 have hx:x 0+x 1+x 2+x 3=(T:Rat) / 4:=by have:=S.b; simp only [sumR] at this; grind
 have hre:∀ o∈obs,reQ 4 x o=((z4 o - at6 o.1 3*T:Int):Rat) / 4 - ((at6 o.1 0 - at6 o.1 2:Int):Rat)*x 0 - ((at6 o.1 2 - at6 o.1 3:Int):Rat)*(x 0+x 1+x 2) - ((at6 o.1 1 - at6 o.1 2:Int):Rat)*x 1:=fun o ho=>by
  obtain ⟨z,hz,e⟩:=(hd o ho).df
  obtain ⟨k1,k2⟩:=z4_is hz e
  unfold reQ axQ aQ
  simp only [sumR]
  rw [k1,k2]
  push_cast
  grind
 have eq:∀ i j,i < 4→j < 4→(sP (fun o=>at6 o.1 i - at6 o.1 j) (fun o=>z4 o - at6 o.1 3*T) obs:Rat) / 4 - (sP (fun o=>at6 o.1 i - at6 o.1 j) (fun o=>at6 o.1 0 - at6 o.1 2) obs:Rat)*x 0 - (sP (fun o=>at6 o.1 i - at6 o.1 j) (fun o=>at6 o.1 2 - at6 o.1 3) obs:Rat)*(x 0+x 1+x 2) - (sP (fun o=>at6 o.1 i - at6 o.1 j) (fun o=>at6 o.1 1 - at6 o.1 2) obs:Rat)*x 1=0:=fun i j hi hj=>by
  rw [← split3,← Z430 hd hl hT S hi hj]
  exact Z525 obs fun o ho=>by rw [hre o ho]
 have g2:0≤gM (fun o=>at6 o.1 2 - at6 o.1 3) (fun o=>at6 o.1 1 - at6 o.1 2) (fun o=>at6 o.1 2 - at6 o.1 3) (fun o=>at6 o.1 1 - at6 o.1 2) obs∧gM (fun o=>at6 o.1 2 - at6 o.1 3) (fun o=>at6 o.1 1 - at6 o.1 2) (fun o=>at6 o.1 2 - at6 o.1 3) (fun o=>at6 o.1 1 - at6 o.1 2) obs≤15309:=by
  have h:=cnine' hd hl hT (i:=1) (j:=3) (k:=2) (by omega) (by omega) (by omega)
  have e:gM (fun o=>at6 o.1 2 - at6 o.1 3) (fun o=>at6 o.1 1 - at6 o.1 2) (fun o=>at6 o.1 2 - at6 o.1 3) (fun o=>at6 o.1 1 - at6 o.1 2) obs=gM (fun o=>at6 o.1 1 - at6 o.1 2) (fun o=>at6 o.1 2 - at6 o.1 3) (fun o=>at6 o.1 1 - at6 o.1 2) (fun o=>at6 o.1 2 - at6 o.1 3) obs:=by unfold gM; grind
  rw [e]
  exact h
 refine three (cw hd hl hT) hl (cdif hd hl hT (by omega) (by omega)) (cdif hd hl hT (by omega) (by omega)) (cdif hd hl hT (by omega) (by omega)) (ce hd hl hT (by omega)) ⟨(cnine hd hl hT (i:=0) (j:=1) (k:=2) (by omega) (by omega) (by omega)).1,by have:=(cnine hd hl hT (i:=0) (j:=1) (k:=2) (by omega) (by omega) (by omega)).2; omega⟩ g2 (cnine' hd hl hT (by omega) (by omega) (by omega)) (eq 0 2 (by omega) (by omega)) (eq 2 3 (by omega) (by omega)) (eq 1 2 (by omega) (by omega)) ?_
 intro X Y Z k1 k2 k3
 have hax:∀ o,axQ 4 (fun j=>if j=0 then X else if j=1 then Z else if j=2 then Y - X - Z else -Y) o=((at6 o.1 0 - at6 o.1 2:Int):Rat)*X+((at6 o.1 2 - at6 o.1 3:Int):Rat)*Y+((at6 o.1 1 - at6 o.1 2:Int):Rat)*Z:=fun o=>by
  unfold axQ aQ
  simp only [sumR]
  push_cast
  grind
 have z1:∀ i j,(sP (fun o=>at6 o.1 i - at6 o.1 j) (fun o=>at6 o.1 0 - at6 o.1 2) obs:Rat)*X+(sP (fun o=>at6 o.1 i - at6 o.1 j) (fun o=>at6 o.1 2 - at6 o.1 3) obs:Rat)*Y+(sP (fun o=>at6 o.1 i - at6 o.1 j) (fun o=>at6 o.1 1 - at6 o.1 2) obs:Rat)*Z=0→sO (fun o=>wQ o*aQ o i*axQ 4 (fun j=>if j=0 then X else if j=1 then Z else if j=2 then Y - X - Z else -Y) o) obs=sO (fun o=>wQ o*aQ o j*axQ 4 (fun j=>if j=0 then X else if j=1 then Z else if j=2 then Y - X - Z else -Y) o) obs:=fun i j h=>by
  refine dif_eq hd hl hT ?_
  rw [← h,← lin3]
  exact Z525 obs fun o _=>by rw [hax o]
 have w1:=z1 0 2 k1
 have w2:=z1 2 3 (by rw [Z708 (fun o=>at6 o.1 0 - at6 o.1 2)]; exact k2)
 have w3:=z1 1 2 (by rw [Z708 (fun o=>at6 o.1 0 - at6 o.1 2),Z708 (fun o=>at6 o.1 2 - at6 o.1 3)]; exact k3)
 have P:=pert S U (fun j=>if j=0 then X else if j=1 then Z else if j=2 then Y - X - Z else -Y) _ (fun j hj=>by
  have:j=0∨j=1∨j=2∨j=3:=by omega
  rcases this with rfl | rfl | rfl | rfl
  ·exact w1.trans w2
  ·exact w3.trans w2
  ·exact w2
  ·rfl) (by simp only [sumR]; grind)
 have p0:X=0:=P 0 (by omega)
 have p1:Z=0:=P 1 (by omega)
 have p2:Y - X - Z=0:=P 2 (by omega)
 exact ⟨p0,by grind,p1⟩
theorem lin2 (f p q:Ob→Int) (x y:Rat) (l:List Ob):sO (fun o=>wQ o*(f o:Rat)*((p o:Rat)*x+(q o:Rat)*y)) l=(sP f p l:Rat)*x+(sP f q l:Rat)*y:=by
 have:=lin3 f p q (fun _=>0) x y 0 l
 rw [show (sP f p l:Rat)*x+(sP f q l:Rat)*y=(sP f p l:Rat)*x+(sP f q l:Rat)*y+(sP f (fun _=>0) l:Rat)*0 by grind,← this]
 exact Z525 l fun o _=>by push_cast; grind
theorem Z722 (S:Says obs 3 ((T:Rat) / 4) x) (U:∀ y,Says obs 3 ((T:Rat) / 4) y→∀ j,j < 3→y j=x j):Told (x 0+x 1):=by
 have hx:x 0+x 1+x 2=(T:Rat) / 4:=by have:=S.b; simp only [sumR] at this; grind
 have hre:∀ o∈obs,reQ 3 x o=((z4 o - at6 o.1 2*T:Int):Rat) / 4 - ((at6 o.1 0 - at6 o.1 1:Int):Rat)*x 0 - ((at6 o.1 1 - at6 o.1 2:Int):Rat)*(x 0+x 1) - (((0:Int)):Rat)*0:=fun o ho=>by
  obtain ⟨z,hz,e⟩:=(hd o ho).df
  obtain ⟨k1,k2⟩:=z4_is hz e
  unfold reQ axQ aQ
  simp only [sumR]
  rw [k1,k2]
  push_cast
  grind
 have eq:∀ i j,i < 3→j < 3→(sP (fun o=>at6 o.1 i - at6 o.1 j) (fun o=>z4 o - at6 o.1 2*T) obs:Rat) / 4 - (sP (fun o=>at6 o.1 i - at6 o.1 j) (fun o=>at6 o.1 0 - at6 o.1 1) obs:Rat)*x 0 - (sP (fun o=>at6 o.1 i - at6 o.1 j) (fun o=>at6 o.1 1 - at6 o.1 2) obs:Rat)*(x 0+x 1)=0:=fun i j hi hj=>by
  have h:=split3 (fun o=>at6 o.1 i - at6 o.1 j) (fun o=>at6 o.1 0 - at6 o.1 1) (fun o=>at6 o.1 1 - at6 o.1 2) (fun _=>0) (fun o=>z4 o - at6 o.1 2*T) (x 0) (x 0+x 1) 0 obs
  have h2:=Z430 hd hl hT S hi hj
  rw [Z525 obs fun o ho=>by rw [hre o ho],h] at h2
  grind
 refine two (cw hd hl hT) hl (cdif hd hl hT (by omega) (by omega)) (cdif hd hl hT (by omega) (by omega)) (ce hd hl hT (by omega)) (eq 0 1 (by omega) (by omega)) (eq 1 2 (by omega) (by omega)) ?_
 intro X Y k1 k2
 have hax:∀ o,axQ 3 (fun j=>if j=0 then X else if j=1 then Y - X else -Y) o=((at6 o.1 0 - at6 o.1 1:Int):Rat)*X+((at6 o.1 1 - at6 o.1 2:Int):Rat)*Y:=fun o=>by
  unfold axQ aQ
  simp only [sumR]
  push_cast
  grind
 have z1:∀ i j,(sP (fun o=>at6 o.1 i - at6 o.1 j) (fun o=>at6 o.1 0 - at6 o.1 1) obs:Rat)*X+(sP (fun o=>at6 o.1 i - at6 o.1 j) (fun o=>at6 o.1 1 - at6 o.1 2) obs:Rat)*Y=0→sO (fun o=>wQ o*aQ o i*axQ 3 (fun j=>if j=0 then X else if j=1 then Y - X else -Y) o) obs=sO (fun o=>wQ o*aQ o j*axQ 3 (fun j=>if j=0 then X else if j=1 then Y - X else -Y) o) obs:=fun i j h=>by
  refine dif_eq hd hl hT ?_
  rw [← h,← lin2 hd hl hT]
  exact Z525 obs fun o _=>by rw [hax o]
 have w1:=z1 0 1 k1
 have w2:=z1 1 2 (by rw [Z708 (fun o=>at6 o.1 0 - at6 o.1 1)]; exact k2)
 have P:=pert S U (fun j=>if j=0 then X else if j=1 then Y - X else -Y) _ (fun j hj=>by
  have:j=0∨j=1∨j=2:=by omega
  rcases this with rfl | rfl | rfl
  ·exact w1.trans w2
  ·exact w2
  ·rfl) (by simp only [sumR]; grind)
 have p0:X=0:=P 0 (by omega)
 have p1:Y - X=0:=P 1 (by omega)
 exact ⟨p0,by grind⟩
end
end Go.Abs
namespace Go.Abs
abbrev d2 {α β γ δ:Type} (a:α) (b:β) (s:γ) (w:δ):Option (((α×Unit)×((β×Unit)×Unit))×(γ×(δ×Unit))):=some (((a,()),((b,()),())),(s,(w,())))
abbrev d1 {α γ δ:Type} (a:α) (s:γ) (w:δ):Option (((α×Unit)×Unit)×(γ×(δ×Unit))):=some (((a,()),()),(s,(w,())))
abbrev c3 {α β γ δ:Type} (a:α) (b:β) (c:γ) (s:δ):Option (((α×Unit)×((β×Unit)×((γ×Unit)×Unit)))×(δ×Unit)):=some (((a,()),((b,()),((c,()),()))),(s,()))
end Go.Abs
namespace Go.Abs
def outR (col a:Nat):Nat→Nat→List Rw→List Rw
 | 0,_,R=>R
 | k+1,i,R=>if i=a∨(cel R i col).1=0 then outR col a k (i+1) R else outR col a k (i+1) (R.set i (subR (val (fdiv (cel R i col) (cel R a col))) R i a col))
theorem Z682 (n col a:Nat):∀ (k i:Nat) (R:List Rw) (r:Rw),(outG col a k i R r false).2=false→(outG col a k i R r false).1.1=outR col a k i R
 | 0,i,R,r,h=>rfl
 | k+1,i,R,r,h=>by
  rcases Z346 (n:=n) h with ⟨hz,e⟩ | ⟨hne,h0,q,hq,hs,e,c,hm,hc,eo⟩
  ·rw [e] at h ⊢
   rw [outR,if_pos hz]
   exact Z682 n col a k (i+1) R r h
  ·rw [eo] at h ⊢
   rw [outR,if_neg (by rintro (h1 | h1); exact hne h1; exact h0 h1),hq]
   exact Z682 n col a k (i+1) _ _ h
def pivR (n:Nat):Nat→Nat→List Rw→Bool
 | 0,_,_=>true
 | k+1,i,R=>match findM R i (n - i) i with
  | none=>false
  | some p=>pivR n k (i+1) (outR i i n 0 (swapL R [] p i))
theorem Z508 (n:Nat):∀ (k i:Nat) (R:List Rw) (r:Rw),pivR n k i R=true→(stepsM n k i R r).1=0∨(stepsM n k i R r).1=3
 | 0,i,R,r,h=>.inl rfl
 | k+1,i,R,r,h=>by
  rw [pivR] at h
  rw [stepsM]
  unfold elimM
  cases hf:findM R i (n - i) i with
  | none=>rw [hf] at h; cases h
  | some p =>
   rw [hf] at h
   dsimp only at h ⊢
   cases hb:(outG i i n 0 (swapL R [] p i) (swapL r (0,0) p i) false).2 with
   | true=>right; rfl
   | false =>
    rw [cond_false]
    rw [← Z682 n i i n 0 _ (swapL r (0,0) p i) hb] at h
    exact Z508 n k (i+1) _ _ h
theorem Z455 {n:Nat} {R:List Rw} {r:Rw} (h:pivR n n 0 R=true):(finM (stepsM n n 0 R r)).2=0∨(finM (stepsM n n 0 R r)).2=3:=by
 unfold finM
 rcases Z508 n n 0 R r h with e | e
 ·rw [e]
  simp only [bne_self_eq_false,cond_false]
  cases (divG (stepsM n n 0 R r).2.1 (stepsM n n 0 R r).2.2 0).2 with
  | true=>right; rfl
  | false=>left; rfl
 ·rw [e]
  right
  rfl
end Go.Abs
namespace Go.Abs
theorem Z671 {obs:List Ob} {m:Nat} (t:Bool) (x:Nat→Rat) {j:Nat} (hj:j < m):dotQ x ((norR obs m t).getD j []) 0=sO (fun o=>wQ o*aQ o j*axQ m x o) obs+(bif t then x m else 0):=by
 rw [Z494 obs m t hj]
 unfold rowN
 rw [Z438,List.range_eq_range',Z607,List.length_map,List.length_range',Nat.zero_add]
 have e1:sumR (fun c=>(cellN obs j c:Rat)*x c) m 0=sO (fun o=>wQ o*aQ o j*axQ m x o) obs:=by
  have e2:sumR (fun c=>(cellN obs j c:Rat)*x c) m 0=sumR (fun c=>sO (fun o=>(wQ o*aQ o j)*(aQ o c*x c)) obs) m 0:=by
   refine Z261 m 0 fun c _ _=>?_
   rw [cell_q,Rat.mul_comm,← sO_mul]
   exact Z525 obs fun o _=>by grind
  rw [e2,Z544]
  exact Z525 obs fun o _=>by rw [Z543]; rfl
 rw [e1]
 cases t with
 | false=>rfl
 | true =>
  have e:qv one1=1:=by rw [Z516]; rfl
  simp only [cond_true,dotQ]
  rw [e]
  grind
theorem Z670 {obs:List Ob} (hs:ObsS obs) {m:Nat} (hm:m≤6) (t:Bool) (tot:Fq) (hB:norB obs 0 m=false) {j:Nat} (hj:j < m):qv ((norV obs m t tot).getD j (0,0))=sO (fun o=>wQ o*aQ o j*qv o.2.1) obs:=by
 have hv:(norV obs m t tot).getD j (0,0)=(rgtN obs j).1:=by
  unfold norV
  rw [List.getD_eq_getElem?_getD,List.getElem?_append_left (by simpa using hj)]
  simp [hj]
 have hfl:(rgtN obs j).2=false:=by
  unfold norB at hB
  rw [List.any_eq_false] at hB
  have:=hB j (by rw [Nat.sub_zero,← List.range_eq_range']; exact List.mem_range.2 hj)
  simpa using this
 have hr:=rgt_q hs (show j < 6 by omega) zer1 Bd.zero hfl
 rw [hv]
 unfold rgtN
 rw [hr,Z690 (a:=zer1) rfl]
 grind
theorem Z672 {obs:List Ob} (hs:ObsS obs) {m:Nat} (hm:m≤6) {t:Bool} {tot:Fq} {x:Nat→Rat} (hB:norB obs 0 m=false) (ha:∀ j,j < m→sO (fun o=>wQ o*aQ o j*reQ m x o) obs=(bif t then x m else 0)) (hb:t=true→sumR x m 0=qv tot) :
  Sol (m+(bif t then 1 else 0)) (norR obs m t) (norV obs m t tot) x:=by
 intro j hj
 by_cases h:j < m
 ·rw [Z671 t x h,Z670 hs hm t tot hB h,← ha j h]
  have:sO (fun o=>wQ o*aQ o j*qv o.2.1) obs=sO (fun o=>wQ o*aQ o j*axQ m x o) obs+sO (fun o=>wQ o*aQ o j*reQ m x o) obs:=by
   rw [← sO_add]
   exact Z525 obs fun o _=>by unfold reQ; grind
  rw [this]
 ·cases t with
  | false=>simp only [cond_false] at hj; omega
  | true =>
   simp only [cond_true] at hj
   have:j=m:=by omega
   subst this
   rw [Z337,Z438,Z606,List.length_replicate,Nat.zero_add]
   have hv:(norV obs j true tot).getD j (0,0)=tot:=by
    unfold norV
    rw [List.getD_eq_getElem?_getD,List.getElem?_append_right (by simp)]
    simp
   rw [hv,dotQ,dotQ,Z690 (a:=zer1) rfl,hb rfl]
   grind
structure SaysT (t:Tb) (x:Nat→Rat):Prop where
 a:∀ j,j < t.1.toNat→sO (fun o=>wQ o*aQ o j*reQ t.1.toNat x o) t.2.1=(bif t.2.2.1 then x t.1.toNat else 0)
 b:t.2.2.1=true→sumR x t.1.toNat 0=qv t.2.2.2
theorem Z425 {t:Tb} (h:(corP t).2=0):tabOk t=true∧norB t.2.1 0 t.1.toNat=false∧(finM (stepsM (t.1.toNat+(bif t.2.2.1 then 1 else 0)) (t.1.toNat+(bif t.2.2.1 then 1 else 0)) 0 (norR t.2.1 t.1.toNat t.2.2.1) (norV t.2.1 t.1.toNat t.2.2.1 t.2.2.2))).2=0 ∧
  (corP t).1=(finM (stepsM (t.1.toNat+(bif t.2.2.1 then 1 else 0)) (t.1.toNat+(bif t.2.2.1 then 1 else 0)) 0 (norR t.2.1 t.1.toNat t.2.2.1) (norV t.2.1 t.1.toNat t.2.2.1 t.2.2.2))).1.take t.1.toNat:=by
 have hl:=Z227 t.2.1 t.1.toNat t.2.2.1
 unfold corP norP at h ⊢
 cases hk:tabOk t with
 | false=>rw [hk] at h; cases h
 | true =>
  rw [hk] at h
  simp only [cond_true] at h ⊢
  cases hb:norB t.2.1 0 t.1.toNat with
  | true=>rw [hb] at h; cases h
  | false =>
   rw [hb] at h
   simp only [cond_false,bne_self_eq_false,hl] at h ⊢
   by_cases hc:(finM (stepsM (t.1.toNat+(bif t.2.2.1 then 1 else 0)) (t.1.toNat+(bif t.2.2.1 then 1 else 0)) 0 (norR t.2.1 t.1.toNat t.2.2.1) (norV t.2.1 t.1.toNat t.2.2.1 t.2.2.2))).2=0
   ·rw [ne_f hc,cond_false]
    exact ⟨trivial,trivial,hc,rfl⟩
   ·rw [Z665 hc,cond_true] at h
    exact absurd h hc
theorem Z426 {t:Tb} (h:(corP t).2=0):∃ x:Nat→Rat,SaysT t x∧(∀ j,j < t.1.toNat→x j=qv ((corP t).1.getD j (0,0)))∧(∀ y,SaysT t y→∀ j,j < t.1.toNat→y j=x j)∧(corP t).1.length=t.1.toNat∧(∀ c∈(corP t).1,vF c=true):=by
 obtain ⟨hk,hb,hc,he⟩:=Z425 h
 obtain ⟨k1,k2,k3,k4⟩:=Z719 hk
 have hn:(bif t.2.2.1 then 1 else 0)≤1:=by cases t.2.2.1 <;> decide
 have H:En _ _ _:=⟨_,_,nor_pl k3 k2 (m:=t.1.toNat) (by omega) t.2.2.1 k4⟩
 obtain ⟨s1,s2,s3⟩:=Z617 (by omega) H hc
 have u:=fun (y:Nat→Rat) (S:Sol _ _ _ y)=>Z456 (by omega) H hc S
 rw [he]
 generalize finM (stepsM (t.1.toNat+(bif t.2.2.1 then 1 else 0)) (t.1.toNat+(bif t.2.2.1 then 1 else 0)) 0 (norR t.2.1 t.1.toNat t.2.2.1) (norV t.2.1 t.1.toNat t.2.2.1 t.2.2.2))=F at *
 obtain ⟨n1,n2⟩:=Z496 k3 (show t.1.toNat≤6 by omega) hb s1
 have hg:∀ j,j < t.1.toNat→(F.1.take t.1.toNat).getD j (0,0)=F.1.getD j (0,0):=fun j hj=>by
  rw [List.getD_eq_getElem?_getD,List.getElem?_take,if_pos hj,← List.getD_eq_getElem?_getD]
 refine ⟨fun j=>qv (F.1.getD j (0,0)),⟨n1,n2⟩,fun j hj=>by rw [hg j hj],fun y hy j hj=>u y (Z672 k3 (by omega) hb hy.a hy.b) j (by omega),by rw [List.length_take]; omega,fun c hc=>s3 c (List.mem_of_mem_take hc)⟩
theorem Z306:∀ (l:List Fq) (y:Fq) {v a:Fq},fsum v l=some a→fsum v (l++[y])=fadd a y
 | [],y,v,a,h=>by
  simp only [fsum,Option.some.injEq] at h
  subst h
  simp only [List.nil_append,fsum]
  cases fadd v y <;> rfl
 | x :: r,y,v,a,h=>by
  simp only [List.cons_append,fsum] at h ⊢
  cases hx:fadd v x with
  | none=>rw [hx] at h; cases h
  | some w =>
   rw [hx] at h
   exact Z306 r y h
theorem Z624:∀ (l:List Fq) {v a:Fq},Bd v→(∀ x∈l,vF x=true)→fsum v l=some a→Bd a∧(qv a=qv v+sumR (fun j=>qv (l.getD j (0,0))) l.length 0)
 | [],v,a,hv,hl,h=>by
  simp only [fsum,Option.some.injEq] at h
  subst h
  exact ⟨hv,by simp only [List.length_nil,sumR]; grind⟩
 | x :: r,v,a,hv,hl,h=>by
  simp only [fsum] at h
  cases hx:fadd v x with
  | none=>rw [hx] at h; cases h
  | some w =>
   rw [hx] at h
   obtain ⟨h1,h2⟩:=Z624 r (Bd.of (Z332 hx)) (fun z hz=>hl z (by simp [hz])) h
   refine ⟨h1,?_⟩
   have sh:∀ (k i:Nat),sumR (fun j=>qv ((x :: r).getD j (0,0))) k (i+1)=sumR (fun j=>qv (r.getD j (0,0))) k i:=by
    intro k
    induction k with
    | zero=>intro i; rfl
    | succ k ih=>intro i; rw [sumR,sumR,ih,List.getD_cons_succ]
   rw [h2,qv_add hv (Bd.of (hl x (by simp))) hx,List.length_cons,sumR,sh,List.getD_cons_zero]
   grind
theorem Z724 {a:Fq} (h:vF a=true):Told (qv a):=by
 have b:=vF_bd h
 refine ⟨a.1,a.2,b.1,b.2,?_⟩
 have h2:=int_ne (x:=a.2) (by omega)
 unfold qv
 grind
theorem Z312 {α:Type} (v:List α) (d:α) {k j:Nat} (h:j < k):(v.take k).getD j d=v.getD j d:=by
 rw [List.getD_eq_getElem?_getD,List.getElem?_take,if_pos h,← List.getD_eq_getElem?_getD]
theorem Z307 {v:List Fq} (hv:∀ x∈v,vF x=true) (ht:∀ k,k < v.length→Told (sumR (fun j=>qv (v.getD j (0,0))) (k+1) 0)):∀ k,k≤v.length→∃ a,fsum (0,1) (v.take k)=some a
 | 0,_=>⟨(0,1),rfl⟩
 | k+1,hk=>by
  have hk':k < v.length:=hk
  obtain ⟨a,e⟩:=Z307 hv ht k (by omega)
  obtain ⟨b1,b2⟩:=Z624 _ Bd.zero (fun x hx=>hv x (List.mem_of_mem_take hx)) e
  rw [Z720 hk',Z306 _ _ e]
  have vx:=hv _ (List.getElem_mem hk')
  refine Z549 b1 (Bd.of vx) ?_
  have e2:∀ (f:Nat→Rat) (k i:Nat),sumR f (k+1) i=sumR f k i+f (i+k):=by
   intro f k
   induction k with
   | zero=>intro i; simp only [sumR,Nat.add_zero]; grind
   | succ k ih=>intro i; rw [sumR,ih,sumR,show i+1+k=i+(k+1) by omega]; grind
  have h:=ht k hk'
  rw [e2,Nat.zero_add,get_ix hk'] at h
  have e3:sumR (fun j=>qv ((v.take k).getD j (0,0))) (v.take k).length 0=sumR (fun j=>qv (v.getD j (0,0))) k 0:=by
   rw [List.length_take,Nat.min_eq_left (by omega)]
   exact Z261 k 0 fun c _ hc=>by rw [Z312 v (0,0) (by omega)]
  rw [b2,e3,Z690 (a:=(0,1)) rfl]
  have:(0:Rat)+sumR (fun j=>qv (v.getD j (0,0))) k 0+qv v[k]=sumR (fun j=>qv (v.getD j (0,0))) k 0+qv v[k]:=by grind
  rw [this]
  exact h
theorem Z187 {t:Tb} (ht:TbD t) (hc:t.2.2.1=true) (h:(corP t).2=0):fsum (0,1) (corP t).1=some t.2.2.2:=by
 obtain ⟨x,S,hx,U,hl,hv⟩:=Z426 h
 obtain ⟨T,hT,hq⟩:=ht.tot
 have hQ:Q4 T:=by unfold Q4; omega
 have qT:qv t.2.2.2=(T:Rat) / 4:=by rw [hq,qv_mk (by omega) (q4_is hQ).1]; push_cast; rfl
 have vT:vF t.2.2.2=true:=by rw [hq]; exact (q4_is hQ).2
 have hct:=ht.ct
 have hs:∀ k,k≤t.1.toNat→sumR (fun j=>qv ((corP t).1.getD j (0,0))) k 0=sumR x k 0:=fun k hk=>Z261 k 0 fun c _ h=>(hx c (by omega)).symm
 have key:∀ k,k < (corP t).1.length→Told (sumR (fun j=>qv ((corP t).1.getD j (0,0))) (k+1) 0):=by
  intro k hk
  rw [hl] at hk
  by_cases hlast:k+1=t.1.toNat
  ·rw [hs _ (by omega),hlast,S.b hc]
   exact Z724 vT
  ·by_cases h0:k=0
   ·subst h0
    have:sumR (fun j=>qv ((corP t).1.getD j (0,0))) (0+1) 0=qv ((corP t).1.getD 0 (0,0)):=by simp only [sumR]; grind
    rw [this,get_ix (show 0 < (corP t).1.length by omega)]
    exact Z724 (hv _ (List.getElem_mem _))
   ·rw [hs _ (by omega)]
    have hone:∀ o∈t.2.1,∃ j:Nat,(j:Int) < t.1∧at6 o.1 j=1:=fun o ho=>(ht.obs o ho).one
    have hm:t.1.toNat=3∨t.1.toNat=4:=by omega
    rcases hm with hm | hm
    ·have:k=1:=by omega
     subst this
     have S':Says t.2.1 3 ((T:Rat) / 4) x:=⟨fun j hj=>by have:=S.a j (by omega); rw [hm,hc] at this; exact this,by have:=S.b hc; rw [hm,qT] at this; exact this⟩
     have U':∀ y,Says t.2.1 3 ((T:Rat) / 4) y→∀ j,j < 3→y j=x j:=fun y hy j hj=>U y ⟨fun j hj=>by rw [hm] at hj ⊢; rw [hc]; exact hy.a j hj,fun _=>by rw [hm,qT]; exact hy.b⟩ j (by omega)
     have:=Z722 ht.obs ht.len hT S' U'
     simp only [sumR]
     have e:x 0+(x (0+1)+0)=x 0+x 1:=by grind
     rw [e]
     exact this
    ·have S':Says t.2.1 4 ((T:Rat) / 4) x:=⟨fun j hj=>by have:=S.a j (by omega); rw [hm,hc] at this; exact this,by have:=S.b hc; rw [hm,qT] at this; exact this⟩
     have U':∀ y,Says t.2.1 4 ((T:Rat) / 4) y→∀ j,j < 4→y j=x j:=fun y hy j hj=>U y ⟨fun j hj=>by rw [hm] at hj ⊢; rw [hc]; exact hy.a j hj,fun _=>by rw [hm,qT]; exact hy.b⟩ j (by omega)
     have hk2:k=1∨k=2:=by omega
     rcases hk2 with rfl | rfl
     ·have h1:∀ o∈t.2.1,at6 o.1 0=1∨at6 o.1 1=1∨at6 o.1 2=1∨at6 o.1 3=1:=fun o ho=>by
       obtain ⟨j,hj,e⟩:=hone o ho
       have:j=0∨j=1∨j=2∨j=3:=by omega
       rcases this with rfl | rfl | rfl | rfl
       ·exact .inl e
       ·exact .inr (.inl e)
       ·exact .inr (.inr (.inl e))
       ·exact .inr (.inr (.inr e))
      have:=four_a ht.obs ht.len hT h1 S' U'
      simp only [sumR]
      have e:x 0+(x (0+1)+0)=x 0+x 1:=by grind
      rw [e]
      exact this
     ·have:=four_b ht.obs ht.len hT S' U'
      simp only [sumR]
      have e:x 0+(x (0+1)+(x (0+1+1)+0))=x 0+x 1+x 2:=by grind
      rw [e]
      exact this
 obtain ⟨a,ha⟩:=Z307 hv key (corP t).1.length (Nat.le_refl _)
 rw [List.take_length] at ha
 obtain ⟨b1,b2⟩:=Z624 _ Bd.zero hv ha
 rw [ha]
 have e:qv a=qv t.2.2.2:=by
  rw [b2,Z690 (a:=(0,1)) rfl,hl,hs _ (Nat.le_refl _),S.b hc]
  grind
 have va:vF a=true:=by
  have hp:∀ (l:List Fq) (u b:Fq),vF u=true→fsum u l=some b→vF b=true:=by
   intro l
   induction l with
   | nil=>intro u b hu hb; simp only [fsum,Option.some.injEq] at hb; rw [← hb]; exact hu
   | cons y l ih =>
    intro u b hu hb
    simp only [fsum] at hb
    cases hy:fadd u y with
    | none=>rw [hy] at hb; cases hb
    | some w=>rw [hy] at hb; exact ih w b (Z332 hy) hb
  exact hp _ _ _ (by decide) ha
 rw [qv_inj va vT e]
theorem Z285 (n:Nat):∀ (k i:Nat) (R:List Rw) (r:Rw),(stepsM n k i R r).1=0→pivR n k i R=true
 | 0,i,R,r,h=>rfl
 | k+1,i,R,r,h=>by
  rw [stepsM] at h
  rw [pivR]
  cases hq:elimM n R r i i with
  | none=>rw [hq] at h; cases h
  | some q =>
   rw [hq] at h
   dsimp only at h
   cases hb:q.2 with
   | true=>rw [hb] at h; cases h
   | false =>
    rw [hb,cond_false] at h
    unfold elimM at hq
    cases hf:findM R i (n - i) i with
    | none=>rw [hf] at hq; cases hq
    | some p =>
     rw [hf] at hq
     injection hq with hq
     subst hq
     dsimp only
     rw [← Z682 n i i n 0 _ (swapL r (0,0) p i) hb]
     exact Z285 n k (i+1) _ _ h
end Go.Abs
namespace Go.Abs
def inR (x:Int):Bool:=btw x (-1000000000) 1000000000
section
variable {v:List Int} (hv:v.all inR=true) (hm:v.length≤64) {e q:Int} (he:-1000000000000≤e∧e≤1000000000000) (hq:-1000000000000≤q∧q≤1000000000000)
include hv hm he hq
end
end Go.Abs
namespace Go.Abs
theorem Z654 (v:List Fq) (hv:∀ x∈v,vF x=true) (h64:v.length≤64):∀ (k i:Nat),i≤v.length→v.length - i < k→C332_l2 N0 k (i:Int) v 0=r1 0
 | 0,i,hi,hk=>by omega
 | k+1,i,hi,hk=>by
  simp only [C332_l2,C332_t2]
  by_cases h:i < v.length
  ·simp only [lt_t h,nn_t,Bool.and_self,cond_true,Int.toNat_natCast,get_ix h,pr_eta,C415_is,hv _ (List.getElem_mem h),Option.bind_some,Bool.not_true,cond_false,w_succ (i:=i) (by omega)]
   exact Z654 v hv h64 k (i+1) h (by omega)
  ·rw [lt_f h,cond_false,gt_f (by omega),cond_false,dec_f (by omega),cond_false]
theorem Z541 (v:List Fq) (hv:∀ x∈v,vF x=true) (h64:v.length≤64):C413 N0 v=r2 ((fsum (0,1) v).getD (0,0)) (bif (fsum (0,1) v).isSome then 0 else 3):=by
 have:=N0_big
 simp only [C413,C413_t,C332,C332_t]
 have e:C332_l2 N0 N0 0 v 0=r1 0:=Z654 v hv h64 N0 0 (by omega) (by omega)
 rw [e,Option.bind_some]
 simp only [pr_eta]
 rw [C396_is v (by omega) (fun x hx=>Bd.of (hv x hx))]
 rfl
theorem Z253 (v:Rw) (hb:v.length≤1048576):∀ (k i:Nat),i≤v.length→v.length - i < k→C200_l4 N0 k (i:Int) v v=r1 true
 | 0,i,_,hk=>by omega
 | k+1,i,hi,hk=>by
  simp only [C200_l4,C200_t4]
  by_cases h:i < v.length
  ·simp only [lt_t h,nn_t,Bool.and_self,cond_true,Int.toNat_natCast,beq_self_eq_true,Bool.not_true,cond_false,w_succ (i:=i) (by omega)]
   exact Z253 v hb k (i+1) h (by omega)
  ·simp only [lt_f h,cond_false]
theorem Z252 (v:Rw) (hb:v.length≤1048576):C200 N0 v v=r1 true:=by
 have:=N0_big
 simp only [C200,C200_t,bne_self_eq_false,cond_false]
 exact Z253 v hb N0 0 (by omega) (by omega)
theorem tab_l4 (t:Tb) (hb:t.2.1.length≤1048576):∀ (k i:Nat),i≤t.2.1.length→t.2.1.length - i < k→C201_l4 N0 k (i:Int) t.1 t.2.1 t.2.2.1 t.2.2.2.1 t.2.2.2.2 t.1 t.2.1 t.2.2.1 t.2.2.2.1 t.2.2.2.2=r1 true
 | 0,i,_,hk=>by omega
 | k+1,i,hi,hk=>by
  simp only [C201_l4,C201_t4]
  by_cases h:i < t.2.1.length
  ·simp only [lt_t h,nn_t,Bool.and_self,cond_true,Int.toNat_natCast,beq_self_eq_true,Bool.not_true,cond_false,w_succ (i:=i) (by omega)]
   exact tab_l4 t hb k (i+1) h (by omega)
  ·simp only [lt_f h,cond_false]
theorem tab_is (t:Tb) (hb:t.2.1.length≤1048576):C201 N0 t t=r1 true:=by
 have:=N0_big
 simp only [C201,C201_t,bne_self_eq_false,cond_false,beq_self_eq_true,Bool.not_true,Bool.and_self]
 exact tab_l4 t hb N0 0 (by omega) (by omega)
theorem ok_fit {t:Tb} (h:tabOk t=true):∀ o∈t.2.1,Fit6 o.1:=by
 intro o ho j
 have:=((Z719 h).2.2.1 o ho).1.1
 by_cases hj:j < 6
 ·have:=this j hj; unfold I64; omega
 ·have e:at6 o.1 j=0:=by
   obtain ⟨k,rfl⟩:∃ k,j=k+6:=⟨j - 6,by omega⟩
   rfl
  rw [e]; unfold I64; omega
section
variable {l:List Fq} {w mo:List Int} {q T:Int}
end
end Go.Abs
namespace Go.Abs
theorem Z517 {p q:Int} (hq:0 < q):redP p q=(p.tdiv ((Int.gcd p q:Nat):Int),q.tdiv ((Int.gcd p q:Nat):Int)):=by
 unfold redP
 rw [dec_f (by omega)]
 rfl
theorem vF_neg (a:Int×Int):vF (-a.1,a.2)=vF a:=by
 unfold vF
 have h1:btw (-a.1) (-1000000000) 1000000000=btw a.1 (-1000000000) 1000000000:=by
  apply Bool.eq_iff_iff.2
  rw [Z580,Z580]
  omega
 simp only [h1,Int.neg_gcd]
theorem Z664 {p q:Int} {a:Int×Int} (hq:0 < q) (h:mkF p q=some a):mkF (-p) q=some (-a.1,a.2):=by
 have e:redP (-p) q=(-(redP p q).1,(redP p q).2):=by
  rw [Z517 hq,Z517 hq,Int.neg_gcd,Int.neg_tdiv]
 unfold mkF at h ⊢
 rw [e,vF_neg]
 cases hv:vF (redP p q) with
 | false=>rw [hv] at h; cases h
 | true =>
  rw [hv] at h
  injection h with h
  rw [← h]
  rfl
end Go.Abs
namespace Go.Abs
theorem q4_sub {x y:Int} (hx:Q4 x) (hy:Q4 y) (hz:Q4 (x - y)):fsub (q4 x) (q4 y)=some (q4 (x - y)):=by
 have e1:=q4_val hx
 have e2:=q4_val hy
 refine q4_of hz (by have:=bd_qq (q4_bd hx) (q4_bd hy); omega) ?_
 generalize q4 x=a at *
 generalize q4 y=b at *
 grind
theorem q4_neg {z:Int} (h:Q4 z):(-(q4 z).1,(q4 z).2)=q4 (-z):=by
 have h':Q4 (-z):=by omega
 have e:=Z664 (by omega) (q4_is h).1
 rw [(q4_is h').1] at e
 exact (Option.some.inj e).symm
theorem q4_qv {z:Int} (h:Q4 z):qv (q4 z)=(z:Rat) / 4:=by
 rw [qv_mk (by omega) (q4_is h).1]
 push_cast
 rfl
def aZ (a:A6):List Int→Nat→Int
 | [],_=>0
 | z :: r,j=>at6 a j*z+aZ a r (j+1)
theorem aZ_bd {a:A6} (ha:Small6 a):∀ (zs:List Int) (j:Nat),(∀ z∈zs,-1000≤z∧z≤1000)→j+zs.length≤6→-(3000*(zs.length:Int))≤aZ a zs j∧aZ a zs j≤3000*(zs.length:Int)
 | [],j,_,_=>by simp [aZ]
 | z :: r,j,h,hj=>by
  rw [List.length_cons] at hj
  have ih:=aZ_bd ha r (j+1) (fun y hy=>h y (by simp [hy])) (by omega)
  have p:=mul_bd (A:=3) (B:=1000) (ha j (by omega)) (h z (by simp))
  rw [aZ,List.length_cons]
  push_cast
  omega
theorem Z694 {a:A6} (ha:Small6 a) (zs:List Int):∀ (j:Nat) (s:Int),(∀ z∈zs,-1000≤z∧z≤1000)→j+zs.length≤6→(-50000000+3000*(zs.length:Int)≤s∧s≤50000000 - 3000*(zs.length:Int))→resG a (zs.map q4) j (q4 s)=(q4 (s - aZ a zs j),false):=by
 induction zs with
 | nil=>intro j s _ _ _; rw [List.map_nil,resG,aZ,Int.sub_zero]
 | cons z r ih =>
  intro j s h hj hs
  rw [List.length_cons] at hj hs
  have hz:=h z (by simp)
  have hc:=ha j (by omega)
  have p:=mul_bd (A:=3) (B:=1000) hc hz
  have ih:=ih (j+1)
  rw [List.map_cons,resG,aZ]
  by_cases h0:at6 a j=0
  ·rw [eq_t h0,cond_true,ih s (fun y hy=>h y (by simp [hy])) (by omega) (by omega),h0,Int.zero_mul,Int.zero_add]
  ·have e1:=q4_mul (w:=at6 a j) (x:=z) (by unfold Q4; omega) (by unfold Q4; omega)
   have e2:=q4_sub (x:=s) (y:=at6 a j*z) (by unfold Q4; omega) (by unfold Q4; omega) (by unfold Q4; omega)
   rw [eq_f h0,cond_false,e1,show val (some (q4 (at6 a j*z)))=q4 (at6 a j*z) from rfl,e2,show val (some (q4 (s - at6 a j*z)))=q4 (s - at6 a j*z) from rfl,ih _ (fun y hy=>h y (by simp [hy])) (by omega) (by omega)]
   simp only [Option.isNone_some,Bool.or_false]
   congr 2
   omega
def wd (d:Fq) (o:Ob):Ob:=(o.1,(d,o.2.2))
theorem Z566 {zs:List Int} (hz:∀ z∈zs,-1000≤z∧z≤1000) (hl:zs.length≤6) (f:Ob→Int):∀ (l:List Ob),(∀ o∈l,Small6 o.1∧(-40000000≤f o∧f o≤40000000))→allG (zs.map q4) (l.map fun o=>wd (q4 (f o)) o)=(l.map (fun o=>q4 (f o - aZ o.1 zs 0)),false)
 | [],_=>rfl
 | o :: r,h=>by
  have ho:=h o (by simp)
  rw [List.map_cons,allG,Z566 hz hl f r fun p hp=>h p (by simp [hp])]
  have e:resG (wd (q4 (f o)) o).1 (zs.map q4) 0 (wd (q4 (f o)) o).2.1=(q4 (f o - aZ o.1 zs 0),false):=Z694 ho.1 zs 0 (f o) hz (by omega) (by omega)
  rw [e]
  rfl
theorem aZ_ax (a:A6) (zs:List Int) (hz:∀ z∈zs,-1000≤z∧z≤1000) (y:Nat→Rat):∀ (l:List Int) (j:Nat),(∀ z∈l,-1000≤z∧z≤1000)→(∀ i,i < l.length→y (j+i)=(l.getD i 0:Rat) / 4)→sumR (fun c=>(at6 a c:Rat)*y c) l.length j=(aZ a l j:Rat) / 4
 | [],j,_,_=>by simp only [List.length_nil,sumR,aZ]; push_cast; grind
 | z :: r,j,h,hy=>by
  have h0:y j=(z:Rat) / 4:=by have:=hy 0 (by simp); simpa using this
  rw [List.length_cons,sumR,aZ,aZ_ax a zs hz y r (j+1) (fun w hw=>h w (by simp [hw])) (fun i hi=>by
   have:=hy (i+1) (by simpa using hi)
   rw [List.getD_cons_succ] at this
   rw [← this]
   congr 1
   omega),h0]
  push_cast
  grind
theorem wd_ok {t:Tb} (h:tabOk t=true) {d:Ob→Fq} (hd:∀ o∈t.2.1,vF (d o)=true) {tot:Fq} (ht:vF tot=true) (hc:t.2.2.1=true∨tot.1=0):tabOk (t.1,(t.2.1.map (fun o=>wd (d o) o),(t.2.2.1,tot)))=true:=by
 unfold tabOk at h ⊢
 simp only [Bool.and_eq_true,List.all_eq_true,List.length_map,Bool.or_eq_true] at h ⊢
 obtain ⟨h1,h2,h3,h4,h5⟩:=h
 refine ⟨h1,h2,ht,?_,?_⟩
 ·rcases hc with hc | hc
  ·exact .inl hc
  ·exact .inr (eq_t hc)
 ·intro o ho
  obtain ⟨p,hp,rfl⟩:=List.mem_map.1 ho
  have:=h5 p hp
  unfold obOk obTail at this ⊢
  simp only [Bool.and_eq_true] at this ⊢
  exact ⟨this.1,this.2.1,hd p hp,this.2.2.2⟩
theorem Z731 (l:List Ob) (d:Ob→Fq) (j k:Nat):cellN (l.map fun o=>wd (d o) o) j k=cellN l j k:=by
 unfold cellN
 rw [List.map_map]
 rfl
theorem Z733 (l:List Ob) (d:Ob→Fq) (m:Nat) (t:Bool):norR (l.map fun o=>wd (d o) o) m t=norR l m t:=by
 unfold norR rowN
 simp only [Z731]
theorem Z732 {t:Tb} (h:(corP t).2=0) {d:Ob→Fq} {tot:Fq} (hok:tabOk (t.1,(t.2.1.map (fun o=>wd (d o) o),(t.2.2.1,tot)))=true):(corP (t.1,(t.2.1.map (fun o=>wd (d o) o),(t.2.2.1,tot)))).2=0∨(corP (t.1,(t.2.1.map (fun o=>wd (d o) o),(t.2.2.1,tot)))).2=3:=by
 obtain ⟨hk,hb,hc,he⟩:=Z425 h
 have hp:pivR (t.1.toNat+(bif t.2.2.1 then 1 else 0)) (t.1.toNat+(bif t.2.2.1 then 1 else 0)) 0 (norR t.2.1 t.1.toNat t.2.2.1)=true:=by
  unfold finM at hc
  cases h1:(stepsM (t.1.toNat+(bif t.2.2.1 then 1 else 0)) (t.1.toNat+(bif t.2.2.1 then 1 else 0)) 0 (norR t.2.1 t.1.toNat t.2.2.1) (norV t.2.1 t.1.toNat t.2.2.1 t.2.2.2)).1 != 0 with
  | true =>
   rw [h1,cond_true] at hc
   simp only at hc
   rw [hc] at h1
   cases h1
  | false=>exact Z285 _ _ _ _ _ (by simpa using h1)
 have hl:=Z227 t.2.1 t.1.toNat t.2.2.1
 unfold corP norP
 rw [hok]
 simp only [cond_true,Z733]
 cases norB (t.2.1.map fun o=>wd (d o) o) 0 t.1.toNat with
 | true=>right; rfl
 | false =>
  simp only [cond_false,bne_self_eq_false,hl]
  rcases Z455 (r:=norV (t.2.1.map fun o=>wd (d o) o) t.1.toNat t.2.2.1 tot) hp with e | e
  ·left; rw [e]; rfl
  ·right; rw [e]; rfl
theorem Z557 {t:Tb} (ht:TbD t) {zs:List Int} (hz:∀ z∈zs,-1000≤z∧z≤1000) (hl:zs.length=t.1.toNat) {tot:Fq} (hs:t.2.2.1=true→fsum (0,1) (zs.map q4)=some tot)
  (h:(corP (t.1,(t.2.1.map (fun o=>wd (q4 (aZ o.1 zs 0)) o),(t.2.2.1,tot)))).2=0):(corP (t.1,(t.2.1.map (fun o=>wd (q4 (aZ o.1 zs 0)) o),(t.2.2.1,tot)))).1=zs.map q4:=by
 obtain ⟨x,S,hx,U,hlen,hv⟩:=Z426 h
 simp only at hx U hlen
 have hct:=ht.ct
 have hq:∀ z∈zs,Q4 z:=fun z h=>by have:=hz z h; unfold Q4; omega
 have hat:∀ j,j < zs.length→(zs.map q4).getD j (0,0)=q4 (zs.getD j 0):=fun j hj=>by simp [List.getD_eq_getElem?_getD,hj]
 have hmem:∀ j,j < zs.length→zs.getD j 0∈zs:=fun j hj=>by rw [get_ix hj]; exact List.getElem_mem hj
 have hy:SaysT (t.1,(t.2.1.map (fun o=>wd (q4 (aZ o.1 zs 0)) o),(t.2.2.1,tot))) (fun j=>if j < zs.length then (zs.getD j 0:Rat) / 4 else 0):=by
  refine ⟨fun j hj=>?_,fun hc=>?_⟩
  ·simp only at hj ⊢
   have e0:sO (fun o=>wQ o*aQ o j*reQ t.1.toNat (fun j=>if j < zs.length then (zs.getD j 0:Rat) / 4 else 0) o) (t.2.1.map fun o=>wd (q4 (aZ o.1 zs 0)) o)=sO (fun _=>0) (t.2.1.map fun o=>wd (q4 (aZ o.1 zs 0)) o):=by
    refine Z525 _ fun o ho=>?_
    obtain ⟨p,hp,rfl⟩:=List.mem_map.1 ho
    have hsm:Small6 p.1:=((Z719 ht.ok).2.2.1 p hp).1.1
    have hb:=aZ_bd hsm zs 0 hz (by omega)
    have:reQ t.1.toNat (fun j=>if j < zs.length then (zs.getD j 0:Rat) / 4 else 0) (wd (q4 (aZ p.1 zs 0)) p)=0:=by
     unfold reQ axQ aQ wd
     simp only
     rw [q4_qv (by unfold Q4; omega),← hl,aZ_ax p.1 zs hz _ zs 0 hz fun i hi=>by rw [Nat.zero_add,if_pos hi]]
     grind
    rw [this]
    grind
   rw [e0]
   have e1:∀ l:List Ob,sO (fun _=>(0:Rat)) l=0:=by
    intro l
    induction l with
    | nil=>rfl
    | cons o r ih=>rw [sO,ih]; grind
   rw [e1]
   cases t.2.2.1 with
   | false=>rfl
   | true=>rw [cond_true,if_neg (by omega)]
  ·simp only at hc ⊢
   obtain ⟨_,b2⟩:=Z624 _ Bd.zero (fun y hy=>by obtain ⟨z,hz',rfl⟩:=List.mem_map.1 hy; exact (q4_is (hq z hz')).2) (hs hc)
   rw [b2,Z690 (a:=(0,1)) rfl,List.length_map,← hl]
   have:sumR (fun j=>if j < zs.length then (zs.getD j 0:Rat) / 4 else 0) zs.length 0=sumR (fun j=>qv ((zs.map q4).getD j (0,0))) zs.length 0:=Z261 _ 0 fun c _ hc=>by
    rw [if_pos (by omega),hat c (by omega),q4_qv (hq _ (hmem c (by omega)))]
   rw [this]
   grind
 refine Z50 (d:=(0,0)) (by rw [hlen,List.length_map,hl]) fun j hj=>?_
 rw [hlen] at hj
 have hjz:j < zs.length:=by omega
 have h1:=U _ hy j hj
 rw [if_pos hjz] at h1
 rw [hat j hjz]
 refine qv_inj ?_ (q4_is (hq _ (hmem j hjz))).2 ?_
 ·rw [get_ix (by omega)]
  exact hv _ (List.getElem_mem _)
 ·rw [← hx j hj,← h1,q4_qv (hq _ (hmem j hjz))]
end Go.Abs
namespace Go.Abs
abbrev LsR:Type:=Option (((Bool×Unit)×((Int×Unit)×Unit))×Unit)
def LsG (r:LsR):Prop:=r=r2 false 3∨r=r2 true 0
section
variable {x:List Fq} {m:Nat} (hx:∀ y∈x,vF y=true) (hl:x.length=m) (h6:m≤6)
include hx hl h6
theorem Z635 (G:Int→Bool→List Fq→Int→List Nat→List Rw→Bool→Int→List Ob→Bool→Int→Int→List Fq→List Fq→LsR) (pos:List Nat) (inn:List Rw) (row:Rw) {i:Nat} (hi9:i≤1000) (hi:i < pos.length) (hrow:inn.getD (pos.getD i 0) []=row) (hrl:m≤row.length) (hrv:∀ y∈row,Bd y) (same:Bool) (mm:Int) (b0:Int) (b1:List Ob) (cl:Bool) (b3 b4:Int) (rt all:List Fq) (hall:all.length≤1000) :
  ∀ (f k:Nat) (c:Bool) (g:Fq),k≤m→m - k < f→Bd g →
  ∃ g' c',C296_l12 N0 G f (k:Int) (i:Int) x x mm (i:Int) same (m:Int) g.1 g.2 pos inn c b0 b1 cl b3 b4 rt all =
    (cond same (cond ((g'.1==((all++[g']).getD 0 (0,0)).1)&&((g'.2==((all++[g']).getD 0 (0,0)).2)&&true))
     (cond cl (G ((i+1:Nat):Int) true x mm pos inn c' b0 b1 cl b3 b4 (all++[g']) rt) (G ((i+1:Nat):Int) (g'.1==0) x mm pos inn c' b0 b1 cl b3 b4 (all++[g']) rt))
     (G ((i+1:Nat):Int) false x mm pos inn c' b0 b1 cl b3 b4 (all++[g']) rt)) (G ((i+1:Nat):Int) false x mm pos inn c' b0 b1 cl b3 b4 (all++[g']) rt)) ∧
   (c'=false→c=false∧qv g'=qv g - sumR (fun j=>qv (row.getD j (0,0))*qv (x.getD j (0,0))) (m - k) k∧(vF g=true→vF g'=true))
 | 0,k,c,g,hk,hf,_=>by omega
 | f+1,k,c,g,hk,hf,hg=>by
  simp only [C296_l12,C296_t12,hrow,hl]
  by_cases h:k < m
  ·have hkx:k < x.length:=by omega
   have hkr:k < row.length:=by omega
   have bx:Bd (x.getD k (0,0)):=by rw [get_ix hkx]; exact Bd.of (hx _ (List.getElem_mem hkx))
   have br:Bd (row.getD k (0,0)):=by rw [get_ix hkr]; exact hrv _ (List.getElem_mem hkr)
   simp only [lt_t h,lt_t hi,nn_t,Bool.and_self,cond_true,Int.toNat_natCast,hrow,lt_t hkr,pr_eta,C236_is br bx,Option.bind_some]
   rw [C238_is hg Bd.mul]
   simp only [Option.bind_some,w_succ (i:=k) (by omega)]
   obtain ⟨g',c',e1,e2⟩:=Z635 G pos inn row hi9 hi hrow hrl hrv same mm b0 b1 cl b3 b4 rt all hall f (k+1) ((c||(fmul (row.getD k (0,0)) (x.getD k (0,0))).isNone)||(fsub g (val (fmul (row.getD k (0,0)) (x.getD k (0,0))))).isNone) (val (fsub g (val (fmul (row.getD k (0,0)) (x.getD k (0,0)))))) h (by omega) Bd.sub
   refine ⟨g',c',e1,fun hc=>?_⟩
   obtain ⟨k1,k2,k3⟩:=e2 hc
   simp only [Bool.or_eq_false_iff] at k1
   obtain ⟨⟨q1,q2⟩,q3⟩:=k1
   cases hm:fmul (row.getD k (0,0)) (x.getD k (0,0)) with
   | none=>rw [hm] at q2; cases q2
   | some p =>
    rw [hm] at q3 k2 k3
    simp only [Option.getD_some] at q3 k2 k3
    cases hs:fsub g p with
    | none=>rw [hs] at q3; cases q3
    | some d =>
     rw [hs] at k2 k3
     simp only [Option.getD_some] at k2 k3
     refine ⟨q1,?_,fun _=>k3 (Z332 hs)⟩
     rw [k2,qv_sub hg (Bd.of (Z332 hm)) hs,qv_mul br bx hm,show m - k=(m - (k+1))+1 by omega,sumR]
     grind
  ·have:k=m:=by omega
   subst this
   have hr:decide ((all.length+((g.1,g.2) :: ([]:List Fq)).length)*17≤70368744177664)=true:=dec_t (by simp only [List.length_cons,List.length_nil]; omega)
   have hp:decide ((0:Int) < (((all++((g.1,g.2) :: [])).length:Nat):Int))=true:=dec_t (by simp only [List.length_append,List.length_cons,List.length_nil]; omega)
   refine ⟨g,c,?_,fun hc=>⟨hc,by rw [Nat.sub_self,sumR]; grind,fun h=>h⟩⟩
   simp only [lt_f h,cond_false,hr,cond_true,hp,w_succ (i:=i) (by omega)]
   rfl
theorem isl_l8 {R:List Rw} {n:Nat} (hn:m≤n) (hR:Sq n R) (hbR:∀ i,i < n→∀ y∈R.getD i [],Bd y) (rt:List Fq) (hrt:m≤rt.length) (hrv:∀ y∈rt,vF y=true) (obs:List Ob) (cl:Bool) (tot:Fq) (z:Rat)
  (hz:∀ i,i < m→qv (rt.getD i (0,0)) - sumR (fun j=>qv ((R.getD i []).getD j (0,0))*qv (x.getD j (0,0))) m 0=z) (ho:cl=false→z=0) (hs:cl=true→fsum (0,1) x=some tot) (mc:Int) :
  ∀ (f i:Nat) (same c:Bool) (all:List Fq),i≤m→m - i < f→all.length=i→(c=false→same=true∧∀ y∈all,vF y=true∧qv y=z) →
  LsG (C296_l8 N0 f (i:Int) same x (m:Int) (List.range n) R c mc obs cl tot.1 tot.2 all rt)
 | 0,i,same,c,all,hi,hf,_,_=>by omega
 | f+1,i,same,c,all,hi,hf,hal,hc=>by
  have hN:=N0_big
  simp only [C296_l8,C296_t8,hl]
  by_cases h:i < m
  ·have hin:i < n:=by omega
   have hat:(List.range n).getD i 0=i:=by simp [List.getD_eq_getElem?_getD,hin]
   have hir:i < rt.length:=by omega
   have vr:vF (rt.getD i (0,0))=true:=by rw [get_ix hir]; exact hrv _ (List.getElem_mem hir)
   have ih:=fun same c all h1 h2=>isl_l8 hn hR hbR rt hrt hrv obs cl tot z hz ho hs mc f (i+1) same c all h (by omega) h1 h2
   simp only [lt_t h,nn_t,lt_t hir,Bool.and_self,cond_true,Int.toNat_natCast]
   obtain ⟨g,c',e1,e2⟩:=Z635 hx hl h6 (C296_l8 N0 f) (List.range n) R (R.getD i []) (i:=i) (by omega) (by rw [List.length_range]; exact hin) (by rw [hat]) (by rw [hR.2 i hin]; exact hn) (hbR i hin) same (m:Int) mc obs cl tot.1 tot.2 rt all (by omega) N0 0 c (rt.getD i (0,0)) (by omega) (by omega) (Bd.of vr)
   have e1':=e1
   rw [show ((0:Nat):Int)=0 from rfl] at e1'
   rw [e1']
   have hlen:(all++[g]).length=i+1:=by simp [hal]
   cases hc':c' with
   | true =>
    have no:∀ s,LsG (C296_l8 N0 f ((i+1:Nat):Int) s x (m:Int) (List.range n) R true mc obs cl tot.1 tot.2 (all++[g]) rt):=fun s=>ih s true _ hlen (fun h=>by cases h)
    cases same <;> cases ((g.1==((all++[g]).getD 0 (0,0)).1)&&((g.2==((all++[g]).getD 0 (0,0)).2)&&true)) <;> cases cl <;> exact no _
   | false =>
    obtain ⟨k1,k2,k3⟩:=e2 hc'
    obtain ⟨s1,s2⟩:=hc k1
    subst s1
    have vg:=k3 vr
    have qg:qv g=z:=by rw [k2,Nat.sub_zero]; exact hz i h
    have hhead:g=(all++[g]).getD 0 (0,0):=by
     cases all with
     | nil=>rfl
     | cons y r =>
      have:=s2 y (by simp)
      show g=y
      exact qv_inj vg this.1 (qg.trans this.2.symm)
    have hq:((g.1==((all++[g]).getD 0 (0,0)).1)&&((g.2==((all++[g]).getD 0 (0,0)).2)&&true))=true:=by
     rw [← hhead]
     simp
    rw [hq,cond_true,cond_true]
    have hall:∀ y∈all++[g],vF y=true∧qv y=z:=fun y hy=>by
     rcases List.mem_append.1 hy with hy | hy
     ·exact s2 y hy
     ·rw [List.mem_singleton.1 hy]; exact ⟨vg,qg⟩
    cases cl with
    | true =>
     rw [cond_true]
     exact ih true false _ hlen (fun _=>⟨rfl,hall⟩)
    | false =>
     have g0:g.1=0:=Z243 (Bd.of vg) (by rw [qg]; exact ho rfl)
     rw [cond_false,eq_t g0]
     exact ih true false _ hlen (fun _=>⟨rfl,hall⟩)
  ·have:i=m:=by omega
   subst this
   have bx:∀ y∈x,Bd y:=fun y hy=>Bd.of (hx y hy)
   rw [lt_f h,cond_false,C239_is x (by omega) bx]
   obtain ⟨g1,g2⟩:=Z313 x (0,1)
   cases hcl:cl with
   | false =>
    rw [cond_false]
    cases hcc:c with
    | true=>exact .inl rfl
    | false =>
     obtain ⟨s1,_⟩:=hc hcc
     subst s1
     exact .inr rfl
   | true =>
    rw [cond_true]
    have hf:=hs hcl
    have h1:(gsum (0,1) x).2=false:=by rw [g1,hf]; rfl
    have h2:=g2 tot hf
    cases hcc:c with
    | true =>
     left
     cases same <;> rfl
    | false =>
     obtain ⟨s1,_⟩:=hc hcc
     subst s1
     right
     rw [cond_true,Option.bind_some]
     dsimp only
     rw [h1,h2]
     simp
end
theorem Z214 {t:Tb} (ht:TbD t) (hf:∀ o∈t.2.1,Fit6 o.1) (h:(corP t).2=0):LsG (C296 N0 t (corP t).1):=by
 have hN:=N0_big
 obtain ⟨hk,hb,hc,he⟩:=Z425 h
 obtain ⟨k1,k2,k3,k4⟩:=Z719 hk
 obtain ⟨x,S,hx,U,hl,hv⟩:=Z426 h
 have hct:=ht.ct
 have hn:(bif t.2.2.1 then 1 else 0)≤1:=by cases t.2.2.1 <;> decide
 have H:=nor_pl k3 k2 (m:=t.1.toNat) (by omega) t.2.2.1 k4
 have E:En _ _ _:=⟨_,_,H⟩
 have hask:askC t (corP t).1=0:=by
  unfold askC
  rw [hk,List.all_eq_true.2 hv,ne_f (by omega)]
  rfl
 have hcode:=Z190 ht
 obtain ⟨v1,v2⟩:=Z226 hcode
 have hP:norP t=(norR t.2.1 t.1.toNat t.2.2.1,(norV t.2.1 t.1.toNat t.2.2.1 t.2.2.2,0)):=by
  unfold norP
  rw [hk,hb]
  rfl
 rw [hP,Bool.and_eq_true] at v1
 have hrow:∀ i,i < t.1.toNat→sumR (fun j=>qv (((norR t.2.1 t.1.toNat t.2.2.1).getD i []).getD j (0,0))*qv ((corP t).1.getD j (0,0))) t.1.toNat 0=sO (fun o=>wQ o*aQ o i*axQ t.1.toNat x o) t.2.1:=by
  intro i hi
  have e2:sO (fun o=>wQ o*aQ o i*axQ t.1.toNat x o) t.2.1=sumR (fun c=>(cellN t.2.1 i c:Rat)*x c) t.1.toNat 0:=by
   have e3:sumR (fun c=>(cellN t.2.1 i c:Rat)*x c) t.1.toNat 0=sumR (fun c=>sO (fun o=>(wQ o*aQ o i)*(aQ o c*x c)) t.2.1) t.1.toNat 0:=by
    refine Z261 _ 0 fun c _ _=>?_
    rw [cell_q,Rat.mul_comm,← sO_mul]
    exact Z525 t.2.1 fun o _=>by grind
   rw [e3,Z544]
   exact Z525 t.2.1 fun o _=>by rw [Z543]; rfl
  rw [e2]
  refine Z261 _ 0 fun c _ hc=>?_
  have hc':c < t.1.toNat:=by omega
  have:((norR t.2.1 t.1.toNat t.2.2.1).getD i []).getD c (0,0)=(cellN t.2.1 i c,1):=by
   rw [Z494 _ _ _ hi]
   unfold rowN
   rw [List.getD_eq_getElem?_getD,List.getElem?_append_left (by simpa using hc')]
   simp [hc']
  rw [this,Z516,hx c hc']
 simp only [C296,C296_t,pr_eta]
 rw [C123_is t _ (by omega) hf (by omega),hask,Option.bind_some]
 dsimp only
 rw [bne_self_eq_false,cond_false]
 have ht1:t=(((t.1.toNat:Nat):Int),(t.2.1,(t.2.2.1,t.2.2.2))):=Prod.ext (by simp only; omega) rfl
 have hnm:=Z26 k3 k2 (m:=t.1.toNat) (by omega) (by omega) t.2.2.1 t.2.2.2
 rw [← ht1] at hnm
 rw [hnm,hb,Option.bind_some]
 dsimp only
 have hcast:t.1=((t.1.toNat:Nat):Int):=by omega
 have hRl:=Z227 t.2.1 t.1.toNat t.2.2.1
 rw [hRl]
 have key:=isl_l8 (x:=(corP t).1) (m:=t.1.toNat) hv hl (by omega) (R:=norR t.2.1 t.1.toNat t.2.2.1) (n:=t.1.toNat+(bif t.2.2.1 then 1 else 0)) (by omega) H.toSq (fun i hi=>E.row_bd hi) (norV t.2.1 t.1.toNat t.2.2.1 t.2.2.2) (by rw [Z495]; omega) (fun y hy=>List.all_eq_true.1 v1.1 y hy) t.2.1 t.2.2.1 t.2.2.2 (bif t.2.2.1 then x t.1.toNat else 0)
  (fun i hi=>by
   rw [hrow i hi,Z670 k3 (by omega) t.2.2.1 t.2.2.2 hb hi,← S.a i hi]
   have:sO (fun o=>wQ o*aQ o i*qv o.2.1) t.2.1=sO (fun o=>wQ o*aQ o i*axQ t.1.toNat x o) t.2.1+sO (fun o=>wQ o*aQ o i*reQ t.1.toNat x o) t.2.1:=by
    rw [← sO_add]
    exact Z525 t.2.1 fun o _=>by unfold reQ; grind
   grind) (fun h=>by rw [h]; rfl) (fun hcl=>Z187 ht hcl h) t.1 N0 0 true false [] (by omega) (by omega) rfl (fun _=>⟨rfl,fun y hy=>by simp at hy⟩)
 rw [← hcast] at key
 exact key
end Go.Abs
namespace Go.Abs
theorem Z139 (t:Tb) {m:Nat} (ht:t.1=(m:Int)) (hm:m≤6):∀ (f k:Nat) (s:Src) (b:Int) (zs:List Int),k≤m→m - k < f→SrcAt s b→b+4*((m - k:Nat):Int)≤80000000000→zs.length=k→(∀ z∈zs,-80≤z∧z≤80) →
  ∃ zs':List Int,C194_l4 N0 f (k:Int) s.1 s.2.1 s.2.2 (zs.map q4) t.1 t.2.1 t.2.2.1 t.2.2.2.1 t.2.2.2.2=r1 (zs'.map q4)∧zs'.length=m∧(∀ z∈zs',-80≤z∧z≤80)
 | 0,k,s,b,zs,_,hf,_,_,_,_=>by omega
 | f+1,k,s,b,zs,hk,hf,hs,hb,hl,ho=>by
  simp only [C194_l4,C194_t4,pr_eta]
  rw [ht]
  by_cases h:k < m
  ·obtain ⟨z,s1,e1,hz,k1⟩:=Z528 hs (by omega)
   rw [lt_t h,cond_true,e1,Option.bind_some,dec_t (by simp only [List.length_map,List.length_cons,List.length_nil]; omega),cond_true,w_succ (i:=k) (by omega)]
   obtain ⟨zs',f1,f2⟩:=Z139 t ht hm f (k+1) s1 _ (zs++[z]) h (by omega) k1 (by omega) (by simp; omega) (fun y hy=>by
    rcases List.mem_append.1 hy with hy | hy
    ·exact ho y hy
    ·rw [List.mem_singleton.1 hy]; exact hz)
   rw [ht,List.map_append] at f1
   exact ⟨zs',f1,f2⟩
  ·have:k=m:=by omega
   subst this
   rw [lt_f h,cond_false]
   exact ⟨zs,rfl,hl,ho⟩
theorem Z106 {code:List Int} (h:∀ y∈code,0≤y∧y≤255) (hl:code.length≤1000000000) {t:Tb} (ht:1≤t.1∧t.1≤6):∃ zs:List Int,C194 N0 code t=r1 (zs.map q4)∧zs.length=t.1.toNat∧(∀ z∈zs,-80≤z∧z≤80):=by
 have:=N0_big
 obtain ⟨e,k⟩:=Z531 code h hl
 obtain ⟨m,hm⟩:∃ m:Nat,t.1=(m:Int):=⟨t.1.toNat,by omega⟩
 obtain ⟨zs,e1,e2,e3⟩:=Z139 t hm (by omega) N0 0 _ _ [] (by omega) (by omega) k (by omega) rfl (fun y hy=>by simp at hy)
 refine ⟨zs,?_,by omega,e3⟩
 simp only [C194,C194_t,e,Option.bind_some,pr_eta]
 exact e1
def mixL {α β:Type} (g h:α→β) (l:List α) (i:Nat):List β:=(l.take i).map g++(l.drop i).map h
theorem Z662 {α β:Type} (g h:α→β) (l:List α) {i:Nat} (hi:i≤l.length):(mixL g h l i).length=l.length:=by
 unfold mixL
 rw [List.length_append,List.length_map,List.length_map,List.length_take,List.length_drop]
 omega
theorem Z661 {α β:Type} (g h:α→β) (l:List α) {i:Nat} (hi:i < l.length) (d:β):(mixL g h l i).getD i d=h l[i]:=by
 unfold mixL
 rw [List.getD_eq_getElem?_getD,List.getElem?_append_right (by rw [List.length_map,List.length_take]; omega),List.length_map,List.length_take,Nat.min_eq_left (by omega),Nat.sub_self,List.getElem?_map,List.getElem?_drop]
 simp [hi]
theorem Z663 {α β:Type} (g h:α→β) (l:List α) {i:Nat} (hi:i < l.length):(mixL g h l i).set i (g l[i])=mixL g h l (i+1):=by
 unfold mixL
 rw [List.set_append_right _ _ (by rw [List.length_map,List.length_take]; omega),List.length_map,List.length_take,Nat.min_eq_left (by omega),Nat.sub_self,Z608 hi,List.map_cons,List.set_cons_zero,Z720 hi,List.map_append]
 simp
theorem Z660 {α β:Type} (g h:α→β) (l:List α):mixL g h l l.length=l.map g:=by
 unfold mixL
 rw [List.take_length,List.drop_length]
 simp
section
variable {t:Tb} (ht:TbD t) (hcor:(corP t).2=0) {zs:List Int} (hz:∀ z∈zs,-1000≤z∧z≤1000) (hl:zs.length=t.1.toNat) {tot:Fq} (vt:vF tot=true) (hs:t.2.2.1=true→fsum (0,1) (zs.map q4)=some tot) (hop:t.2.2.1=true∨tot.1=0)
include ht hcor hz hl vt hs hop
theorem rest54 (v:List Fq) (hv:∀ y∈v,y.1=0) (hvl:v.length≤100) (c:Int) (y:List Fq) (F:List Fq) (hyl:y.length≤100) (hc:c=3∨(c=0∧F=y)):∀ (f i:Nat),i≤v.length→v.length - i < f→laws_FnLeast_l54 N0 f (i:Int) c v y F=r1 true
 | 0,i,hi,hf=>by omega
 | f+1,i,hi,hf=>by
  simp only [laws_FnLeast_l54,laws_FnLeast_t54]
  by_cases h:i < v.length
  ·have h0:=hv _ (List.getElem_mem h)
   simp only [lt_t h,nn_t,Bool.and_self,cond_true,Int.toNat_natCast,get_ix h,ne_f h0,cond_false,w_succ (i:=i) (by omega)]
   exact rest54 v hv hvl c y F hyl hc f (i+1) h (by omega)
  ·rw [lt_f h,cond_false]
   rcases hc with rfl | ⟨rfl,rfl⟩
   ·rfl
   ·rw [show ((0:Int)==3)=false from rfl,cond_false,eq_t rfl,cond_true,Z252 _ (by omega)]
    rfl
theorem rest46:∀ (f i:Nat),i≤t.2.1.length→t.2.1.length - i < f →
  laws_FnLeast_l46 N0 f (i:Int) (t.2.1.map fun o=>q4 (0 - aZ o.1 zs 0)) t.1 t.2.2.1 tot.1 tot.2 (zs.map q4) (mixL (fun o=>wd (q4 (aZ o.1 zs 0)) o) (fun o=>wd (0,1) o) t.2.1 i)=r1 true
 | 0,i,hi,hf=>by omega
 | f+1,i,hi,hf=>by
  have hN:=N0_big
  have hct:=ht.ct
  have hlen:=ht.len
  have hsm:∀ o∈t.2.1,Small6 o.1:=fun o ho=>((Z719 ht.ok).2.2.1 o ho).1.1
  have hab:∀ o∈t.2.1,Q4 (aZ o.1 zs 0)∧Q4 (0 - aZ o.1 zs 0):=fun o ho=>by have:=aZ_bd (hsm o ho) zs 0 hz (by omega); unfold Q4; omega
  simp only [laws_FnLeast_l46,laws_FnLeast_t46,Z662 _ _ _ hi,List.length_map]
  by_cases h:i < t.2.1.length
  ·have ho:=List.getElem_mem h
   have hm0:i < (t.2.1.map fun o=>q4 (0 - aZ o.1 zs 0)).length:=by rw [List.length_map]; exact h
   have hg0:(t.2.1.map fun o=>q4 (0 - aZ o.1 zs 0)).getD i (0,0)=q4 (0 - aZ t.2.1[i].1 zs 0):=by rw [get_ix hm0]; simp
   have hb:=(q4_bd (hab _ ho).2).2
   have hneg:(IntKind.wrap .i64 (0 - (q4 (0 - aZ t.2.1[i].1 zs 0)).1),(q4 (0 - aZ t.2.1[i].1 zs 0)).2)=q4 (aZ t.2.1[i].1 zs 0):=by
    rw [w_in (by unfold I64; omega),Int.zero_sub,q4_neg (hab _ ho).2]
    congr 1
    omega
   simp only [lt_t h,nn_t,Bool.and_self,cond_true,Int.toNat_natCast,hg0,Z661 _ _ _ h,w_succ (i:=i) (by omega)]
   rw [letIn,hneg]
   have es:=Z663 (fun o=>wd (q4 (aZ o.1 zs 0)) o) (fun o=>wd (0,1) o) t.2.1 h
   have ih:=rest46 f (i+1) h (by omega)
   rw [← es] at ih
   generalize q4 (aZ t.2.1[i].1 zs 0)=d at ih ⊢
   generalize mixL (fun o=>wd (q4 (aZ o.1 zs 0)) o) (fun o=>wd (0,1) o) t.2.1 i=M at ih ⊢
   exact ih
  ·have:i=t.2.1.length:=by omega
   subst this
   have hok:=wd_ok ht.ok (d:=fun o=>q4 (aZ o.1 zs 0)) (fun o ho=>(q4_is (hab o ho).1).2) vt hop
   have hfit:=ok_fit hok
   have hall:=Z566 hz (by omega) (fun o=>aZ o.1 zs 0) t.2.1 (fun o ho=>⟨hsm o ho,by have:=(hab o ho).1; unfold Q4 at this; have h2:=aZ_bd (hsm o ho) zs 0 hz (by omega); omega⟩)
   have hyv:(zs.map q4).all vF=true:=List.all_eq_true.2 fun y hy=>by obtain ⟨z,h,rfl⟩:=List.mem_map.1 hy; exact (q4_is (by have:=hz z h; unfold Q4; omega)).2
   have hask:askC (t.1,(t.2.1.map (fun o=>wd (q4 (aZ o.1 zs 0)) o),(t.2.2.1,tot))) (zs.map q4)=0:=by
    unfold askC
    rw [hok,hyv,ne_f (by simp only [List.length_map]; omega)]
    rfl
   have hres:resRes (t.1,(t.2.1.map (fun o=>wd (q4 (aZ o.1 zs 0)) o),(t.2.2.1,tot))) (zs.map q4)=r2 (t.2.1.map fun o=>q4 (aZ o.1 zs 0 - aZ o.1 zs 0)) 0:=by
    unfold resRes
    rw [hask]
    simp only [hall]
    rfl
   rw [lt_f h,cond_false,Z660]
   simp only [pr_eta]
   rw [C58_is _ (by simp only [List.length_map]; omega) hfit,C91_is _ _ (by simp only [List.length_map]; omega) hfit (by rw [List.length_map]; omega),hres]
   simp only [Option.bind_some,bne_self_eq_false,cond_false,List.length_map]
   refine rest54 ht hcor hz hl vt hs hop _ (fun y hy=>?_) (by rw [List.length_map]; omega) _ _ _ (by rw [List.length_map]; omega) ?_ N0 0 (by omega) (by rw [List.length_map]; omega)
   ·obtain ⟨o,_,rfl⟩:=List.mem_map.1 hy
    rw [Int.sub_self,Z689]
   ·rcases Z732 hcor hok with e | e
    ·exact .inr ⟨e,Z557 ht hz hl hs e⟩
    ·exact .inl e
theorem rest39:∀ (f i:Nat),i≤t.2.1.length→t.2.1.length - i < f →
  laws_FnLeast_l39 N0 f (i:Int) t.1 t.2.2.1 tot.1 tot.2 (zs.map q4) (mixL (fun o=>wd (0,1) o) (fun o=>o) t.2.1 i)=r1 true
 | 0,i,hi,hf=>by omega
 | f+1,i,hi,hf=>by
  have hN:=N0_big
  have hct:=ht.ct
  have hlen:=ht.len
  have hsm:∀ o∈t.2.1,Small6 o.1:=fun o ho=>((Z719 ht.ok).2.2.1 o ho).1.1
  simp only [laws_FnLeast_l39,laws_FnLeast_t39,Z662 _ _ _ hi]
  by_cases h:i < t.2.1.length
  ·simp only [lt_t h,nn_t,Bool.and_self,cond_true,Int.toNat_natCast,Z661 _ _ _ h,w_succ (i:=i) (by omega)]
   rw [letIn]
   have es:(mixL (fun o=>wd (0,1) o) (fun o=>o) t.2.1 i).set i (wd (0,1) t.2.1[i])=mixL (fun o=>wd (0,1) o) (fun o=>o) t.2.1 (i+1):=Z663 (fun o=>wd (0,1) o) (fun o=>o) t.2.1 h
   have ih:=rest39 f (i+1) h (by omega)
   rw [← es] at ih
   exact ih
  ·have:i=t.2.1.length:=by omega
   subst this
   have hok:=wd_ok ht.ok (d:=fun _=>(0,1)) (fun _ _=>by decide) vt hop
   have hall:=Z566 hz (by omega) (fun _=>0) t.2.1 (fun o ho=>⟨hsm o ho,by omega⟩)
   rw [Z689] at hall
   have hyv:(zs.map q4).all vF=true:=List.all_eq_true.2 fun y hy=>by obtain ⟨z,h,rfl⟩:=List.mem_map.1 hy; exact (q4_is (by have:=hz z h; unfold Q4; omega)).2
   have hask:askC (t.1,(t.2.1.map (fun o=>wd (0,1) o),(t.2.2.1,tot))) (zs.map q4)=0:=by
    unfold askC
    rw [hok,hyv,ne_f (by simp only [List.length_map]; omega)]
    rfl
   have hres:resRes (t.1,(t.2.1.map (fun o=>wd (0,1) o),(t.2.2.1,tot))) (zs.map q4)=r2 (t.2.1.map fun o=>q4 (0 - aZ o.1 zs 0)) 0:=by
    unfold resRes
    rw [hask]
    simp only [hall]
    rfl
   rw [lt_f h,cond_false,Z660]
   simp only [pr_eta]
   rw [C105_is _ _ (by simp only [List.length_map]; omega) (by rw [List.length_map]; omega),hres]
   simp only [Option.bind_some,bne_self_eq_false,cond_false]
   have e:=rest46 ht hcor hz hl vt hs hop N0 0 (by omega) (by omega)
   have e0:mixL (fun o=>wd (q4 (aZ o.1 zs 0)) o) (fun o=>wd (0,1) o) t.2.1 0=t.2.1.map fun o=>wd (0,1) o:=by
    unfold mixL
    simp
   rw [e0] at e
   exact e
end
theorem Z696 {t:Tb} (ht:TbD t) (hcor:(corP t).2=0) {zs:List Int} (hz:∀ z∈zs,-1000≤z∧z≤1000) (hl:zs.length=t.1.toNat) {tot:Fq} (vt:vF tot=true) (hs:t.2.2.1=true→fsum (0,1) (zs.map q4)=some tot) (hop:t.2.2.1=true∨tot.1=0) :
  laws_FnLeast_l39 N0 N0 0 t.1 t.2.2.1 tot.1 tot.2 (zs.map q4) t.2.1=r1 true:=by
 have hN:=N0_big
 have hlen:=ht.len
 have e:=rest39 ht hcor hz hl vt hs hop N0 0 (by omega) (by omega)
 have e0:mixL (fun o=>wd (0,1) o) (fun o=>o) t.2.1 0=t.2.1:=by
  unfold mixL
  simp
 rw [e0] at e
 exact e
end Go.Abs
namespace Go.Abs
section
variable {L:List Fq} (hL:∀ y∈L,Bd y) {obs:List Ob} (ho:∀ o∈obs,1≤o.2.2∧o.2.2≤100) (hn:obs.length≤24) (he:L.length=obs.length)
include hL ho hn he
theorem Z46 (n:Int) (hb:Bool) (q z:Fq):∀ (k i:Nat) (c:Bool) (s:Fq),i≤L.length→L.length - i < k→Bd s →
  C168_l6 N0 k (i:Int) (L.length:Int) s.1 s.2 n obs hb q.1 q.2 c L z.1 z.2=bif c||(sqUp L obs (L.length - i) i s).2 then r2 (0,0) 3 else r2 (sqUp L obs (L.length - i) i s).1 0
 | 0,i,c,s,_,hk,_=>by omega
 | k+1,i,c,s,hi,hk,hs=>by
  simp only [C168_l6,C168_t6]
  by_cases h:i < L.length
  ·have h':i < obs.length:=by omega
   have hw:=ho _ (List.getElem_mem h')
   have hr:=hL _ (List.getElem_mem h)
   simp only [lt_t h,lt_t h',nn_t,Bool.and_self,cond_true,Int.toNat_natCast,get_ix h,get_ix h',w_succ (i:=i) (by omega),pr_eta,C430_is]
   rw [C236_is hr hr,Option.bind_some,Option.bind_some]
   dsimp only
   rw [C236_is (Bd.mul (a:=L[i]) (b:=L[i])) (Bd.num (n:=obs[i].2.2) (by omega)),Option.bind_some]
   dsimp only
   rw [C234_is hs Bd.mul,Option.bind_some]
   dsimp only
   refine Eq.trans (Z46 n hb q z k (i+1) _ (val (saO s L[i] obs[i].2.2)) h (by omega) Bd.add) ?_
   rw [show L.length - i=(L.length - (i+1))+1 by omega,sqUp,get_ix h,get_ix h',sqE]
   simp only [Bool.or_assoc]
  ·have:i=L.length:=by omega
   subst this
   simp only [lt_f h,cond_false,Nat.sub_self,sqUp,pr_eta,C237_is,Option.bind_some,Bool.or_false]
   cases c <;> rfl
end
abbrev sqRes (t:Tb) (x:List Fq):Option (((Fq×Unit)×((Int×Unit)×Unit))×Unit) :=
 bif askC t x != 0 then r2 (0,0) (askC t x) else bif (allG x t.2.1).2||(sqUp (allG x t.2.1).1 t.2.1 (allG x t.2.1).1.length 0 (0,1)).2 then r2 (0,0) 3 else r2 (sqUp (allG x t.2.1).1 t.2.1 (allG x t.2.1).1.length 0 (0,1)).1 0
theorem C168_is (t:Tb) (x:List Fq) (hb:t.2.1.length≤9223372036854775807) (hf:∀ o∈t.2.1,Fit6 o.1) (hx:x.length≤9223372036854775807):C168 N0 t x=sqRes t x:=by
 have:=N0_big
 simp only [C168,C168_t,pr_eta,C123_is t x hb hf hx,Option.bind_some]
 unfold sqRes
 by_cases h:askC t x=0
 ·obtain ⟨h1,h2,h3,h4⟩:=ask_ok h
  have hl:=Z407 x t.2.1
  have e:=Z46 (Z565 x t.2.1 (fun o ho=>(h3 o ho).1.2)) (fun o ho=>(h3 o ho).2) h4 hl t.1 t.2.2.1 t.2.2.2 (0,0) N0 0 (allG x t.2.1).2 (0,1) (by omega) (by omega) Bd.zero
  rw [ne_f h,cond_false,cond_false,C426_is,Option.bind_some,Z2 h,Option.bind_some]
  exact e
 ·rw [Z665 h]; rfl
end Go.Abs
namespace Go.Abs
abbrev bs (l:List UInt8):ByteArray:=ByteArray.mk l.toArray
theorem Z276 (l m:List UInt8):bs l++bs m=bs (l++m):=by
 apply ByteArray.ext
 simp [ByteArray.data_append]
theorem Z579 (l:List UInt8):(bs l).size=l.length:=by simp [ByteArray.size]
theorem bs_eta (s:ByteArray):s=bs s.data.toList:=by
 apply ByteArray.ext
 simp
theorem Z700 {l m:List UInt8} (h:l.length+m.length≤1000000):Z699 (bs l) (bs m)=true:=by
 unfold Z699
 rw [Z579,Z579]
 exact Nat.ble_eq_true_of_le (by omega)
open Go.Lib (decDigits itoa)
theorem Z291 {u:Nat} (h:u < 10):decDigits u=[UInt8.ofNat (48+u)]:=by rw [decDigits,dif_pos h]
theorem Z601 {u:Nat} (h:¬ u < 10):decDigits u=decDigits (u / 10)++[UInt8.ofNat (48+u % 10)]:=by rw [decDigits,dif_neg h]
theorem Z602:∀ (d u:Nat),u < 2 ^ d→(decDigits u).length≤d+1
 | 0,u,h=>by rw [Z291 (by simp at h; omega)]; simp
 | d+1,u,h=>by
  by_cases h':u < 10
  ·rw [Z291 h']; simp
  ·rw [Z601 h']
   have:=Z602 d (u / 10) (by rw [Nat.pow_succ] at h; omega)
   simp only [List.length_append,List.length_cons,List.length_nil]
   omega
theorem C428_is {n:Int} (h:I64 n):C428 N0 n=r1 (bs (itoa n)):=by
 unfold C428 C428_t C85
 rw [dec_t h.1,dec_t h.2]
 rfl
theorem Z637 {n:Int} (h:0≤n):itoa n=decDigits n.toNat:=by unfold itoa; rw [if_neg (by omega)]
end Go.Abs
namespace Go.Abs
def preC (p:List UInt8):List (List UInt8)→List (List UInt8)
 | []=>[p]
 | w :: ws=>(p++w) :: ws
def splitC (c:UInt8):List UInt8→List (List UInt8)
 | []=>[[]]
 | x :: r=>if x=c then [] :: splitC c r else preC [x] (splitC c r)
theorem Z372 (c:UInt8):∀ l,splitC c l≠[]
 | []=>by simp [splitC]
 | x :: r=>by
  unfold splitC
  split
  ·simp
  ·cases splitC c r <;> simp [preC]
theorem Z373 {c:UInt8}:∀ {l:List UInt8},c ∉ l→splitC c l=[l]
 | [],_=>rfl
 | x :: r,h=>by
  rw [List.mem_cons,not_or] at h
  rw [splitC,if_neg (Ne.symm h.1),Z373 h.2]
  rfl
theorem Z254 {c:UInt8} {rest:List UInt8}:∀ {l:List UInt8},c ∉ l→splitC c (l++c :: rest)=l :: splitC c rest
 | [],_=>by rw [List.nil_append,splitC,if_pos rfl]
 | x :: r,h=>by
  rw [List.mem_cons,not_or] at h
  rw [List.cons_append,splitC,if_neg (Ne.symm h.1),Z254 h.2]
  rfl
def joinC (c:UInt8):List (List UInt8)→List UInt8
 | []=>[]
 | [w]=>w
 | w :: ws=>w++c :: joinC c ws
theorem Z255 (c:UInt8):∀ l,(splitC c l).length≤l.length+1
 | []=>by simp [splitC]
 | x :: r=>by
  have ih:=Z255 c r
  unfold splitC
  split
  ·simp only [List.length_cons]; omega
  ·match hs:splitC c r with
   | []=>exact absurd hs (Z372 c r)
   | w :: ws=>rw [hs] at ih; simp only [preC,List.length_cons] at ih ⊢; omega
theorem Z161 {c:UInt8}:∀ {l:List UInt8} {w:List UInt8},w∈splitC c l→w.length≤l.length
 | [],w,h=>by simp [splitC] at h; simp [h]
 | x :: r,w,h=>by
  unfold splitC at h
  split at h
  ·rcases List.mem_cons.1 h with h | h
   ·simp [h]
   ·have:=Z161 h; simp only [List.length_cons]; omega
  ·match hs:splitC c r with
   | []=>exact absurd hs (Z372 c r)
   | v :: vs =>
    rw [hs] at h
    simp only [preC,List.mem_cons] at h
    rcases h with h | h
    ·have:=Z161 (c:=c) (l:=r) (w:=v) (by rw [hs]; simp)
     rw [h]; simp only [List.singleton_append,List.length_cons]; omega
    ·have:=Z161 (c:=c) (l:=r) (w:=w) (by rw [hs]; simp [h])
     simp only [List.length_cons]; omega
open Go.Lib in
theorem Z256 (c:UInt8):∀ l,splitK [c] 0 (l.count c) l=splitC c l
 | []=>rfl
 | x :: r=>by
  have ih:=Z256 c r
  unfold splitC
  by_cases hx:x=c
  ·subst hx
   rw [if_pos rfl,List.count_cons_self,splitK,index_one]
   simp only [indexByte,beq_self_eq_true,if_true]
   rw [if_neg (by decide)]
   simp only [Int.toNat_zero,Nat.zero_add,List.take_zero,List.length_cons,List.length_nil,List.drop_succ_cons,List.drop_zero,ih]
  ·rw [if_neg hx,List.count_cons_of_ne hx,← ih]
   cases hk:r.count c with
   | zero=>rfl
   | succ k =>
    rw [splitK,splitK,index_one,index_one]
    have hb:(x==c)=false:=by simp [hx]
    simp only [indexByte,hb,Bool.false_eq_true,if_false]
    by_cases hi:indexByte r c=-1
    ·rw [hi]
     rfl
    ·have hge:=indexByte_ge r c
     have e1:(indexByte r c==-1)=false:=by simp [hi]
     rw [e1]
     simp only [Bool.false_eq_true,if_false]
     rw [if_neg (by simp; omega)]
     have e2:(indexByte r c+1).toNat=(indexByte r c).toNat+1:=by omega
     rw [e2]
     rfl
theorem map_bs {xs:List ByteArray} {ys:List (List UInt8)} (h:xs.map (·.data.toList)=ys):xs=ys.map bs:=by
 subst h
 rw [List.map_map]
 conv=>lhs; rw [← List.map_id xs]
 apply List.map_congr_left
 intro x _
 exact bs_eta x
theorem C292_is {s:ByteArray} {c:UInt8} (hs:s.size < 4294967281):C292 N0 s (bs [c])=r1 ((splitC c s.data.toList).map bs):=by
 unfold C292
 rw [dec_t hs,dec_t (by rw [Z579]; simp),Bool.and_self,cond_true]
 have h:=Go.Lib.splitB_data (bs [c]) 0 (Go.Lib.countB s (bs [c])) s
 have e:Go.Lib.splitK (bs [c]).data.toList 0 (Go.Lib.countB s (bs [c])) s.data.toList=splitC c s.data.toList:=by
  have:Go.Lib.countB s (bs [c])=s.data.toList.count c:=Go.Lib.count_one c _
  rw [this]
  exact Z256 c _
 rw [e] at h
 rw [map_bs h]
end Go.Abs
namespace Go.Abs
open Go.Lib (decDigits itoa parseIntB parseUintM parseUintB)
def isDg (x:UInt8):Prop:=48≤x.toNat∧x.toNat≤57
instance (x:UInt8):Decidable (isDg x):=by unfold isDg; infer_instance
def valA (a:Nat) (l:List UInt8):Nat:=l.foldl (fun a x=>10*a+(x.toNat - 48)) a
theorem Z396 (a:Nat) (x:UInt8) (r:List UInt8):valA a (x :: r)=valA (10*a+(x.toNat - 48)) r:=by unfold valA; rw [List.foldl_cons]
theorem Z555 (a:Nat) (l m:List UInt8):valA a (l++m)=valA (valA a l) m:=by unfold valA; rw [List.foldl_append]
theorem Z729:∀ (l:List UInt8) (a:Nat),a≤valA a l
 | [],a=>Nat.le_refl _
 | x :: r,a=>by rw [Z396]; have:=Z729 r (10*a+(x.toNat - 48)); omega
theorem Z429 {d:Nat} (h:d < 10):(UInt8.ofNat (48+d)).toNat=48+d:=by
 rw [UInt8.toNat_ofNat']
 omega
theorem dg_is {d:Nat} (h:d < 10):isDg (UInt8.ofNat (48+d)):=by unfold isDg; rw [Z429 h]; omega
theorem Z600:∀ (u:Nat),∀ x∈decDigits u,isDg x:=by
 intro u
 induction u using Nat.strongRecOn with
 | _ u ih =>
  intro x hx
  by_cases h:u < 10
  ·rw [Z291 h,List.mem_singleton] at hx
   rw [hx]; exact dg_is h
  ·rw [Z601 h,List.mem_append,List.mem_singleton] at hx
   rcases hx with hx | hx
   ·exact ih (u / 10) (by omega) x hx
   ·rw [hx]; exact dg_is (by omega)
theorem dig_ne (u:Nat):decDigits u≠[]:=by
 by_cases h:u < 10
 ·rw [Z291 h]; simp
 ·rw [Z601 h]; simp
theorem Z603:∀ (u:Nat),valA 0 (decDigits u)=u:=by
 intro u
 induction u using Nat.strongRecOn with
 | _ u ih =>
  by_cases h:u < 10
  ·rw [Z291 h]
   simp only [valA,List.foldl_cons,List.foldl_nil]
   rw [Z429 h]; omega
  ·rw [Z601 h,Z555,ih (u / 10) (by omega)]
   simp only [valA,List.foldl_cons,List.foldl_nil]
   rw [Z429 (by omega)]; omega
theorem Z56 (M:Nat) (hM:M≤18446744073709551615):∀ (l:List UInt8) (a:Nat),(∀ x∈l,isDg x)→valA a l≤M→parseUintM M a l=.ok (valA a l)
 | [],a,_,_=>rfl
 | x :: r,a,hd,hv=>by
  have hx:=hd x (by simp)
  unfold isDg at hx
  rw [Z396] at hv ⊢
  have hg:=Z729 r (10*a+(x.toNat - 48))
  rw [parseUintM,if_pos hx,if_neg (by omega),if_neg (by omega),show a*10+(x.toNat - 48)=10*a+(x.toNat - 48) by omega]
  exact Z56 M hM r _ (fun y hy=>hd y (by simp [hy])) hv
theorem Z141 {l:List UInt8} (hne:l≠[]) (hd:∀ x∈l,isDg x) (hv:valA 0 l < 9223372036854775808):parseIntB 64 l=.ok (valA 0 l:Int):=by
 obtain ⟨x,r,rfl⟩:∃ x r,l=x :: r:=by
  cases l with
  | nil=>exact absurd rfl hne
  | cons x r=>exact ⟨x,r,rfl⟩
 have hx:=hd x (by simp)
 unfold isDg at hx
 unfold parseIntB
 simp only
 rw [if_neg (by omega)]
 have e:parseUintB 64 (x :: r)=.ok (valA 0 (x :: r)):=by
  unfold parseUintB
  rw [if_neg (by simp)]
  exact Z56 _ (by decide) _ _ hd (by omega)
 rw [e]
 simp only
 rw [if_neg (by omega),if_neg (by omega),if_neg (by omega)]
theorem Z87 {l:List UInt8} (hne:l≠[]) (hd:∀ x∈l,isDg x) (hv:valA 0 l≤9223372036854775808):parseIntB 64 (45 :: l)=.ok (-(valA 0 l:Int)):=by
 unfold parseIntB
 simp only
 rw [if_pos (by decide)]
 have e:parseUintB 64 l=.ok (valA 0 l):=by
  unfold parseUintB
  rw [if_neg hne]
  exact Z56 _ (by decide) _ _ hd (by omega)
 rw [e]
 simp only
 rw [if_neg (by simp),if_neg (by omega),if_pos (by decide)]
def numL (l:List UInt8):Int:=match parseIntB 64 l with
 | .ok v=>v
 | _=>0
theorem C364_is {s:ByteArray} (h:s.size≤281474976710656):C364 N0 s=r1 (numL s.data.toList):=by
 unfold C364 numL
 rw [dec_t h,cond_true]
 cases parseIntB 64 s.data.toList <;> rfl
theorem Z498 {u:Nat} (h:u < 9223372036854775808):numL (decDigits u)=(u:Int):=by
 unfold numL
 rw [Z141 (dig_ne u) (Z600 u) (by rw [Z603]; exact h),Z603]
theorem Z338 {n:Int} (h:I64 n):numL (itoa n)=n:=by
 unfold I64 at h
 by_cases h0:n < 0
 ·unfold itoa numL
  rw [if_pos h0,Z87 (dig_ne _) (Z600 _) (by rw [Z603]; omega),Z603]
  simp only
  omega
 ·rw [Z637 (by omega),Z498 (by omega)]
  omega
end Go.Abs
namespace Go.Abs
open Go.Lib (decDigits itoa)
theorem Z480 {n:Int} (h:-1000000000≤n∧n≤1000000000):(itoa n).length≤32:=by
 unfold itoa
 split
 ·have:=Z602 30 n.natAbs (by omega)
  simp only [List.length_cons]; omega
 ·have:=Z602 30 n.toNat (by omega)
  omega
def fracT (a:Int×Int):List UInt8:=bif a.2==1 then itoa a.1 else itoa a.1++[47]++itoa a.2
theorem Z305 {a:Int×Int} (h:vF a=true):(fracT a).length≤65:=by
 have hb:=vF_bd h
 have h1:=Z480 hb.2
 have h2:=Z480 (n:=a.2) (by omega)
 unfold fracT
 cases a.2==1
 ·simp only [cond_false,List.length_append,List.length_cons,List.length_nil]; omega
 ·simp only [cond_true]; omega
theorem C220_is (a:Int×Int):C220 N0 a=r1 (bs (bif vF a then fracT a else [])):=by
 unfold C220 C220_t
 rw [C172_is,Option.bind_some]
 dsimp only
 cases h:vF a with
 | false=>rfl
 | true =>
  have hb:=vF_bd h
  have h1:=Z480 hb.2
  have h2:=Z480 (n:=a.2) (by omega)
  rw [Bool.not_true,cond_false,cond_true,C428_is (by unfold I64; omega),C428_is (by unfold I64; omega)]
  unfold fracT
  cases a.2==1 with
  | true=>rfl
  | false =>
   rw [cond_false,cond_false,Option.bind_some]
   dsimp only
   rw [show (ByteArray.mk #[47])=bs [47] from rfl,Z700 (by simp; omega),cond_true,Option.bind_some]
   dsimp only
   rw [Z276,Z700 (by simp; omega),cond_true,Z276]
def coT (a:A6):Nat→Nat→List UInt8
 | 0,_=>[]
 | k+1,j=>itoa (at6 a j)++[32]++coT a k (j+1)
def obE (o:Ob):List UInt8:=fracT o.2.1++[32]++itoa o.2.2++[10]
def obT (count:Nat) (o:Ob):List UInt8:=coT o.1 count 0++obE o
def obsT (count:Nat) (l:List Ob):List UInt8:=(l.map (obT count)).flatten
def headT (t:Tb):List UInt8:=itoa t.1++(bif t.2.2.1 then [32,99,108,111,115,101,100,32]++fracT t.2.2.2 else [])++[10]
def tabT (t:Tb):List UInt8:=headT t++obsT t.1.toNat t.2.1
abbrev In3 (a:A6):Prop:=∀ j,j < 6→-3≤at6 a j∧at6 a j≤3
theorem ob_in3 {count:Int} {o:Ob} (h:obOk count o=true):In3 o.1∧vF o.2.1=true∧(1≤o.2.2∧o.2.2≤100):=by
 unfold obOk at h
 rw [Bool.and_eq_true,Bool.and_eq_true] at h
 unfold obTail at h
 rw [Bool.and_eq_true,Z580] at h
 refine ⟨fun j hj=>?_,h.2.2.1,h.2.2.2⟩
 have:=Z408 h.1 j (by omega) (by omega)
 unfold coefAt at this
 rw [Bool.and_eq_true,Z580] at this
 exact this.1
theorem Z593 {a:A6} (h:In3 a):∀ (k j:Nat),k+j≤6→(coT a k j).length≤33*k
 | 0,j,_=>by simp [coT]
 | k+1,j,hk=>by
  have:=Z593 h k (j+1) (by omega)
  have h2:=Z480 (n:=at6 a j) (by have:=h j (by omega); omega)
  simp only [coT,List.length_append,List.length_cons,List.length_nil]
  omega
theorem Z677 {o:Ob} (h1:vF o.2.1=true) (h2:1≤o.2.2∧o.2.2≤100):(obE o).length≤99:=by
 have:=Z305 h1
 have:=Z480 (n:=o.2.2) (by omega)
 simp only [obE,List.length_append,List.length_cons,List.length_nil]
 omega
theorem Z678 {count:Int} {o:Ob} (h:obOk count o=true) {n:Nat} (hn:n≤6):(obT n o).length≤297:=by
 obtain ⟨h1,h2,h3⟩:=ob_in3 h
 have:=Z593 h1 n 0 (by omega)
 have:=Z677 h2 h3
 simp only [obT,List.length_append]
 omega
theorem Z25 (G:ByteArray→Int→List Ob→Int→Int→List Ob→Bool→Int→Int→Option (((ByteArray×Unit)×Unit)×Unit)) (a:A6) (f:Int×Int) (wt:Int) (ha:In3 a) (hf:vF f=true) (hw:1≤wt∧wt≤100)
  (v25:List Ob) (v26 v27:Int) (c0:Int) (c1:List Ob) (c2:Bool) (c3 c4:Int) (hi:Nat) (hhi:hi≤6):∀ (k j:Nat) (p:List UInt8),j≤hi→hi - j < k→p.length≤100000+40*j →
  C169_l11 N0 G k (j:Int) (bs p) hi v25 v26 v27 (hi:Int) a.1 a.2.1 a.2.2.1 a.2.2.2.1 a.2.2.2.2.1 a.2.2.2.2.2 f.1 f.2 wt c0 c1 c2 c3 c4 =
   G (bs (p++coT a (hi - j) j++obE (a,(f,wt)))) (IntKind.wrap .i64 (v27+1)) v25 v26 c0 c1 c2 c3 c4
 | 0,j,p,_,hk,_=>by omega
 | k+1,j,p,hj,hk,hp=>by
  simp only [C169_l11,C169_t11]
  by_cases h:j < hi
  ·have hb:=ha j (by omega)
   have hl:=Z480 (n:=at6 a j) (by omega)
   rw [lt_t h,nn_t,Bool.and_self,cond_true,cond_true,Int.toNat_natCast]
   rw [show (cond (Nat.beq j 0) a.1 (cond (Nat.beq (j - 1) 0) a.2.1 (cond (Nat.beq (j - 1 - 1) 0) a.2.2.1 (cond (Nat.beq (j - 1 - 1 - 1) 0) a.2.2.2.1 (cond (Nat.beq (j - 1 - 1 - 1 - 1) 0) a.2.2.2.2.1 (cond (Nat.beq (j - 1 - 1 - 1 - 1 - 1) 0) a.2.2.2.2.2 0))))))=at6 a j from rfl]
   rw [w_in (by unfold I64; omega),C428_is (by unfold I64; omega),Option.bind_some]
   dsimp only
   rw [show (ByteArray.mk #[32])=bs [32] from rfl,Z700 (by simp; omega),cond_true,Z276,Z700 (by simp; omega),cond_true,Z276,w_succ (i:=j) (by omega)]
   rw [Z25 G a f wt ha hf hw v25 v26 v27 c0 c1 c2 c3 c4 hi hhi k (j+1) _ h (by omega) (by simp; omega)]
   rw [show hi - j=(hi - (j+1))+1 by omega,coT]
   congr 2
   simp
  ·have:j=hi:=by omega
   subst this
   have hl1:=Z305 hf
   have hl2:=Z480 (n:=wt) (by omega)
   rw [lt_f h,cond_false,show (f.1,f.2)=f from rfl,C220_is,hf,cond_true,Option.bind_some]
   dsimp only
   rw [show (ByteArray.mk #[32])=bs [32] from rfl,show (ByteArray.mk #[10])=bs [10] from rfl,Z700 (by simp; omega),cond_true,C428_is (by unfold I64; omega),Option.bind_some]
   dsimp only
   rw [Z276,Z700 (by simp; omega),cond_true,Z276,Z700 (by simp; omega),cond_true,Z276,Z700 (by simp; omega),cond_true,Z276,Nat.sub_self,coT,List.append_nil]
   rfl
theorem Z45 (count:Nat) (hc:count≤6) (c1:List Ob) (c2:Bool) (c3 c4:Int) (v:List Ob) (hv:∀ o∈v,obOk (count:Int) o=true) (hl:v.length≤24):∀ (k i:Nat) (p:List UInt8),i≤v.length→v.length - i < k→p.length≤1000+300*i →
  C169_l8 N0 k (bs p) (i:Int) v (v.length:Int) (count:Int) c1 c2 c3 c4=r1 (bs (p++obsT count (v.drop i)))
 | 0,i,p,_,hk,_=>by omega
 | k+1,i,p,hi,hk,hp=>by
  simp only [C169_l8,C169_t8]
  by_cases h:i < v.length
  ·obtain ⟨h1,h2,h3⟩:=ob_in3 (hv _ (List.getElem_mem h))
   have hlen:=Z678 (hv _ (List.getElem_mem h)) hc
   have hN:=N0_big
   rw [lt_t h,nn_t,Bool.and_self,cond_true,cond_true,dec_t (p:=(0:Int)≤(count:Int)) (by omega),dec_t (p:=(count:Int)≤6) (by omega),Bool.and_self,cond_true,Int.toNat_natCast,Int.toNat_natCast,get_ix h]
   have e:=Z25 (C169_l8 N0 k) v[i].1 v[i].2.1 v[i].2.2 h1 h2 h3 v (v.length:Int) (i:Int) (count:Int) c1 c2 c3 c4 count hc N0 0 p (by omega) (by omega) (by omega)
   rw [show ((0:Nat):Int)=0 from rfl] at e
   rw [e,w_succ (i:=i) (by omega),Nat.sub_zero]
   rw [show p++coT v[i].1 count 0++obE (v[i].1,(v[i].2.1,v[i].2.2))=p++obT count v[i] by unfold obT; rw [List.append_assoc]]
   rw [Z45 count hc c1 c2 c3 c4 v hv hl k (i+1) _ h (by omega) (by simp only [List.length_append]; omega)]
   rw [Z608 h]
   simp only [obsT,List.map_cons,List.flatten_cons,List.append_assoc]
  ·have:i=v.length:=by omega
   subst this
   rw [lt_f h,cond_false,List.drop_length]
   simp [obsT]
theorem tab_ok {t:Tb} (h:tabOk t=true):(1≤t.1∧t.1≤6)∧t.2.1.length≤24∧vF t.2.2.2=true∧(t.2.2.1=true∨t.2.2.2.1=0)∧∀ o∈t.2.1,obOk t.1 o=true:=by
 unfold tabOk at h
 simp only [Bool.and_eq_true,Bool.or_eq_true,Z580,decide_eq_true_eq,beq_iff_eq,List.all_eq_true] at h
 exact h
theorem Z314 {t:Tb} (h:tabOk t=true):(headT t).length≤200:=by
 obtain ⟨h1,_,h3,_⟩:=tab_ok h
 have:=Z480 (n:=t.1) (by omega)
 have:=Z305 h3
 unfold headT
 cases t.2.2.1
 ·simp only [cond_false,List.length_append,List.length_cons,List.length_nil]; omega
 ·simp only [cond_true,List.length_append,List.length_cons,List.length_nil]; omega
theorem C169_is (t:Tb) (hb:t.2.1.length≤9223372036854775807) (hf:∀ o∈t.2.1,Fit6 o.1):C169 N0 t=r1 (bs (bif tabOk t then tabT t else [])):=by
 have hN:=N0_big
 unfold C169 C169_t
 simp only [pr_eta]
 rw [C121_is t hb hf,Option.bind_some]
 dsimp only
 cases h:tabOk t with
 | false=>rfl
 | true =>
  obtain ⟨h1,h2,h3,_,h5⟩:=tab_ok h
  have hl1:=Z480 (n:=t.1) (by omega)
  have hl2:=Z305 h3
  have hcnt:((t.1.toNat:Nat):Int)=t.1:=by omega
  have loop:∀ p:List UInt8,p.length≤1000→C169_l8 N0 N0 (bs p) 0 t.2.1 (t.2.1.length:Int) t.1 t.2.1 t.2.2.1 t.2.2.2.1 t.2.2.2.2=r1 (bs (p++obsT t.1.toNat t.2.1)):=by
   intro p hp
   have e:=Z45 t.1.toNat (by omega) t.2.1 t.2.2.1 t.2.2.2.1 t.2.2.2.2 t.2.1 (by rw [hcnt]; exact h5) h2 N0 0 p (by omega) (by omega) (by omega)
   rw [hcnt,List.drop_zero] at e
   exact e
  rw [Bool.not_true,cond_false,cond_true,C428_is (by unfold I64; omega),Option.bind_some]
  dsimp only
  unfold tabT headT
  cases hcl:t.2.2.1 with
  | true =>
   rw [hcl] at loop
   rw [cond_true,cond_true,C220_is,h3,cond_true,Option.bind_some]
   dsimp only
   rw [show (ByteArray.mk #[32,99,108,111,115,101,100,32])=bs [32,99,108,111,115,101,100,32] from rfl,show (ByteArray.mk #[10])=bs [10] from rfl]
   rw [Z700 (by simp; omega),cond_true,Z276,Z700 (by simp; omega),cond_true,Z276,Z700 (by simp; omega),cond_true,Z276]
   exact loop (itoa t.1++([32,99,108,111,115,101,100,32]++fracT t.2.2.2)++[10]) (by simp only [List.length_append,List.length_cons,List.length_nil]; omega)
  | false =>
   rw [hcl] at loop
   rw [cond_false,cond_false,show (ByteArray.mk #[10])=bs [10] from rfl,Z700 (by simp; omega),cond_true,Z276,List.append_nil]
   exact loop (itoa t.1++[10]) (by simp only [List.length_append,List.length_cons,List.length_nil]; omega)
end Go.Abs
namespace Go.Abs
open Go.Lib (decDigits itoa)
theorem dg_ne {c:UInt8} (hc:¬ isDg c) {l:List UInt8} (h:∀ x∈l,isDg x):c ∉ l:=fun hm=>hc (h c hm)
theorem Z448 (l m:List UInt8):eqStr (bs l) (bs m)=decide (l=m):=by
 unfold eqStr
 rw [ByteArray.toList_eq,ByteArray.toList_eq]
 by_cases h:l=m
 ·rw [dec_t h,h]; simp
 ·rw [dec_f h]; simpa using h
end Go.Abs
namespace Go.Abs
open Go.Lib (decDigits itoa)
theorem Z215 (c:UInt8) (w:List UInt8) {ws:List (List UInt8)} (h:ws≠[]):joinC c (w :: ws)=w++c :: joinC c ws:=by
 cases ws with
 | nil=>exact absurd rfl h
 | cons v vs=>rfl
theorem Z160 {c:UInt8}:∀ {ws:List (List UInt8)},ws≠[]→(∀ w∈ws,c ∉ w)→splitC c (joinC c ws)=ws
 | [],h,_=>absurd rfl h
 | [w],_,hw=>Z373 (hw w (by simp))
 | w :: v :: ws,_,hw=>by
  rw [Z215 c w (by simp),Z254 (hw w (by simp)),Z160 (by simp) (fun x hx=>hw x (List.mem_cons_of_mem _ hx))]
theorem Z639 {c d:UInt8} (hcd:c≠d):∀ {ws:List (List UInt8)},(∀ w∈ws,c ∉ w)→c ∉ joinC d ws
 | [],_=>by simp [joinC]
 | [w],h=>h w (by simp)
 | w :: v :: ws,h=>by
  rw [Z215 d w (by simp),List.mem_append,List.mem_cons]
  rintro (h1 | h1 | h1)
  ·exact h w (by simp) h1
  ·exact hcd h1
  ·exact Z639 hcd (fun x hx=>h x (List.mem_cons_of_mem _ hx)) h1
theorem Z638 {c:UInt8} (hc:¬ isDg c) (h45:c≠45) (n:Int):c ∉ itoa n:=by
 unfold itoa
 split
 ·rw [List.mem_cons]
  rintro (h | h)
  ·exact h45 h
  ·exact dg_ne hc (Z600 _) h
 ·exact dg_ne hc (Z600 _)
theorem Z462 {c:UInt8} (hc:¬ isDg c) (h45:c≠45) (h47:c≠47) (a:Int×Int):c ∉ fracT a:=by
 unfold fracT
 cases a.2==1 with
 | true=>exact Z638 hc h45 _
 | false =>
  rw [cond_false,List.mem_append,List.mem_append]
  rintro ((h | h) | h)
  ·exact Z638 hc h45 _ h
  ·simp at h; exact h47 h
  ·exact Z638 hc h45 _ h
def coW (a:A6):Nat→Nat→List (List UInt8)
 | 0,_=>[]
 | k+1,j=>itoa (at6 a j) :: coW a k (j+1)
def obW (count:Nat) (o:Ob):List (List UInt8):=coW o.1 count 0++[fracT o.2.1,itoa o.2.2]
def Z591:List UInt8:=[99,108,111,115,101,100]
def headW (t:Tb):List (List UInt8):=bif t.2.2.1 then [itoa t.1,Z591,fracT t.2.2.2] else [itoa t.1]
def tabL (t:Tb):List (List UInt8):=joinC 32 (headW t) :: t.2.1.map fun o=>joinC 32 (obW t.1.toNat o)
theorem Z594 (a:A6):∀ (k j:Nat),(coW a k j).length=k
 | 0,_=>rfl
 | k+1,j=>by rw [coW,List.length_cons,Z594 a k (j+1)]
theorem coW_at (a:A6):∀ (k j i:Nat) (d:List UInt8),i < k→(coW a k j).getD i d=itoa (at6 a (j+i))
 | 0,_,_,_,h=>by omega
 | k+1,j,0,d,_=>rfl
 | k+1,j,i+1,d,h=>by
  rw [coW,List.getD_cons_succ,coW_at a k (j+1) i d (by omega),show j+1+i=j+(i+1) by omega]
theorem coW_no {c:UInt8} (hc:¬ isDg c) (h45:c≠45) (a:A6):∀ (k j:Nat),∀ w∈coW a k j,c ∉ w
 | 0,_,w,h=>by simp [coW] at h
 | k+1,j,w,h=>by
  rcases List.mem_cons.1 h with rfl | h
  ·exact Z638 hc h45 _
  ·exact coW_no hc h45 a k (j+1) w h
theorem obW_no {c:UInt8} (hc:¬ isDg c) (h45:c≠45) (h47:c≠47) (n:Nat) (o:Ob):∀ w∈obW n o,c ∉ w:=by
 intro w h
 unfold obW at h
 rcases List.mem_append.1 h with h | h
 ·exact coW_no hc h45 _ _ _ w h
 ·simp only [List.mem_cons,List.mem_nil_iff,or_false] at h
  rcases h with rfl | rfl
  ·exact Z462 hc h45 h47 _
  ·exact Z638 hc h45 _
theorem Z471 {c:UInt8} (hc:¬ isDg c) (h45:c≠45) (h47:c≠47) (hcl:c ∉ Z591) (t:Tb):∀ w∈headW t,c ∉ w:=by
 intro w h
 unfold headW at h
 cases hb:t.2.2.1 with
 | true =>
  rw [hb] at h
  simp only [cond_true,List.mem_cons,List.mem_nil_iff,or_false] at h
  rcases h with rfl | rfl | rfl
  ·exact Z638 hc h45 _
  ·exact hcl
  ·exact Z462 hc h45 h47 _
 | false =>
  rw [hb] at h
  simp only [cond_false,List.mem_cons,List.mem_nil_iff,or_false] at h
  rw [h]
  exact Z638 hc h45 _
theorem obW_ne (n:Nat) (o:Ob):obW n o≠[]:=by simp [obW]
theorem Z470 (t:Tb):headW t≠[]:=by unfold headW; cases t.2.2.1 <;> simp
theorem Z422 (a:A6) (e:List UInt8) {r:List (List UInt8)} (hr:r≠[]) (he:e=joinC 32 r++[10]):∀ (k j:Nat),coT a k j++e=joinC 32 (coW a k j++r)++[10]
 | 0,j=>by rw [coT,coW,List.nil_append,List.nil_append,he]
 | k+1,j=>by
  rw [coT,coW,List.cons_append,Z215 32 _ (by cases coW a k (j+1) <;> simp [hr]),List.append_assoc,Z422 a e hr he k (j+1)]
  simp
theorem Z500 (n:Nat) (o:Ob):obT n o=joinC 32 (obW n o)++[10]:=by
 unfold obT obW
 refine Z422 o.1 (obE o) (by simp) ?_ n 0
 unfold obE
 simp [joinC]
theorem Z208 (t:Tb):headT t=joinC 32 (headW t)++[10]:=by
 unfold headT headW Z591
 cases t.2.2.1 <;> simp [joinC]
theorem Z502 (n:Nat) (h:List UInt8):∀ (l:List Ob),h++[10]++obsT n l=joinC 10 ((h :: l.map fun o=>joinC 32 (obW n o))++[[]])
 | []=>by simp [obsT,joinC]
 | o :: l=>by
  rw [List.map_cons,List.cons_append,Z215 10 h (by simp),← Z502 n (joinC 32 (obW n o)) l]
  simp [obsT,Z500]
theorem Z386 (t:Tb):tabT t=joinC 10 (tabL t++[[]]):=by
 unfold tabT tabL
 rw [Z208,Z502]
theorem Z387 (t:Tb):splitC 10 (tabT t)=tabL t++[[]]:=by
 rw [Z386]
 refine Z160 (by simp) ?_
 intro w h
 have h10:¬ isDg 10:=by decide
 rcases List.mem_append.1 h with h | h
 ·unfold tabL at h
  rcases List.mem_cons.1 h with rfl | h
  ·exact Z639 (by decide) (Z471 h10 (by decide) (by decide) (by decide) t)
  ·obtain ⟨o,_,rfl⟩:=List.mem_map.1 h
   exact Z639 (by decide) (obW_no h10 (by decide) (by decide) _ o)
 ·simp only [List.mem_cons,List.mem_nil_iff,or_false] at h
  rw [h]; simp
theorem Z501 (n:Nat) (o:Ob):splitC 32 (joinC 32 (obW n o))=obW n o :=
 Z160 (obW_ne n o) (obW_no (by decide) (by decide) (by decide) n o)
theorem Z209 (t:Tb):splitC 32 (joinC 32 (headW t))=headW t :=
 Z160 (Z470 t) (Z471 (by decide) (by decide) (by decide) (by decide) t)
open Go.Lib in
theorem Z477 {c:UInt8} {l:List UInt8} (h:c ∉ l):indexByte l c=-1:=by
 induction l with
 | nil=>rfl
 | cons x r ih =>
  rw [List.mem_cons,not_or] at h
  have hb:(x==c)=false:=by simp [Ne.symm h.1]
  simp only [indexByte,hb,Bool.false_eq_true,if_false]
  rw [ih h.2]
  rfl
open Go.Lib in
theorem Z318 {c:UInt8} {m:List UInt8}:∀ {l:List UInt8},c ∉ l→indexByte (l++c :: m) c=(l.length:Int)
 | [],_=>by simp [indexByte]
 | x :: r,h=>by
  rw [List.mem_cons,not_or] at h
  have hb:(x==c)=false:=by simp [Ne.symm h.1]
  simp only [List.cons_append,indexByte,hb,Bool.false_eq_true,if_false]
  rw [Z318 h.2]
  rw [if_neg (by simp)]
  simp
open Go.Lib in
theorem cut_no {c:UInt8} {l:List UInt8} (h:c ∉ l):cut l [c]=(l,[],false):=by
 unfold cut
 rw [index_one,Z477 h,if_neg (by decide)]
open Go.Lib in
theorem Z597 {c:UInt8} {l m:List UInt8} (h:c ∉ l):cut (l++c :: m) [c]=(l,m,true):=by
 unfold cut
 rw [index_one,Z318 h,if_pos (by omega)]
 simp
open Go.Lib in
theorem Z598 (l m:List UInt8):(cut l m).1.length≤l.length∧(cut l m).2.1.length≤l.length:=by
 unfold cut
 split
 ·simp only [List.length_take,List.length_drop]; omega
 ·simp
theorem a6_ext {a b:A6} (h:∀ j,j < 6→at6 a j=at6 b j):a=b:=by
 obtain ⟨a0,a1,a2,a3,a4,a5⟩:=a
 obtain ⟨b0,b1,b2,b3,b4,b5⟩:=b
 have h0:a0=b0:=h 0 (by omega)
 have h1:a1=b1:=h 1 (by omega)
 have h2:a2=b2:=h 2 (by omega)
 have h3:a3=b3:=h 3 (by omega)
 have h4:a4=b4:=h 4 (by omega)
 have h5:a5=b5:=h 5 (by omega)
 subst h0 h1 h2 h3 h4 h5
 rfl
def set6 (a:A6) (j:Nat) (v:Int):A6:=((cond (Nat.beq j 0) v a.1),((cond (Nat.beq j 1) v a.2.1),((cond (Nat.beq j 2) v a.2.2.1),((cond (Nat.beq j 3) v a.2.2.2.1),((cond (Nat.beq j 4) v a.2.2.2.2.1),(cond (Nat.beq j 5) v a.2.2.2.2.2))))))
theorem Z574 {a:A6} {j i:Nat} {v:Int} (hj:j < 6) (hi:i < 6):at6 (set6 a j v) i=if i=j then v else at6 a i:=by
 obtain rfl | rfl | rfl | rfl | rfl | rfl:j=0∨j=1∨j=2∨j=3∨j=4∨j=5:=by omega
 all_goals (obtain rfl | rfl | rfl | rfl | rfl | rfl:i=0∨i=1∨i=2∨i=3∨i=4∨i=5:=by omega)
 all_goals rfl
theorem Z572 {a:A6} {j:Nat} (h:6≤j):at6 a j=0:=by
 unfold at6
 obtain ⟨k,rfl⟩:∃ k,j=k+6:=⟨j - 6,by omega⟩
 rfl
def z6:A6:=(0,(0,(0,(0,(0,0)))))
theorem at6_z (j:Nat):at6 z6 j=0:=by
 by_cases h:j < 6
 ·obtain rfl | rfl | rfl | rfl | rfl | rfl:j=0∨j=1∨j=2∨j=3∨j=4∨j=5:=by omega
  all_goals rfl
 ·exact Z572 (by omega)
def pre6 (a:A6):Nat→A6
 | 0=>z6
 | j+1=>set6 (pre6 a j) j (at6 a j)
theorem Z573 {a:A6}:∀ {j i:Nat},j≤6→i < 6→at6 (pre6 a j) i=if i < j then at6 a i else 0
 | 0,i,_,_=>by rw [pre6,at6_z,if_neg (by omega)]
 | j+1,i,hj,hi=>by
  rw [pre6,Z574 (by omega) hi,Z573 (by omega) hi]
  by_cases h:i=j
  ·rw [if_pos h,if_pos (by omega),h]
  ·rw [if_neg h]
   by_cases h2:i < j
   ·rw [if_pos h2,if_pos (by omega)]
   ·rw [if_neg h2,if_neg (by omega)]
theorem Z680 {count:Int} {o:Ob} (h:obOk count o=true) {j:Nat} (hj:j < 6) (hc:count≤j):at6 o.1 j=0:=by
 unfold obOk at h
 rw [Bool.and_eq_true] at h
 have:=Z408 h.1 j (by omega) (by omega)
 unfold coefAt at this
 rw [Bool.and_eq_true,dec_f (by omega)] at this
 simpa using this.2
theorem Z512 {count:Nat} {o:Ob} (hc:count≤6) (h:obOk (count:Int) o=true):pre6 o.1 count=o.1:=by
 apply a6_ext
 intro j hj
 rw [Z573 hc hj]
 by_cases h2:j < count
 ·rw [if_pos h2]
 ·rw [if_neg h2,Z680 h hj (by omega)]
theorem w8_in {x:Int} (h:-3≤x∧x≤3):IntKind.wrap .i8 x=x:=by
 obtain rfl | rfl | rfl | rfl | rfl | rfl | rfl:x=-3∨x=-2∨x=-1∨x=0∨x=1∨x=2∨x=3:=by omega
 all_goals rfl
abbrev rTab (t:Tb) (c:Int):Option ((((Int×(List Ob×((Bool×(Int×Int))×Unit)))×((Int×Unit)×Unit)))×Unit):=some (((t.1,(t.2.1,(t.2.2,()))),((c,()),())),())
abbrev nTab:Tb:=(0,([],(false,(0,0))))
theorem Z488 (ws:List (List UInt8)) (j:Nat):(ws.map bs).getD j (ByteArray.mk #[])=bs (ws.getD j []):=by
 simp only [List.getD_eq_getElem?_getD,List.getElem?_map]
 cases ws[j]? <;> rfl
theorem Z339 {l:List UInt8} (h:l.length≤1048576):C364 N0 (bs l)=r1 (numL l):=C364_is (by rw [Z579]; omega)
theorem cut_bs {l:List UInt8} (h:l.length≤1048576):C402 N0 (bs l) (ByteArray.mk #[47])=r3 (bs (Go.Lib.cut l [47]).1) (bs (Go.Lib.cut l [47]).2.1) (Go.Lib.cut l [47]).2.2:=by
 unfold C402
 rw [dec_t (by rw [Z579]; omega),cond_true]
theorem Z128 {l:List UInt8} (h:l.length≤1048576):∃ f c,C226 N0 (bs l)=r2 f c:=by
 have hc:=Z598 l [47]
 unfold C226 C226_t
 rw [cut_bs h,Option.bind_some]
 dsimp only
 rw [Z339 (by omega),Option.bind_some]
 dsimp only
 rw [Z339 (by omega)]
 simp only [Option.bind_some,C220_is]
 cases (Go.Lib.cut l [47]).2.2 with
 | true =>
  simp only [cond_true]
  cases eqStr (bs l) (ByteArray.mk #[]) with
  | true=>exact ⟨_,_,rfl⟩
  | false =>
   rw [cond_false]
   generalize (!eqStr _ (bs l))=b
   cases b with
   | true=>exact ⟨_,_,rfl⟩
   | false=>exact ⟨_,_,rfl⟩
 | false =>
  simp only [cond_false]
  cases eqStr (bs l) (ByteArray.mk #[]) with
  | true=>exact ⟨_,_,rfl⟩
  | false =>
   rw [cond_false]
   generalize (!eqStr _ (bs l))=b
   cases b with
   | true=>exact ⟨_,_,rfl⟩
   | false=>exact ⟨_,_,rfl⟩
noncomputable def rdF (l:List UInt8):Int×Int:=match C226 N0 (bs l) with
 | some r=>r.1.1.1
 | none=>(0,0)
theorem Z211 {l:List UInt8} (h:l.length≤1048576):∃ c,C226 N0 (bs l)=r2 (rdF l) c:=by
 obtain ⟨f,c,e⟩:=Z128 h
 refine ⟨c,?_⟩
 unfold rdF
 rw [e]
theorem Z461 (a:Int×Int):fracT a≠[]:=by
 have h:itoa a.1≠[]:=by
  unfold itoa
  split
  ·simp
  ·exact dig_ne _
 unfold fracT
 cases a.2==1 with
 | true=>exact h
 | false=>simp
theorem rdF_is {a:Int×Int} (h:vF a=true):rdF (fracT a)=a:=by
 have hb:=vF_bd h
 have hl:=Z305 h
 have h47:¬ isDg 47:=by decide
 have he:eqStr (bs (fracT a)) (ByteArray.mk #[])=false:=by
  rw [show (ByteArray.mk #[])=bs [] from rfl,Z448]
  exact dec_f (Z461 a)
 unfold rdF C226 C226_t
 rw [cut_bs (by omega),Option.bind_some]
 dsimp only
 cases h1:a.2==1 with
 | true =>
  have e:fracT a=itoa a.1:=by unfold fracT; rw [h1,cond_true]
  have e1:a.2=1:=by simpa using h1
  have ea:a=(a.1,1):=by rw [← e1]
  have hn:Go.Lib.cut (fracT a) [47]=(itoa a.1,[],false):=by rw [e]; exact cut_no (Z638 h47 (by decide) _)
  rw [hn]
  dsimp only
  rw [Z339 (by rw [← e]; omega),Z338 (by unfold I64; omega),Option.bind_some,cond_false,he,cond_false]
  dsimp only
  rw [← ea,C220_is,h,cond_true,Option.bind_some]
  dsimp only
  rw [Z448,dec_t rfl]
  rfl
 | false =>
  have e:fracT a=itoa a.1++47 :: itoa a.2:=by unfold fracT; rw [h1,cond_false]; simp
  have hn:Go.Lib.cut (fracT a) [47]=(itoa a.1,itoa a.2,true):=by rw [e]; exact Z597 (Z638 h47 (by decide) _)
  have hl1:=Z480 (n:=a.1) (by omega)
  have hl2:=Z480 (n:=a.2) (by omega)
  rw [hn]
  dsimp only
  rw [Z339 (by omega),Z338 (by unfold I64; omega),Option.bind_some,cond_true,Z339 (by omega),Z338 (by unfold I64; omega),Option.bind_some,he,cond_false]
  dsimp only
  rw [pr_eta,C220_is,h,cond_true,Option.bind_some]
  dsimp only
  rw [Z448,dec_t rfl]
  rfl
theorem C405_is {l:List UInt8} (h:l.length≤1048576):C405 N0 (bs l) =
  bif decide (l=[]) then r2 [] true else r2 (((splitC 10 l).take ((splitC 10 l).length - 1)).map bs) (decide ((splitC 10 l).getD ((splitC 10 l).length - 1) []=[])):=by
 have hlen:=Z255 10 l
 have hpos:=List.length_pos_iff.2 (Z372 10 l)
 unfold C405 C405_t
 rw [show (ByteArray.mk #[])=bs [] from rfl,Z448]
 cases decide (l=[]) with
 | true=>rfl
 | false =>
  rw [cond_false,cond_false,show (ByteArray.mk #[10])=bs [10] from rfl,C292_is (by rw [Z579]; omega),Option.bind_some]
  dsimp only
  have e:IntKind.wrap .i64 (((((splitC 10 (bs l).data.toList).map bs).length:Nat):Int) - 1)=(((splitC 10 l).length - 1:Nat):Int):=by
   rw [List.length_map,show (bs l).data.toList=l from rfl,w_in (by unfold I64; omega)]
   omega
  rw [e,List.length_map,nn_t,dec_t (by omega),dec_t (by omega),Int.toNat_natCast,show (bs [])=(ByteArray.mk #[]) from rfl,Z488,show (ByteArray.mk #[])=bs [] from rfl,Z448]
  simp only [Bool.and_self,cond_true,Int.toNat_zero,List.drop_zero,Nat.sub_zero,List.map_take]
section
variable (G:Int→List ByteArray→ByteArray→Int→Int→Bool→Int→Int→Int→Bool→Int→Int→List Ob→Option ((((Int)×((List Ob)×(((Bool)×((Int)×(Int)))×(Unit))))×(((Int)×(Unit))×(Unit)))×(Unit)))
variable (v58:List ByteArray) (v0:ByteArray) (v59 v60:Int) (b0:Int) (b2:Bool) (b3 b4:Int) (f:Int×Int) (w:Int) (ws:List (List UInt8)) (c0:Int) (c2:Bool) (c3 c4:Int) (p:List Ob)
theorem Z6 (m:Nat) (hm:m≤6) (hw:m≤ws.length) (hs:∀ x∈ws,x.length≤1048576) (k j:Nat) (hj:j < m) (a:A6) :
  C164_l18 N0 G (k+1) (j:Int) m v58 v0 v59 v60 (m:Int) b0 b2 b3 b4 a.1 a.2.1 a.2.2.1 a.2.2.2.1 a.2.2.2.2.1 a.2.2.2.2.2 f.1 f.2 w (ws.map bs) c0 c2 c3 c4 p =
   bif btw (numL (ws.getD j [])) (-3) 3 then
    C164_l18 N0 G k ((j+1:Nat):Int) m v58 v0 v59 v60 (m:Int) b0 b2 b3 b4 (set6 a j (IntKind.wrap .i8 (numL (ws.getD j [])))).1 (set6 a j (IntKind.wrap .i8 (numL (ws.getD j [])))).2.1 (set6 a j (IntKind.wrap .i8 (numL (ws.getD j [])))).2.2.1 (set6 a j (IntKind.wrap .i8 (numL (ws.getD j [])))).2.2.2.1 (set6 a j (IntKind.wrap .i8 (numL (ws.getD j [])))).2.2.2.2.1 (set6 a j (IntKind.wrap .i8 (numL (ws.getD j [])))).2.2.2.2.2 f.1 f.2 w (ws.map bs) c0 c2 c3 c4 p
   else rTab nTab 5:=by
 have hd:(ws.getD j []).length≤1048576:=by rw [get_ix (by omega:j < ws.length)]; exact hs _ (List.getElem_mem _)
 simp only [C164_l18,C164_t18]
 rw [dec_t (p:=(j:Int) < (m:Int)) (by omega),cond_true,List.drop_zero,List.length_take,List.length_map,Nat.min_eq_left hw,nn_t,dec_t (p:=(j:Int) < ((m:Nat):Int)) (by omega),Bool.and_self,cond_true,Nat.zero_add,Int.toNat_natCast,Z488,Z339 hd,Option.bind_some]
 dsimp only
 rw [C366_is,Option.bind_some]
 dsimp only
 cases btw (numL (ws.getD j [])) (-3) 3 with
 | false=>rfl
 | true =>
  rw [dec_t (p:=(j:Int) < 6) (by omega),Bool.not_true,cond_false,cond_true,Bool.and_self,cond_true,w_succ (i:=j) (by omega)]
  rfl
theorem Z9 (m:Nat) (hp:p.length≤100000) (k:Nat) (a:A6) :
  C164_l18 N0 G (k+1) (m:Int) m v58 v0 v59 v60 (m:Int) b0 b2 b3 b4 a.1 a.2.1 a.2.2.1 a.2.2.2.1 a.2.2.2.2.1 a.2.2.2.2.2 f.1 f.2 w (ws.map bs) c0 c2 c3 c4 p =
   G (IntKind.wrap .i64 (v60+1)) v58 v0 v59 b0 b2 b3 b4 c0 c2 c3 c4 (p++[(a,(f,w))]):=by
 simp only [C164_l18,C164_t18]
 rw [dec_f (p:=(m:Int) < (m:Int)) (by omega),cond_false,dec_t (by simp; omega),cond_true]
end
theorem Z529 {l:List UInt8} (c:UInt8) (h:l.length≤1048576):C292 N0 (bs l) (bs [c])=r1 ((splitC c l).map bs):=C292_is (by rw [Z579]; omega)
section
variable (ls:List (List UInt8)) (l:List UInt8) (b0:Int) (b2:Bool) (b3 b4:Int) (c0:Int) (c2:Bool) (c3 c4:Int)
theorem Z11 (hl:ls.length≤25) (hs:∀ x∈ls,x.length≤1048576) (p:List Ob) (k i:Nat) (hi:i < ls.length) :
  C164_l9 N0 (k+1) (i:Int) (ls.map bs) (bs l) (ls.length:Int) b0 b2 b3 b4 c0 c2 c3 c4 p =
   bif decide ((splitC 32 (ls.getD i [])).length < 3) then rTab nTab 5 else
   bif decide (8 < (splitC 32 (ls.getD i [])).length) then rTab nTab 5 else
   C164_l18 N0 (C164_l9 N0 k) N0 ((0:Nat):Int) ((splitC 32 (ls.getD i [])).length - 2) (ls.map bs) (bs l) (ls.length:Int) (i:Int) (((splitC 32 (ls.getD i [])).length - 2:Nat):Int) b0 b2 b3 b4 z6.1 z6.2.1 z6.2.2.1 z6.2.2.2.1 z6.2.2.2.2.1 z6.2.2.2.2.2
    (rdF ((splitC 32 (ls.getD i [])).getD ((splitC 32 (ls.getD i [])).length - 2) [])).1 (rdF ((splitC 32 (ls.getD i [])).getD ((splitC 32 (ls.getD i [])).length - 2) [])).2 (numL ((splitC 32 (ls.getD i [])).getD ((splitC 32 (ls.getD i [])).length - 1) [])) ((splitC 32 (ls.getD i [])).map bs) c0 c2 c3 c4 p:=by
 have hd:(ls.getD i []).length≤1048576:=by rw [get_ix hi]; exact hs _ (List.getElem_mem _)
 have hW:=Z255 32 (ls.getD i [])
 have hpos:=List.length_pos_iff.2 (Z372 32 (ls.getD i []))
 have hwd:∀ j,((splitC 32 (ls.getD i [])).getD j []).length≤1048576:=by
  intro j
  by_cases hj:j < (splitC 32 (ls.getD i [])).length
  ·rw [get_ix hj]
   have:=Z161 (List.getElem_mem hj)
   omega
  ·rw [List.getD_eq_getElem?_getD,List.getElem?_eq_none (by omega)]; simp
 have hsp:=Z529 32 hd
 generalize splitC 32 (ls.getD i [])=ws at hW hpos hwd hsp ⊢
 simp only [C164_l9,C164_t9]
 rw [lt_t hi,cond_true,List.length_map,in_t hi,cond_true,Int.toNat_natCast,Z488,show (ByteArray.mk #[32])=bs [32] from rfl,hsp,Option.bind_some]
 dsimp only
 rw [List.length_map]
 by_cases h3:ws.length < 3
 ·rw [dec_t h3,cond_true,dec_t (p:=IntKind.wrap .i64 (((ws.length:Nat):Int) - 2) < 1) (by rw [w_in (by unfold I64; omega)]; omega),cond_true]
 ·by_cases h8:8 < ws.length
  ·rw [dec_f h3,dec_t h8,cond_false,cond_true,dec_f (p:=IntKind.wrap .i64 (((ws.length:Nat):Int) - 2) < 1) (by rw [w_in (by unfold I64; omega)]; omega),cond_false,dec_t (p:=IntKind.wrap .i64 (((ws.length:Nat):Int) - 2) > 6) (by rw [w_in (by unfold I64; omega)]; omega),cond_true]
  ·have e2:IntKind.wrap .i64 (((ws.length:Nat):Int) - 2)=((ws.length - 2:Nat):Int):=by rw [w_in (by unfold I64; omega)]; omega
   have e1:IntKind.wrap .i64 (((ws.length - 2:Nat):Int)+1)=((ws.length - 1:Nat):Int):=by rw [w_succ (by omega)]; omega
   obtain ⟨c,hc⟩:=Z211 (hwd (ws.length - 2))
   rw [dec_f h3,dec_f h8,cond_false,cond_false,e2,e1,dec_f (p:=((ws.length - 2:Nat):Int) < 1) (by omega),cond_false,dec_f (p:=((ws.length - 2:Nat):Int) > 6) (by omega),cond_false,in_t (by omega),in_t (by omega),cond_true,Int.toNat_natCast,Int.toNat_natCast,Z488,Z339 (hwd _),Option.bind_some]
   dsimp only
   rw [cond_true,Z488,hc,Option.bind_some]
   dsimp only
   rw [nn_t,dec_t (p:=((ws.length - 2:Nat):Int)≤((ws.length:Nat):Int)) (by omega),Bool.and_self,cond_true,Int.toNat_zero,Nat.sub_zero,List.drop_zero,List.length_take,List.length_map,Nat.min_eq_left (by omega)]
   rfl
theorem Z23 (p:List Ob) (hp:p.length≤100000) (hf:∀ o∈p,Fit6 o.1) (hne:l≠[]) (k:Nat) :
  C164_l9 N0 (k+1) (ls.length:Int) (ls.map bs) (bs l) (ls.length:Int) b0 b2 b3 b4 c0 c2 c3 c4 p =
   bif tabOk (c0,(p,(c2,(c3,c4))))&&decide (tabT (c0,(p,(c2,(c3,c4))))=l) then rTab (c0,(p,(c2,(c3,c4)))) 0 else rTab nTab 5:=by
 simp only [C164_l9,C164_t9]
 rw [lt_f (Nat.lt_irrefl _),cond_false,C121_is _ (by dsimp only; omega) hf,Option.bind_some]
 dsimp only
 cases hk:tabOk (c0,(p,(c2,(c3,c4)))) with
 | false=>rfl
 | true =>
  rw [Bool.not_true,cond_false,Bool.true_and,C169_is _ (by dsimp only; omega) hf,hk,cond_true,Option.bind_some]
  dsimp only
  rw [Z448]
  cases decide (tabT (c0,(p,(c2,(c3,c4))))=l) <;> rfl
end
section
variable (ls:List (List UInt8)) (l:List UInt8) (b0:Int) (b2:Bool) (b3 b4:Int) (c0:Int) (c2:Bool) (c3 c4:Int)
end
theorem Z679 (n:Nat) (o:Ob):(obW n o).length=n+2:=by unfold obW; rw [List.length_append,Z594]; rfl
theorem obW_co {n:Nat} {o:Ob} {j:Nat} (h:j < n):(obW n o).getD j []=itoa (at6 o.1 j):=by
 have:=coW_at o.1 n 0 j [] h
 rw [Nat.zero_add] at this
 rw [← this]
 unfold obW
 simp only [List.getD_eq_getElem?_getD]
 rw [List.getElem?_append_left (by rw [Z594]; exact h)]
theorem obW_fr (n:Nat) (o:Ob):(obW n o).getD n []=fracT o.2.1:=by
 unfold obW
 simp only [List.getD_eq_getElem?_getD]
 rw [List.getElem?_append_right (by rw [Z594]; exact Nat.le_refl _),Z594,Nat.sub_self]
 rfl
theorem obW_wt (n:Nat) (o:Ob):(obW n o).getD (n+1) []=itoa o.2.2:=by
 unfold obW
 simp only [List.getD_eq_getElem?_getD]
 rw [List.getElem?_append_right (by rw [Z594]; omega),Z594,show n+1 - n=1 by omega]
 rfl
theorem Z481 {c:UInt8} {w:List UInt8}:∀ {ws:List (List UInt8)},w∈ws→w.length≤(joinC c ws).length
 | [x],h=>by
  simp only [List.mem_cons,List.mem_nil_iff,or_false] at h
  rw [h]; exact Nat.le_refl _
 | x :: y :: ws,h=>by
  rw [Z215 c x (by simp),List.length_append,List.length_cons]
  rcases List.mem_cons.1 h with rfl | h
  ·omega
  ·have:=Z481 (c:=c) h; omega
section
variable (t:Tb) (ht:tabOk t=true) (b0:Int) (b2:Bool) (b3 b4:Int) (c0:Int) (c2:Bool) (c3 c4:Int)
theorem Z10 (G:Int→List ByteArray→ByteArray→Int→Int→Bool→Int→Int→Int→Bool→Int→Int→List Ob→Option ((((Int)×((List Ob)×(((Bool)×((Int)×(Int)))×(Unit))))×(((Int)×(Unit))×(Unit)))×(Unit)))
  (v58:List ByteArray) (v0:ByteArray) (v59 v60:Int) (f:Int×Int) (w:Int) (p:List Ob) (hp:p.length≤100000)
  (n:Nat) (hn:n≤6) (o:Ob) (ho:obOk (n:Int) o=true) (hs:∀ x∈obW n o,x.length≤1048576):∀ (k j:Nat),j≤n→n - j < k →
  C164_l18 N0 G k (j:Int) n v58 v0 v59 v60 (n:Int) b0 b2 b3 b4 (pre6 o.1 j).1 (pre6 o.1 j).2.1 (pre6 o.1 j).2.2.1 (pre6 o.1 j).2.2.2.1 (pre6 o.1 j).2.2.2.2.1 (pre6 o.1 j).2.2.2.2.2 f.1 f.2 w ((obW n o).map bs) c0 c2 c3 c4 p
  =G (IntKind.wrap .i64 (v60+1)) v58 v0 v59 b0 b2 b3 b4 c0 c2 c3 c4 (p++[(o.1,(f,w))])
 | 0,j,_,hk=>by omega
 | k+1,j,hj,hk=>by
  by_cases h:j < n
  ·have hb:=(ob_in3 ho).1 j (by omega)
   rw [Z6 G v58 v0 v59 v60 b0 b2 b3 b4 f w (obW n o) c0 c2 c3 c4 p n hn (by rw [Z679]; omega) hs k j h (pre6 o.1 j)]
   rw [obW_co h,Z338 (by unfold I64; omega),Z580.2 hb,cond_true,w8_in hb]
   exact Z10 G v58 v0 v59 v60 f w p hp n hn o ho hs k (j+1) h (by omega)
  ·have:j=n:=by omega
   subst this
   rw [Z9 G v58 v0 v59 v60 b0 b2 b3 b4 f w (obW j o) c0 c2 c3 c4 p j hp k (pre6 o.1 j),Z512 hn ho]
include ht in
theorem Z24 (hlen:(tabT t).length≤1048576):∀ (k i:Nat),i≤t.2.1.length→t.2.1.length - i < k →
  C164_l9 N0 k (i:Int) ((t.2.1.map fun o=>joinC 32 (obW t.1.toNat o)).map bs) (bs (tabT t)) ((t.2.1.map fun o=>joinC 32 (obW t.1.toNat o)).length:Int) b0 b2 b3 b4 t.1 t.2.2.1 t.2.2.2.1 t.2.2.2.2 (t.2.1.take i)=rTab t 0
 | 0,i,_,hk=>by omega
 | k+1,i,hi,hk=>by
  obtain ⟨h1,h2,h3,h4,h5⟩:=tab_ok ht
  have hN:=N0_big
  have hcnt:((t.1.toNat:Nat):Int)=t.1:=by omega
  have hall:∀ x∈tabL t++[[]],x.length≤1048576:=by
   intro x hx
   have:=Z481 (c:=10) hx
   rw [← Z386] at this
   omega
  have hs:∀ x∈(t.2.1.map fun o=>joinC 32 (obW t.1.toNat o)),x.length≤1048576:=fun x hx=>hall x (List.mem_append_left _ (List.mem_cons_of_mem _ hx))
  have hm:(t.2.1.map fun o=>joinC 32 (obW t.1.toNat o)).length=t.2.1.length:=List.length_map _
  by_cases h:i < t.2.1.length
  ·have hg:(t.2.1.map fun o=>joinC 32 (obW t.1.toNat o)).getD i []=joinC 32 (obW t.1.toNat t.2.1[i]):=by
    rw [get_ix (by rw [hm]; exact h)]; simp
   have hok:obOk ((t.1.toNat:Nat):Int) t.2.1[i]=true:=by rw [hcnt]; exact h5 _ (List.getElem_mem h)
   have hb:=(ob_in3 hok).2
   have hword:∀ x∈obW t.1.toNat t.2.1[i],x.length≤1048576:=by
    intro x hx
    have e1:=Z481 (c:=32) hx
    have e2:=hs (joinC 32 (obW t.1.toNat t.2.1[i])) (List.mem_map.2 ⟨_,List.getElem_mem h,rfl⟩)
    omega
   rw [Z11 (t.2.1.map fun o=>joinC 32 (obW t.1.toNat o)) (tabT t) b0 b2 b3 b4 t.1 t.2.2.1 t.2.2.2.1 t.2.2.2.2 (by rw [hm]; omega) hs (t.2.1.take i) k i (by rw [hm]; exact h)]
   rw [hg,Z501,Z679,dec_f (by omega),dec_f (by omega),cond_false,cond_false,show t.1.toNat+2 - 2=t.1.toNat by omega,show t.1.toNat+2 - 1=t.1.toNat+1 by omega,obW_fr,obW_wt,rdF_is hb.1,Z338 (by unfold I64; omega)]
   have e:=Z10 b0 b2 b3 b4 t.1 t.2.2.1 t.2.2.2.1 t.2.2.2.2 (C164_l9 N0 k) ((t.2.1.map fun o=>joinC 32 (obW t.1.toNat o)).map bs) (bs (tabT t)) ((t.2.1.map fun o=>joinC 32 (obW t.1.toNat o)).length:Int) (i:Int) t.2.1[i].2.1 t.2.1[i].2.2 (t.2.1.take i) (by rw [List.length_take]; omega) t.1.toNat (by omega) t.2.1[i] hok hword N0 0 (by omega) (by omega)
   rw [show pre6 t.2.1[i].1 0=z6 from rfl] at e
   rw [e,w_succ (i:=i) (by omega),show (t.2.1[i].1,(t.2.1[i].2.1,t.2.1[i].2.2))=t.2.1[i] from rfl,← List.take_succ_eq_append_getElem h]
   exact Z24 hlen k (i+1) h (by omega)
  ·have:i=t.2.1.length:=by omega
   subst this
   have hne:tabT t≠[]:=by rw [Z386]; unfold tabL; rw [List.cons_append,Z215 10 _ (by simp)]; simp
   have hf:∀ o∈t.2.1,Fit6 o.1:=by
    intro o ho j
    by_cases hj:j < 6
    ·have:=(ob_in3 (h5 o ho)).1 j hj; unfold I64; omega
    ·rw [Z572 (by omega)]; unfold I64; omega
   have e:=Z23 (t.2.1.map fun o=>joinC 32 (obW t.1.toNat o)) (tabT t) b0 b2 b3 b4 t.1 t.2.2.1 t.2.2.2.1 t.2.2.2.2 t.2.1 (by omega) hf hne k
   rw [hm] at e ⊢
   rw [List.take_length,e,show (t.1,(t.2.1,(t.2.2.1,(t.2.2.2.1,t.2.2.2.2))))=t from rfl,ht,dec_t rfl]
   rfl
end
theorem Z550 {a:Int×Int} (h:vF a=true) (h0:a.1=0):a=(0,1):=by
 have hb:=vF_bd h
 unfold vF at h
 simp only [Bool.and_eq_true,beq_iff_eq] at h
 have hg:=h.2.2
 rw [h0,Int.gcd_zero_left] at hg
 obtain ⟨p,q⟩:=a
 simp only at h0 hb hg ⊢
 subst h0
 congr 1
 omega
theorem Z129 {t:Tb} (ht:tabOk t=true) (hlen:(tabT t).length≤1048576):C164 N0 (bs (tabT t))=rTab t 0:=by
 have hN:=N0_big
 obtain ⟨h1,h2,h3,h4,h5⟩:=tab_ok ht
 have hne:tabT t≠[]:=by rw [Z386]; unfold tabL; rw [List.cons_append,Z215 10 _ (by simp)]; simp
 have hall:∀ x∈tabL t++[[]],x.length≤1048576:=by
  intro x hx
  have:=Z481 (c:=10) hx
  rw [← Z386] at this
  omega
 have hx:(joinC 32 (headW t)).length≤1048576:=hall _ (by unfold tabL; simp)
 have hlen2:(tabL t++[[]]).length - 1=(tabL t).length:=by rw [List.length_append]; rfl
 have htk:(tabL t++[[]]).take (tabL t).length=tabL t:=by rw [List.take_append_of_le_length (Nat.le_refl _),List.take_length]
 have hlast:(tabL t++[[]]).getD (tabL t).length []=[]:=by
  simp only [List.getD_eq_getElem?_getD]
  rw [List.getElem?_append_right (Nat.le_refl _),Nat.sub_self]
  rfl
 have hlen3:(tabL t).length=t.2.1.length+1:=by unfold tabL; rw [List.length_cons,List.length_map]
 unfold C164 C164_t
 rw [C405_is hlen,dec_f hne,cond_false,Option.bind_some,Z387,hlen2,hlast,htk]
 dsimp only
 have hsp:=Z529 32 hx
 rw [Z209] at hsp
 have hl18:=Z24 t ht 0 false 0 0 hlen N0 0 (by omega) (by omega)
 rw [List.take_zero,show ((0:Nat):Int)=0 from rfl] at hl18
 have e3:((bs (joinC 32 (headW t)) :: (t.2.1.map fun o=>joinC 32 (obW t.1.toNat o)).map bs).drop (Int.toNat 1)).take (Int.toNat (((tabL t).length:Nat):Int) - Int.toNat 1)=(t.2.1.map fun o=>joinC 32 (obW t.1.toNat o)).map bs:=by
  rw [Int.toNat_natCast,show Int.toNat 1=1 from rfl,List.drop_succ_cons,List.drop_zero,hlen3,Nat.add_sub_cancel]
  exact List.take_of_length_le (by simp)
 have e1:decide ((1:Int)≤(((tabL t).length:Nat):Int))=true:=dec_t (by omega)
 have e2:decide ((((tabL t).length:Nat):Int)≤(((tabL t).length:Nat):Int))=true:=dec_t (Int.le_refl _)
 have em:(tabL t).map bs=bs (joinC 32 (headW t)) :: (t.2.1.map fun o=>joinC 32 (obW t.1.toNat o)).map bs:=rfl
 rw [dec_t rfl,Bool.not_true,cond_false,List.length_map,eq_f (by omega),cond_false,dec_f (by omega),cond_false,dec_t (p:=(0:Int) < (((tabL t).length:Nat):Int)) (by omega),cond_true,em,Int.toNat_zero,List.getD_cons_zero,show (ByteArray.mk #[32])=bs [32] from rfl,hsp,Option.bind_some]
 dsimp only
 have hword:∀ x∈headW t,x.length≤1048576:=by
  intro x h
  have:=Z481 (c:=32) h
  omega
 have hw0:decide ((0:Int) < (((headW t).length:Nat):Int))=true:=dec_t (by have:=List.length_pos_iff.2 (Z470 t); omega)
 simp only [e1,e2,Bool.and_self,cond_true,e3,List.length_map,hw0,Z488]
 rw [List.length_map] at hl18
 have hcl:t.2.2.1=true∨t.2.2.1=false:=by cases t.2.2.1 <;> simp
 rcases hcl with hcl | hcl
 ·have hw:headW t=[itoa t.1,Z591,fracT t.2.2.2]:=by unfold headW; rw [hcl]; rfl
  rw [hw] at hword ⊢
  obtain ⟨c,hc⟩:=Z211 (hword (fracT t.2.2.2) (by simp))
  have g0:List.getD [itoa t.1,Z591,fracT t.2.2.2] 0 []=itoa t.1:=rfl
  have g2:List.getD [itoa t.1,Z591,fracT t.2.2.2] (Int.toNat 2) []=fracT t.2.2.2:=rfl
  have b3:((([itoa t.1,Z591,fracT t.2.2.2].length:Nat):Int)==3)=true:=rfl
  have b2:decide ((2:Int) < (([itoa t.1,Z591,fracT t.2.2.2].length:Nat):Int))=true:=rfl
  rw [g0,Z339 (hword _ (by simp)),Z338 (by unfold I64; omega),Option.bind_some,C426_is,Option.bind_some]
  simp only [b3,b2,cond_true,g2,hc,Option.bind_some,rdF_is h3]
  rw [hcl] at hl18
  exact hl18
 ·have hw:headW t=[itoa t.1]:=by unfold headW; rw [hcl]; rfl
  rw [hw] at hword ⊢
  have g0:List.getD [itoa t.1] 0 []=itoa t.1:=rfl
  have b3:((([itoa t.1].length:Nat):Int)==3)=false:=rfl
  rw [g0,Z339 (hword _ (by simp)),Z338 (by unfold I64; omega),Option.bind_some,C426_is,Option.bind_some]
  simp only [b3,cond_false]
  have hz:=Z550 h3 (h4.resolve_left (by rw [hcl]; simp))
  rw [hcl,hz] at hl18
  exact hl18
end Go.Abs
namespace Go.Abs
theorem sv_two (a b:Fq):C397 N0 a b=r1 (bif vF a&&vF b then 0 else 1):=by
 simp only [C397,C397_t,pr_eta,C415_is,Option.bind_some]
 cases vF a <;> cases vF b <;> rfl
theorem sv_add {a b:Fq} (ha:vF a=true) (hb:vF b=true):C264 N0 a b=r2 ((fadd a b).getD (0,0)) (bif (fadd a b).isSome then 0 else 3):=by
 simp only [C264,C264_t,pr_eta,sv_two,ha,hb,Option.bind_some,Bool.and_self,cond_true,bne_self_eq_false,cond_false,C389_is (Bd.of ha) (Bd.of hb)]
theorem Z718 (a b:Fq):C372 N0 a b=r1 (vF a&&vF b&&decide (cmpF a b < 0)):=by
 cases h:vF a&&vF b with
 | true=>simp only [C372,C372_t,C78,C78_t,pr_eta,sv_two,h,Option.bind_some,cond_true,bne_self_eq_false,cond_false,C390_is,beq_self_eq_true,Bool.true_and]
 | false =>
  simp only [C372,C372_t,C78,C78_t,pr_eta,sv_two,h,Option.bind_some,cond_false]
  rfl
def ltF (a b:Fq):Prop:=a.1*b.2 < b.1*a.2
theorem Z592 {a b:Fq} (ha:Bd a) (hb:Bd b):(cmpF a b > 0↔ltF b a)∧(cmpF a b < 0↔ltF a b):=by
 have h1:=bd_pq ha hb
 have h2:=bd_pq hb ha
 unfold cmpF ltF
 rw [w_in (x:=a.1*b.2) (by unfold I64; omega),w_in (x:=b.1*a.2) (by unfold I64; omega)]
 by_cases c1:a.1*b.2 < b.1*a.2
 ·rw [dec_t c1,cond_true]
  omega
 ·rw [dec_f c1,cond_false]
  by_cases c2:a.1*b.2 > b.1*a.2
  ·rw [dec_t c2,cond_true]; omega
  ·rw [dec_f c2,cond_false]; omega
end Go.Abs
namespace Go.Abs
theorem ob_l4 (v:List Ob) (hb:v.length≤1048576):∀ (k i:Nat),i≤v.length→v.length - i < k→C26_l4 N0 k (i:Int) v v (v.length:Int)=r1 true
 | 0,i,_,hk=>by omega
 | k+1,i,hi,hk=>by
  simp only [C26_l4,C26_t4]
  by_cases h:i < v.length
  ·simp only [lt_t h,nn_t,Bool.and_self,cond_true,Int.toNat_natCast,beq_self_eq_true,bne_self_eq_false,Bool.not_true,cond_false,w_succ (i:=i) (by omega)]
   exact ob_l4 v hb k (i+1) h (by omega)
  ·simp only [lt_f h,cond_false]
theorem Z636 (t:Tb) (hb:t.2.1.length≤1048576):C166 N0 t t=r1 true:=by
 have:=N0_big
 have h:=ob_l4 t.2.1 hb N0 0 (by omega) (by omega)
 have h:C26_l4 N0 N0 0 t.2.1 t.2.1 (t.2.1.length:Int)=r1 true:=h
 simp only [C166,C166_t,C26,C26_t,bne_self_eq_false,cond_false,h,Option.bind_some,beq_self_eq_true,cond_true,Bool.and_self]
theorem Z547 {t:Tb} (h:TbD t):(tabT t).length≤1048576:=by
 have h1:=Z314 h.ok
 have hc:=h.ct
 have:∀ l:List Ob,(∀ o∈l,obOk t.1 o=true)→(obsT t.1.toNat l).length≤297*l.length:=by
  intro l
  induction l with
  | nil=>intro _; simp [obsT]
  | cons o r ih =>
   intro ho
   have h2:=Z678 (ho o (by simp)) (n:=t.1.toNat) (by omega)
   have h3:=ih fun p hp=>ho p (by simp [hp])
   have e:obsT t.1.toNat (o :: r)=obT t.1.toNat o++obsT t.1.toNat r:=by simp [obsT]
   rw [e,List.length_append,List.length_cons]
   omega
 have h2:=this t.2.1 (fun o ho=>(h.obs o ho).ok)
 have h3:=h.len
 unfold tabT
 rw [List.length_append]
 omega
theorem Z674 {a b:Fq} (ha:Bd a) (hb:Bd b) (h:qv b≤qv a):¬ ltF a b:=by
 intro hlt
 unfold ltF at hlt
 have n1:=int_ne (x:=a.2) (by have:=ha.1; omega)
 have n2:=int_ne (x:=b.2) (by have:=hb.1; omega)
 have p1:(0:Rat)≤(a.2:Rat):=by exact_mod_cast (show (0:Int)≤a.2 by have:=ha.1; omega)
 have p2:(0:Rat)≤(b.2:Rat):=by exact_mod_cast (show (0:Int)≤b.2 by have:=hb.1; omega)
 have e:=Rat.mul_le_mul_of_nonneg_right h (Rat.mul_nonneg p1 p2)
 have e1:qv b*((a.2:Rat)*(b.2:Rat))=(b.1:Rat)*(a.2:Rat):=by unfold qv; grind
 have e2:qv a*((a.2:Rat)*(b.2:Rat))=(a.1:Rat)*(b.2:Rat):=by unfold qv; grind
 rw [e1,e2] at e
 have:b.1*a.2≤a.1*b.2:=by exact_mod_cast e
 omega
theorem Z374 {t:Tb} (ht:TbD t) {x:List Fq} (hv:∀ y∈x,vF y=true) (hl:x.length=t.1.toNat):(∃ c,c≠0∧sqRes t x=r2 (0,0) c)∨∃ a,sqRes t x=r2 a 0∧vF a=true∧qv a=sqQ t.1.toNat (fun j=>qv (x.getD j (0,0))) t.2.1:=by
 have hct:=ht.ct
 obtain ⟨k1,k2,k3,k4⟩:=Z719 ht.ok
 have hask:askC t x=0:=by
  unfold askC
  rw [ht.ok,List.all_eq_true.2 hv,ne_f (by omega)]
  rfl
 unfold sqRes
 rw [hask]
 simp only [bne_self_eq_false,cond_false]
 have hbd:=Z565 x t.2.1 (fun o ho=>(k3 o ho).1.2)
 have hlen:=Z407 x t.2.1
 cases h1:(allG x t.2.1).2 with
 | true=>left; exact ⟨3,by omega,rfl⟩
 | false =>
  rw [Bool.false_or]
  cases h2:(sqUp (allG x t.2.1).1 t.2.1 (allG x t.2.1).1.length 0 (0,1)).2 with
  | true=>left; exact ⟨3,by omega,rfl⟩
  | false =>
   right
   have hq:=allG_q (m:=t.1.toNat) hl (by omega) (fun y hy=>Bd.of (hv y hy)) t.2.1 k3 h1
   obtain ⟨g1,g2⟩:=sqUp_q hbd (fun o ho=>(k3 o ho).2) hlen (reQ t.1.toNat (fun j=>qv (x.getD j (0,0)))) hq (allG x t.2.1).1.length 0 (0,1) (by omega) Bd.zero h2
   refine ⟨_,rfl,g2 (by decide),?_⟩
   rw [g1,Z690 (a:=(0,1)) rfl,List.drop_zero]
   unfold sqQ
   grind
theorem Z623:∀ (zs:List Int) (s:Int),(∀ z∈zs,-1000≤z∧z≤1000)→zs.length≤6→(-10000000+1000*(zs.length:Int)≤s∧s≤10000000 - 1000*(zs.length:Int))→fsum (q4 s) (zs.map q4)=some (q4 (s+sumL zs)):=by
 intro zs
 induction zs with
 | nil=>intro s _ _ _; rw [List.map_nil,sumL,Int.add_zero]; rfl
 | cons z r ih =>
  intro s h hl hs
  rw [List.length_cons] at hl hs
  have hz:=h z (by simp)
  have e:=q4_add (x:=s) (y:=z) (by unfold Q4; omega) (by unfold Q4; omega) (by unfold Q4; omega)
  rw [List.map_cons,fsum,e,sumL]
  have:=ih (s+z) (fun y hy=>h y (by simp [hy])) (by omega) (by omega)
  rw [Int.add_assoc] at this
  exact this
theorem sv_sub {a b:Fq} (ha:vF a=true) (hb:vF b=true):C272 N0 a b=r2 ((fsub a b).getD (0,0)) (bif (fsub a b).isSome then 0 else 3):=by
 simp only [C272,C272_t,pr_eta,sv_two,ha,hb,Option.bind_some,Bool.and_self,cond_true,bne_self_eq_false,cond_false,C395_is (Bd.of ha) (Bd.of hb)]
theorem Z652 {t:Tb} (ht:TbD t) (hcor:(corP t).2=0) {zs:List Int} (hz:∀ z∈zs,-1000≤z∧z≤1000) (hl:zs.length=t.1.toNat) (hs:t.2.2.1=true→fsum (0,1) (zs.map q4)=some t.2.2.2) {a b:Fq}
  (ha:qv a=sqQ t.1.toNat (fun j=>qv ((corP t).1.getD j (0,0))) t.2.1) (va:vF a=true) (hb:qv b=sqQ t.1.toNat (fun j=>qv ((zs.map q4).getD j (0,0))) t.2.1) (vb:vF b=true):C372 N0 b a=r1 false:=by
 have hct:=ht.ct
 obtain ⟨x,S,hx,U,hlen,hv⟩:=Z426 hcor
 have k3:=(Z719 ht.ok).2.2.1
 have ex:∀ o,reQ t.1.toNat (fun j=>qv ((corP t).1.getD j (0,0))) o=reQ t.1.toNat x o:=fun o=>by
  unfold reQ axQ
  congr 1
  exact Z261 _ 0 fun c _ hc=>by rw [hx c (by omega)]
 have e1:sqQ t.1.toNat (fun j=>qv ((corP t).1.getD j (0,0))) t.2.1=sqQ t.1.toNat x t.2.1:=by
  unfold sqQ
  exact Z525 _ fun o _=>by rw [ex o]
 have le:=Z648 (y:=fun j=>qv ((zs.map q4).getD j (0,0))) k3 S.a (by
  cases hcl:t.2.2.1 with
  | false=>left; rfl
  | true =>
   right
   rw [S.b hcl]
   obtain ⟨_,b2⟩:=Z624 _ Bd.zero (fun y hy=>by obtain ⟨z,hz',rfl⟩:=List.mem_map.1 hy; exact (q4_is (by have:=hz z hz'; unfold Q4; omega)).2) (hs hcl)
   rw [b2,Z690 (a:=(0,1)) rfl,List.length_map,hl]
   grind)
 rw [Z718,va,vb,dec_f]
 ·rfl
 ·intro h
  exact Z674 (Bd.of vb) (Bd.of va) (by rw [ha,hb,e1]; exact le) ((Z592 (Bd.of vb) (Bd.of va)).2.1 h)
theorem Z369 {r:List Int} {z0 k:Int} (h:∀ y∈r,-80≤y∧y≤80) (h0:-80≤z0∧z0≤80) (hl:r.length+1=k.toNat) (hk:1≤k∧k≤4):-400≤z0+sumL r∧z0+sumL r≤400:=by
 have hs:=Z717 (v:=r) (B:=80) (by omega) h
 omega
theorem law_FnLeast (code more:List Int) (hc:WfD (.list (.int .u8)) code) (hm:WfD (.list (.int .u8)) more):laws_FnLeast N0 code more=r1 true:=by
 have hN:=N0_big
 simp only [laws_FnLeast,laws_FnLeast_t,C409,C409_t,Option.bind_some]
 by_cases h1:(code.length:Int) > 4096
 ·rw [dec_t h1]; rfl
 ·by_cases h2:(more.length:Int) > 4096
  ·rw [dec_f h1,dec_t h2]; rfl
  ·obtain ⟨t,e,ht⟩:=Z172 (Z595 hc) (by omega)
   have hct:=ht.ct
   have hlen:=ht.len
   obtain ⟨zs,ez,hzl,hz⟩:=Z106 (Z595 hm) (by omega) (t:=t) (by omega)
   have hz':∀ z∈zs,-1000≤z∧z≤1000:=fun z h=>by have:=hz z h; omega
   have hb:t.2.1.length≤9223372036854775807:=by omega
   have hfit:=ok_fit ht.ok
   have hcl:=Z424 t
   obtain ⟨fa,fc,hfr⟩:=Z620 t
   obtain ⟨g1,g2,g3,H⟩:=Z668 (Z190 ht)
   simp only [dec_f h1,dec_f h2,cond_false,e,ez,Option.bind_some,pr_eta,C169_is t hb hfit,ht.ok,cond_true,Z129 ht.ok (Z547 ht),C58_is t hb hfit,C65_is t hb,C354_is t hb hfit,C381_is t hb,hfr,
    bne_self_eq_false,tab_is t (show t.2.1.length≤1048576 by omega),Z636 t (show t.2.1.length≤1048576 by omega),Bool.not_true,C121_is t hb hfit,Z252 _ (show (corP t).1.length≤1048576 by omega)]
   by_cases hcor:(corP t).2=0
   ·obtain ⟨x,S,hx,U,hxl,hv⟩:=Z426 hcor
    obtain ⟨T,hT,hqT⟩:=ht.tot
    have hls:=Z214 ht hfit hcor
    have hsq:=Z374 ht hv hxl
    have hQz:∀ z∈zs,Q4 z:=fun z h=>by have:=hz z h; unfold Q4; omega
    have hroom:decide ((0+t.2.1.length)*33≤70368744177664)=true:=dec_t (by omega)
    have vT:vF t.2.2.2=true:=by rw [hqT]; exact (q4_is (by unfold Q4; omega)).2
    have hyv:∀ y∈zs.map q4,vF y=true:=fun y hy=>by obtain ⟨z,h,rfl⟩:=List.mem_map.1 hy; exact (q4_is (hQz z h)).2
    have i1:=C168_is t (corP t).1 hb hfit (by omega)
    rw [ne_f hcor,cond_false,i1]
    cases hcd:t.2.2.1 with
    | false =>
     have i2:=C168_is t (zs.map q4) hb hfit (by rw [List.length_map]; omega)
     have hop:t.2.2.1=true∨t.2.2.2.1=0:=by
      have:=ht.ok
      unfold tabOk at this
      simp only [Bool.and_eq_true,Bool.or_eq_true,beq_iff_eq] at this
      exact this.2.2.2.1
     have hrest:=Z696 ht hcor hz' hzl vT (fun h=>by rw [hcd] at h; cases h) hop
     rw [hcd] at hrest
     have hsq':=Z374 ht hyv (by rw [List.length_map]; exact hzl)
     rcases hsq with ⟨c,hc0,e2⟩ | ⟨a,e2,va,qa⟩
     ·rcases hsq' with ⟨c',hc0',e3⟩ | ⟨b,e3,vb,qb⟩ <;> rcases hls with e1 | e1 <;>
       simp only [e1,i2,e2,e3,Option.bind_some,eq_f hc0,cond_false,cond_true,show ((3:Int)==0)=false from rfl,show ((3:Int) != 0)=true from rfl,bne_self_eq_false,beq_self_eq_true,Bool.not_true,hroom,List.nil_append] <;> exact hrest
     ·rcases hsq' with ⟨c',hc0',e3⟩ | ⟨b,e3,vb,qb⟩
      ·rcases hls with e1 | e1 <;>
        simp only [e1,i2,e2,e3,Option.bind_some,eq_f hc0',cond_false,cond_true,show ((3:Int)==0)=false from rfl,show ((3:Int) != 0)=true from rfl,bne_self_eq_false,beq_self_eq_true,Bool.not_true,hroom,List.nil_append] <;> exact hrest
      ·have hno:=Z652 ht hcor hz' hzl (fun h=>by rw [hcd] at h; cases h) qa va qb vb
       rcases hls with e1 | e1 <;>
        simp only [e1,i2,e2,e3,hno,Option.bind_some,cond_false,cond_true,show ((3:Int)==0)=false from rfl,show ((3:Int) != 0)=true from rfl,bne_self_eq_false,beq_self_eq_true,Bool.not_true,hroom,List.nil_append] <;> exact hrest
    | true =>
     cases zs with
     | nil=>rw [List.length_nil] at hzl; omega
     | cons z0 r =>
      rw [List.length_cons] at hzl
      have hz0:=hz z0 (by simp)
      have hsS:-400≤z0+sumL r∧z0+sumL r≤400:=Z369 (fun y hy=>hz y (by simp [hy])) hz0 hzl hct
      have s1:fsum (0,1) ((z0 :: r).map q4)=some (q4 (z0+sumL r)):=by
       have:=Z623 (z0 :: r) 0 hz' (by rw [List.length_cons]; omega) (by rw [List.length_cons]; omega)
       rw [Z689,Int.zero_add] at this
       exact this
      have hw:∀ z∈(T - sumL r) :: r,-1000≤z∧z≤1000:=fun z h=>by
       rcases List.mem_cons.1 h with e | h
       ·rw [e]; omega
       ·exact hz' z (by simp [h])
      have s2:fsum (0,1) (((T - sumL r) :: r).map q4)=some t.2.2.2:=by
       have:=Z623 ((T - sumL r) :: r) 0 hw (by rw [List.length_cons]; omega) (by rw [List.length_cons]; omega)
       rw [Z689,Int.zero_add,sumL,show T - sumL r+sumL r=T by omega] at this
       rw [this,hqT]
      have hyv':∀ y∈((T - sumL r) :: r).map q4,vF y=true:=fun y hy=>by obtain ⟨z,h,rfl⟩:=List.mem_map.1 hy; exact (q4_is (by have:=hw z h; unfold Q4; omega)).2
      have p1:=Z541 ((z0 :: r).map q4) hyv (by rw [List.length_map,List.length_cons]; omega)
      rw [s1] at p1
      have p2:=Z541 (((T - sumL r) :: r).map q4) hyv' (by rw [List.length_map,List.length_cons]; omega)
      rw [s2] at p2
      have p3:=Z541 (corP t).1 hv (by omega)
      rw [Z187 ht hcd hcor] at p3
      have p4:=sv_sub vT (q4_is (show Q4 (z0+sumL r) by unfold Q4; omega)).2
      rw [show fsub t.2.2.2 (q4 (z0+sumL r))=some (q4 (T - (z0+sumL r))) by rw [hqT]; exact q4_sub (by unfold Q4; omega) (by unfold Q4; omega) (by unfold Q4; omega)] at p4
      have p5:=sv_add (q4_is (hQz z0 (by simp))).2 (q4_is (show Q4 (T - (z0+sumL r)) by unfold Q4; omega)).2
      rw [q4_add (hQz z0 (by simp)) (by unfold Q4; omega) (by unfold Q4; omega),show z0+(T - (z0+sumL r))=T - sumL r by omega] at p5
      simp only [Option.getD_some,Option.isSome_some,cond_true] at p1 p2 p3 p4 p5
      have hset:((z0 :: r).map q4).set (Int.toNat 0) (q4 (T - sumL r))=((T - sumL r) :: r).map q4:=rfl
      have hget:((z0 :: r).map q4).getD (Int.toNat 0) (0,0)=q4 z0:=rfl
      have hpos:decide ((0:Int) < ((((z0 :: r).map q4).length:Nat):Int))=true:=dec_t (by rw [List.length_map,List.length_cons]; omega)
      have i2:=C168_is t (((T - sumL r) :: r).map q4) hb hfit (by rw [List.length_map,List.length_cons]; omega)
      have hrest:=Z696 ht hcor hw (by rw [List.length_cons]; exact hzl) vT (fun _=>s2) (.inl hcd)
      rw [hcd] at hrest
      have hsq':=Z374 ht hyv' (by rw [List.length_map,List.length_cons]; exact hzl)
      rcases hsq with ⟨c,hc0,e2⟩ | ⟨a,e2,va,qa⟩
      ·rcases hsq' with ⟨c',hc0',e3⟩ | ⟨b,e3,vb,qb⟩ <;> rcases hls with e1 | e1 <;>
        simp only [e1,p1,p2,p3,p4,p5,hset,hget,hpos,i2,e2,e3,Option.bind_some,eq_f hc0,cond_false,cond_true,show ((3:Int)==0)=false from rfl,show ((3:Int) != 0)=true from rfl,bne_self_eq_false,beq_self_eq_true,Bool.and_self,Bool.not_true,hroom,List.nil_append] <;> exact hrest
      ·rcases hsq' with ⟨c',hc0',e3⟩ | ⟨b,e3,vb,qb⟩
       ·rcases hls with e1 | e1 <;>
         simp only [e1,p1,p2,p3,p4,p5,hset,hget,hpos,i2,e2,e3,Option.bind_some,eq_f hc0',cond_false,cond_true,show ((3:Int)==0)=false from rfl,show ((3:Int) != 0)=true from rfl,bne_self_eq_false,beq_self_eq_true,Bool.and_self,Bool.not_true,hroom,List.nil_append] <;> exact hrest
       ·have hno:=Z652 ht hcor hw (by rw [List.length_cons]; exact hzl) (fun _=>s2) qa va qb vb
        rcases hls with e1 | e1 <;>
         simp only [e1,p1,p2,p3,p4,p5,hset,hget,hpos,i2,e2,e3,hno,Option.bind_some,cond_false,cond_true,show ((3:Int)==0)=false from rfl,show ((3:Int) != 0)=true from rfl,bne_self_eq_false,beq_self_eq_true,Bool.and_self,Bool.not_true,hroom,List.nil_append] <;> exact hrest
   ·rw [Z665 hcor,cond_true]
    have hfin:(corP t).2=(finM (stepsM (norP t).1.length (norP t).1.length 0 (norP t).1 (norP t).2.1)).2∧(finM (stepsM (norP t).1.length (norP t).1.length 0 (norP t).1 (norP t).2.1)).2≠0:=by
     unfold corP at hcor ⊢
     rw [Z190 ht] at hcor ⊢
     simp only [bne_self_eq_false,cond_false] at hcor ⊢
     by_cases h:(finM (stepsM (norP t).1.length (norP t).1.length 0 (norP t).1 (norP t).2.1)).2=0
     ·rw [ne_f h] at hcor; exact absurd rfl hcor
     ·rw [Z665 h]; exact ⟨rfl,h⟩
    rcases Z203 hfin.2 with e3 | ⟨e4,hfree⟩
    ·rw [hfin.1,e3]; rfl
    ·rw [hfin.1,e4]
     unfold freP freeF at hfr
     rw [Z190 ht] at hfr
     simp only [bne_self_eq_false,cond_false] at hfr
     rcases hfree with e5 | ⟨e5,e6⟩
     ·rw [e5] at hfr
      have hfr:r2 (0:Int) (3:Int)=r2 fa fc:=hfr
      simp only [Option.some.injEq,Prod.mk.injEq,and_true] at hfr
      rw [← hfr.1,← hfr.2]
      rfl
     ·rw [e5] at hfr
      have hfr:r2 (((norP t).1.length:Int) - ((freeM (norP t).1.length (norP t).1.length 0 0 (norP t).1 (norP t).2.1).2:Int)) (0:Int)=r2 fa fc:=hfr
      simp only [Option.some.injEq,Prod.mk.injEq,and_true] at hfr
      rw [← hfr.1,← hfr.2,dec_t (p:=((norP t).1.length:Int) - ((freeM (norP t).1.length (norP t).1.length 0 0 (norP t).1 (norP t).2.1).2:Int) > 0) (by omega)]
      rfl
end Go.Abs
