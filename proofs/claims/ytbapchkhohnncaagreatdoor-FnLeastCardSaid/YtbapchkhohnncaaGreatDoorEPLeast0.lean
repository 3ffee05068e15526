import Derived.Test.YtbapchkhohnncaaGreatDoorDPLeast0
import Derived.Test.YtbapchkhohnncaaGreatDoorProg
import Derived.Test.YtbapchkhohnncaaGreatDoorRowD
import Derived.WalkKit
import Derived.ProofKit
import Derived.Shelf.RegionOpenPlain
import Derived.Lib.ConvBytes
import Derived.Test.YtbapchkhohnncaaGreatDoorShelf
import Derived.KernelRfl
set_option linter.unusedSimpArgs false
set_option linter.unusedSectionVars false
set_option linter.unusedVariables false
namespace Go.Abs
open Go.Proofs
set_option maxRecDepth 100000
noncomputable abbrev P:Program:=Tryz.prog
noncomputable abbrev ty:Nat→Option TyI:=tyOf P
noncomputable abbrev typ:Nat→Option TyI:=tyP P
def bodyOf (f:Func):Code:=match f.body with | some c=>c | none=>.skip
theorem follows:P.follows .mixedOrders=true:=by kernel_rfl
theorem Z630:P.globalNamed "internal/strconv.uint64pow10"=some 3:=by kernel_rfl
noncomputable instance:Laid P where
 g:=fun b=>b=3∨b=0∨b=1∨b=2
 L:=fun w=>(Go.Lib.TabIs P w "internal/strconv.uint64pow10" .u64 Go.Lib.pow10Tab)∧(∃ m,w.cell? ⟨0,0,none⟩=some (.int .i64 m))∧(∃ te pe,w.cell? ⟨1,0,none⟩=some (.iface te pe))∧(∃ te pe,w.cell? ⟨2,0,none⟩=some (.iface te pe))
 keep:=fun w w' h hl=>⟨Z548 Z630 (h 3 (.inl rfl)) (hl.1),(fun ⟨m,hm⟩=>⟨m,(Z586 (h 0 (.inr (.inl rfl))) 0).trans hm⟩) (hl.2.1),(fun ⟨t,p,hm⟩=>⟨t,p,(Z586 (h 1 (.inr (.inr (.inl rfl)))) 0).trans hm⟩) (hl.2.2.1),(fun ⟨t,p,hm⟩=>⟨t,p,(Z586 (h 2 (.inr (.inr (.inr (rfl))))) 0).trans hm⟩) (hl.2.2.2)⟩
theorem Z643 {w:World} (h:Laid.L P w):Go.Lib.TabIs P w "internal/strconv.uint64pow10" .u64 Go.Lib.pow10Tab:=(show (Go.Lib.TabIs P w "internal/strconv.uint64pow10" .u64 Go.Lib.pow10Tab)∧(∃ m,w.cell? ⟨0,0,none⟩=some (.int .i64 m))∧(∃ te pe,w.cell? ⟨1,0,none⟩=some (.iface te pe))∧(∃ te pe,w.cell? ⟨2,0,none⟩=some (.iface te pe)) from h).1
theorem Z642 {w:World} (h:Laid.L P w):∃ m,w.cell? ⟨0,0,none⟩=some (.int .i64 m):=(show (Go.Lib.TabIs P w "internal/strconv.uint64pow10" .u64 Go.Lib.pow10Tab)∧(∃ m,w.cell? ⟨0,0,none⟩=some (.int .i64 m))∧(∃ te pe,w.cell? ⟨1,0,none⟩=some (.iface te pe))∧(∃ te pe,w.cell? ⟨2,0,none⟩=some (.iface te pe)) from h).2.1
theorem Z645 {w:World} (h:Laid.L P w):∃ te pe,w.cell? ⟨1,0,none⟩=some (.iface te pe):=(show (Go.Lib.TabIs P w "internal/strconv.uint64pow10" .u64 Go.Lib.pow10Tab)∧(∃ m,w.cell? ⟨0,0,none⟩=some (.int .i64 m))∧(∃ te pe,w.cell? ⟨1,0,none⟩=some (.iface te pe))∧(∃ te pe,w.cell? ⟨2,0,none⟩=some (.iface te pe)) from h).2.2.1
theorem Z644 {w:World} (h:Laid.L P w):∃ te pe,w.cell? ⟨2,0,none⟩=some (.iface te pe):=(show (Go.Lib.TabIs P w "internal/strconv.uint64pow10" .u64 Go.Lib.pow10Tab)∧(∃ m,w.cell? ⟨0,0,none⟩=some (.int .i64 m))∧(∃ te pe,w.cell? ⟨1,0,none⟩=some (.iface te pe))∧(∃ te pe,w.cell? ⟨2,0,none⟩=some (.iface te pe)) from h).2.2.2
theorem Z647 {w:World} (h:Laid.L P w):∀ blk,Laid.g P blk→blk < w.heap.size:=by
 intro blk hb
 rcases (show blk=3∨blk=0∨blk=1∨blk=2 from hb) with rfl | rfl | rfl | rfl
 ·exact var_lt Z630 (Z643 h)
 ·exact (fun ⟨m,hm⟩=>Z587 hm) (Z642 h)
 ·exact (fun ⟨t,p,hm⟩=>Z587 hm) (Z645 h)
 ·exact (fun ⟨t,p,hm⟩=>Z587 hm) (Z644 h)
abbrev tF:Tc:=(.pair (.int .i64) (.int .i64))
abbrev tO:Tc:=(.pair (.pair (.int .i8) (.pair (.int .i8) (.pair (.int .i8) (.pair (.int .i8) (.pair (.int .i8) (.int .i8)))))) (.pair (.pair (.int .i64) (.int .i64)) (.int .i64)))
abbrev C429sp:List Sp:=[.v false (.int .i64),.v false (.int .i64)]
abbrev C429bs:List (Bs×Bool):=[]
abbrev C429rs:List (Bool×List Rp):=[(false,[.v false (.int .i64)])]
noncomputable def C429kp:Keep:={ loop:=fun id=>match id with | 1=>([1,0],[]) | _=>([],[]),join:=fun id=>match id with | _=>none }
noncomputable def C429c:Code:=bodyOf Go.Proofs.Tryz.f83
noncomputable def C429F (n:Nat):Fun:={ id:=83,sp:=C429sp,bs:=C429bs,rs:=C429rs,f:=fun x y=>C429 n x.1 x.2.1 }
abbrev C429s1 (v1:Int) (v0:Int):St:={ env:=[(1,.one (.sc (.int .i64 v1))),(0,.one (.sc (.int .i64 v0)))],bx:=[],nx:=0 }
noncomputable abbrev C429k0 (n:Nat):=kAt ([]) ty 15 0 n C429kp C429c [1,0,0] [] (ending ty 0 Go.Proofs.Tryz.f83.results.toList C429rs C429bs)
theorem C429_l1_eq (n:Nat):∀ (k:Nat) (v1:Int) (v0:Int),iter (interp ([]) ty 15 0 n C429kp (codeAt C429c [1,0,0,0])) (canon 0 (C429kp.loop 1)) (C429k0 n) k (C429s1 v1 v0)=C429_l1 n k v1 v0
 | 0,_,_=>by kernel_rfl
 | k+1,v1,v0=>by
  refine Eq.trans (b:=C429_t1 n (fun v1 v0=>iter (interp ([]) ty 15 0 n C429kp (codeAt C429c [1,0,0,0])) (canon 0 (C429kp.loop 1)) (C429k0 n) k (C429s1 v1 v0)) v1 v0) (by kernel_rfl) ?_
  have e:=congrArg (fun g=>C429_t1 n g v1 v0) (funext fun v1=>funext fun v0=>C429_l1_eq n k v1 v0)
  exact e
theorem C429_eq (n:Nat) (a0:Int) (a1:Int):Z702 ([]) ty 15 n C429kp C429c Go.Proofs.Tryz.f83.results.toList C429rs C429sp C429bs (a0,(a1,())) ()=C429 n a0 a1:=by
 refine Eq.trans (b:=C429_t n (fun k v1 v0=>iter (interp ([]) ty 15 0 n C429kp (codeAt C429c [1,0,0,0])) (canon 0 (C429kp.loop 1)) (C429k0 n) k (C429s1 v1 v0)) a0 a1) (by kernel_rfl) ?_
 have e:=congrArg (fun h1=>C429_t n h1 a0 a1) (funext fun k=>funext fun v1=>funext fun v0=>C429_l1_eq n k v1 v0)
 exact e
theorem C429_ok (n:Nat):FunOk P (C429F n) :=
 Z465 (C:=[]) (N:=15) (kp:=C429kp) (c:=C429c) (n:=n) (G:=fun x y=>C429 n x.1 x.2.1) follows (AllOk.mem (trivial:AllOk P ([]))) (by kernel_rfl:P.funcs[83]?=some Go.Proofs.Tryz.f83) (by kernel_rfl) (by kernel_rfl) (by kernel_rfl)
  (fun x y=>C429_eq n x.1 x.2.1) (fun _ _=>Z489 (fun _=>rfl) _) (fun _ _ _ _=>rfl)
abbrev C366sp:List Sp:=[.v false (.int .i64),.v false (.int .i64),.v false (.int .i64)]
abbrev C366bs:List (Bs×Bool):=[]
abbrev C366rs:List (Bool×List Rp):=[(false,[.v false .bool])]
noncomputable def C366kp:Keep:={ loop:=fun id=>match id with | _=>([],[]),join:=fun id=>match id with | _=>none }
noncomputable def C366c:Code:=bodyOf Go.Proofs.Tryz.f33
noncomputable def C366F (n:Nat):Fun:={ id:=33,sp:=C366sp,bs:=C366bs,rs:=C366rs,f:=fun x y=>C366 n x.1 x.2.1 x.2.2.1 }
theorem C366_eq (n:Nat) (a0:Int) (a1:Int) (a2:Int):Z702 ([]) ty 15 n C366kp C366c Go.Proofs.Tryz.f33.results.toList C366rs C366sp C366bs (a0,(a1,(a2,()))) ()=C366 n a0 a1 a2:=by
 refine Eq.trans (b:=C366_t n a0 a1 a2) (by kernel_rfl) ?_
 rfl
theorem C366_ok (n:Nat):FunOk P (C366F n) :=
 Z465 (C:=[]) (N:=15) (kp:=C366kp) (c:=C366c) (n:=n) (G:=fun x y=>C366 n x.1 x.2.1 x.2.2.1) follows (AllOk.mem (trivial:AllOk P ([]))) (by kernel_rfl:P.funcs[33]?=some Go.Proofs.Tryz.f33) (by kernel_rfl) (by kernel_rfl) (by kernel_rfl)
  (fun x y=>C366_eq n x.1 x.2.1 x.2.2.1) (fun _ _=>Z489 (fun _=>rfl) _) (fun _ _ _ _=>rfl)
abbrev C172sp:List Sp:=[.v true tF]
abbrev C172bs:List (Bs×Bool):=[]
abbrev C172rs:List (Bool×List Rp):=[(false,[.v false .bool])]
noncomputable def C172kp:Keep:={ loop:=fun id=>match id with | _=>([],[]),join:=fun id=>match id with | _=>none }
noncomputable def C172c:Code:=bodyOf Go.Proofs.Tryz.f47
noncomputable def C172F (n:Nat):Fun:={ id:=47,sp:=C172sp,bs:=C172bs,rs:=C172rs,f:=fun x y=>C172 n x.1 }
theorem C172_eq (n:Nat) (a0:(Int)×(Int)):Z702 ([C366F n,C429F n]) ty 19 n C172kp C172c Go.Proofs.Tryz.f47.results.toList C172rs C172sp C172bs (a0,()) ()=C172 n a0:=by
 refine Eq.trans (b:=C172_t n a0) (by kernel_rfl) ?_
 rfl
theorem C172_ok (n:Nat):FunOk P (C172F n) :=
 Z465 (C:=[C366F n,C429F n]) (N:=19) (kp:=C172kp) (c:=C172c) (n:=n) (G:=fun x y=>C172 n x.1) follows (AllOk.mem (⟨C366_ok n,⟨C429_ok n,trivial⟩⟩:AllOk P ([C366F n,C429F n]))) (by kernel_rfl:P.funcs[47]?=some Go.Proofs.Tryz.f47) (by kernel_rfl) (by kernel_rfl) (by kernel_rfl)
  (fun x y=>C172_eq n x.1) (fun _ _=>Z489 (fun _=>rfl) _) (fun _ _ _ _=>rfl)
abbrev C121sp:List Sp:=[.v true (.pair (.int .i64) (.pair (.list tO) (.pair .bool tF)))]
abbrev C121bs:List (Bs×Bool):=[]
abbrev C121rs:List (Bool×List Rp):=[(false,[.v false .bool])]
noncomputable def C121kp:Keep:={ loop:=fun id=>match id with | 4=>([1,38,36,37],[]) | 8=>([44,5,1,43,36,37,38,4],[]) | _=>([],[]),join:=fun id=>match id with | _=>none }
noncomputable def C121c:Code:=bodyOf Go.Proofs.Tryz.f15
noncomputable def C121F (n:Nat):Fun:={ id:=15,sp:=C121sp,bs:=C121bs,rs:=C121rs,f:=fun x y=>C121 n x.1 }
noncomputable abbrev C121cs (n:Nat):List Fun:=[C366F n,C172F n]
abbrev C121s8 (v44:Int) (v5:Bool) (v43_0:Int) (v43_1:Int) (v43_2:Int) (v43_3:Int) (v43_4:Int) (v43_5:Int) (v36:List OB9) (v37:Int) (v38:Int) (b0_0:Int) (b0_1:List OB9) (b0_2:Bool) (b0_3:Int) (b0_4:Int) (b1_0:Int) (b1_1:Int) (b1_2:Int) (b1_3:Int) (b1_4:Int) (b1_5:Int) (b1_6:Int) (b1_7:Int) (b1_8:Int):St:={ env:=[(44,.one (.sc (.int .i64 v44))),(5,.one (.sc (.bool v5))),(1,.one (.ref 0 0 0 0 0 0)),(43,.agg [.sc (.int .i8 v43_0),.sc (.int .i8 v43_1),.sc (.int .i8 v43_2),.sc (.int .i8 v43_3),.sc (.int .i8 v43_4),.sc (.int .i8 v43_5)]),(36,.one (.list true tO v36)),(37,.one (.sc (.int .i64 v37))),(38,.one (.sc (.int .i64 v38))),(4,.one (.ref 1 0 0 0 0 0))],bx:=[(0,.var 28 [.sc (.int .i64 b0_0),.list true tO b0_1,.sc (.bool b0_2),.sc (.int .i64 b0_3),.sc (.int .i64 b0_4)]),(1,.var 52 [.sc (.int .i8 b1_0),.sc (.int .i8 b1_1),.sc (.int .i8 b1_2),.sc (.int .i8 b1_3),.sc (.int .i8 b1_4),.sc (.int .i8 b1_5),.sc (.int .i64 b1_6),.sc (.int .i64 b1_7),.sc (.int .i64 b1_8)])],nx:=2 }
abbrev C121s4 (v38:Int) (v36:List OB9) (v37:Int) (b0_0:Int) (b0_1:List OB9) (b0_2:Bool) (b0_3:Int) (b0_4:Int):St:={ env:=[(1,.one (.ref 0 0 0 0 0 0)),(38,.one (.sc (.int .i64 v38))),(36,.one (.list true tO v36)),(37,.one (.sc (.int .i64 v37)))],bx:=[(0,.var 28 [.sc (.int .i64 b0_0),.list true tO b0_1,.sc (.bool b0_2),.sc (.int .i64 b0_3),.sc (.int .i64 b0_4)])],nx:=1 }
noncomputable abbrev C121k0 (n:Nat):=kAt (C121cs n) ty 83 0 n C121kp C121c [1,1,0,1,0] [] (ending ty 0 Go.Proofs.Tryz.f15.results.toList C121rs C121bs)
theorem C121_l8_eq (n:Nat) (G4:St→Option ((((Bool)×(Unit))×(Unit))×(Unit))):∀ (k:Nat) (v44:Int) (v5:Bool) (v43_0:Int) (v43_1:Int) (v43_2:Int) (v43_3:Int) (v43_4:Int) (v43_5:Int) (v36:List OB9) (v37:Int) (v38:Int) (b0_0:Int) (b0_1:List OB9) (b0_2:Bool) (b0_3:Int) (b0_4:Int) (b1_0:Int) (b1_1:Int) (b1_2:Int) (b1_3:Int) (b1_4:Int) (b1_5:Int) (b1_6:Int) (b1_7:Int) (b1_8:Int),iter (interp (C121cs n) ty 83 0 n C121kp (codeAt C121c [1,1,0,1,0,0,1,1,0,0,1,1,0,1,0,0])) (canon 0 (C121kp.loop 8)) (kAt (C121cs n) ty 83 0 n C121kp C121c [1,1,0,1,0,0,1,1,0,0,1,1,0,1,0] [G4] (ending ty 0 Go.Proofs.Tryz.f15.results.toList C121rs C121bs)) k (C121s8 v44 v5 v43_0 v43_1 v43_2 v43_3 v43_4 v43_5 v36 v37 v38 b0_0 b0_1 b0_2 b0_3 b0_4 b1_0 b1_1 b1_2 b1_3 b1_4 b1_5 b1_6 b1_7 b1_8)=C121_l8 n (fun v38 v36 v37 b0_0 b0_1 b0_2 b0_3 b0_4=>G4 (C121s4 v38 v36 v37 b0_0 b0_1 b0_2 b0_3 b0_4)) k v44 v5 v43_0 v43_1 v43_2 v43_3 v43_4 v43_5 v36 v37 v38 b0_0 b0_1 b0_2 b0_3 b0_4 b1_0 b1_1 b1_2 b1_3 b1_4 b1_5 b1_6 b1_7 b1_8
 | 0,_,_,_,_,_,_,_,_,_,_,_,_,_,_,_,_,_,_,_,_,_,_,_,_,_=>by kernel_rfl
 | k+1,v44,v5,v43_0,v43_1,v43_2,v43_3,v43_4,v43_5,v36,v37,v38,b0_0,b0_1,b0_2,b0_3,b0_4,b1_0,b1_1,b1_2,b1_3,b1_4,b1_5,b1_6,b1_7,b1_8=>by
  refine Eq.trans (b:=C121_t8 n (fun v38 v36 v37 b0_0 b0_1 b0_2 b0_3 b0_4=>G4 (C121s4 v38 v36 v37 b0_0 b0_1 b0_2 b0_3 b0_4)) (fun v44 v5 v43_0 v43_1 v43_2 v43_3 v43_4 v43_5 v36 v37 v38 b0_0 b0_1 b0_2 b0_3 b0_4 b1_0 b1_1 b1_2 b1_3 b1_4 b1_5 b1_6 b1_7 b1_8=>iter (interp (C121cs n) ty 83 0 n C121kp (codeAt C121c [1,1,0,1,0,0,1,1,0,0,1,1,0,1,0,0])) (canon 0 (C121kp.loop 8)) (kAt (C121cs n) ty 83 0 n C121kp C121c [1,1,0,1,0,0,1,1,0,0,1,1,0,1,0] [G4] (ending ty 0 Go.Proofs.Tryz.f15.results.toList C121rs C121bs)) k (C121s8 v44 v5 v43_0 v43_1 v43_2 v43_3 v43_4 v43_5 v36 v37 v38 b0_0 b0_1 b0_2 b0_3 b0_4 b1_0 b1_1 b1_2 b1_3 b1_4 b1_5 b1_6 b1_7 b1_8)) v44 v5 v43_0 v43_1 v43_2 v43_3 v43_4 v43_5 v36 v37 v38 b0_0 b0_1 b0_2 b0_3 b0_4 b1_0 b1_1 b1_2 b1_3 b1_4 b1_5 b1_6 b1_7 b1_8) (by kernel_rfl) ?_
  have e:=congrArg (fun g=>C121_t8 n (fun v38 v36 v37 b0_0 b0_1 b0_2 b0_3 b0_4=>G4 (C121s4 v38 v36 v37 b0_0 b0_1 b0_2 b0_3 b0_4)) g v44 v5 v43_0 v43_1 v43_2 v43_3 v43_4 v43_5 v36 v37 v38 b0_0 b0_1 b0_2 b0_3 b0_4 b1_0 b1_1 b1_2 b1_3 b1_4 b1_5 b1_6 b1_7 b1_8) (funext fun v44=>funext fun v5=>funext fun v43_0=>funext fun v43_1=>funext fun v43_2=>funext fun v43_3=>funext fun v43_4=>funext fun v43_5=>funext fun v36=>funext fun v37=>funext fun v38=>funext fun b0_0=>funext fun b0_1=>funext fun b0_2=>funext fun b0_3=>funext fun b0_4=>funext fun b1_0=>funext fun b1_1=>funext fun b1_2=>funext fun b1_3=>funext fun b1_4=>funext fun b1_5=>funext fun b1_6=>funext fun b1_7=>funext fun b1_8=>C121_l8_eq n G4 k v44 v5 v43_0 v43_1 v43_2 v43_3 v43_4 v43_5 v36 v37 v38 b0_0 b0_1 b0_2 b0_3 b0_4 b1_0 b1_1 b1_2 b1_3 b1_4 b1_5 b1_6 b1_7 b1_8)
  exact e
theorem C121_l4_eq (n:Nat):∀ (k:Nat) (v38:Int) (v36:List OB9) (v37:Int) (b0_0:Int) (b0_1:List OB9) (b0_2:Bool) (b0_3:Int) (b0_4:Int),iter (interp (C121cs n) ty 83 0 n C121kp (codeAt C121c [1,1,0,1,0,0])) (canon 0 (C121kp.loop 4)) (C121k0 n) k (C121s4 v38 v36 v37 b0_0 b0_1 b0_2 b0_3 b0_4)=C121_l4 n k v38 v36 v37 b0_0 b0_1 b0_2 b0_3 b0_4
 | 0,_,_,_,_,_,_,_,_=>by kernel_rfl
 | k+1,v38,v36,v37,b0_0,b0_1,b0_2,b0_3,b0_4=>by
  refine Eq.trans (b:=C121_t4 n (fun k' v44 v5 v43_0 v43_1 v43_2 v43_3 v43_4 v43_5 v36 v37 v38 b0_0 b0_1 b0_2 b0_3 b0_4 b1_0 b1_1 b1_2 b1_3 b1_4 b1_5 b1_6 b1_7 b1_8=>iter (interp (C121cs n) ty 83 0 n C121kp (codeAt C121c [1,1,0,1,0,0,1,1,0,0,1,1,0,1,0,0])) (canon 0 (C121kp.loop 8)) (kAt (C121cs n) ty 83 0 n C121kp C121c [1,1,0,1,0,0,1,1,0,0,1,1,0,1,0] [(fun s=>iter (interp (C121cs n) ty 83 0 n C121kp (codeAt C121c [1,1,0,1,0,0])) (canon 0 (C121kp.loop 4)) (C121k0 n) k s)] (ending ty 0 Go.Proofs.Tryz.f15.results.toList C121rs C121bs)) k' (C121s8 v44 v5 v43_0 v43_1 v43_2 v43_3 v43_4 v43_5 v36 v37 v38 b0_0 b0_1 b0_2 b0_3 b0_4 b1_0 b1_1 b1_2 b1_3 b1_4 b1_5 b1_6 b1_7 b1_8)) (fun v38 v36 v37 b0_0 b0_1 b0_2 b0_3 b0_4=>iter (interp (C121cs n) ty 83 0 n C121kp (codeAt C121c [1,1,0,1,0,0])) (canon 0 (C121kp.loop 4)) (C121k0 n) k (C121s4 v38 v36 v37 b0_0 b0_1 b0_2 b0_3 b0_4)) v38 v36 v37 b0_0 b0_1 b0_2 b0_3 b0_4) (by kernel_rfl) ?_
  have e:=congr (congrArg (fun h8 g=>C121_t4 n h8 g v38 v36 v37 b0_0 b0_1 b0_2 b0_3 b0_4) ((funext fun k'=>funext fun v44=>funext fun v5=>funext fun v43_0=>funext fun v43_1=>funext fun v43_2=>funext fun v43_3=>funext fun v43_4=>funext fun v43_5=>funext fun v36=>funext fun v37=>funext fun v38=>funext fun b0_0=>funext fun b0_1=>funext fun b0_2=>funext fun b0_3=>funext fun b0_4=>funext fun b1_0=>funext fun b1_1=>funext fun b1_2=>funext fun b1_3=>funext fun b1_4=>funext fun b1_5=>funext fun b1_6=>funext fun b1_7=>funext fun b1_8=>C121_l8_eq n (fun s=>iter (interp (C121cs n) ty 83 0 n C121kp (codeAt C121c [1,1,0,1,0,0])) (canon 0 (C121kp.loop 4)) (C121k0 n) k s) k' v44 v5 v43_0 v43_1 v43_2 v43_3 v43_4 v43_5 v36 v37 v38 b0_0 b0_1 b0_2 b0_3 b0_4 b1_0 b1_1 b1_2 b1_3 b1_4 b1_5 b1_6 b1_7 b1_8).trans (congrArg (fun z=>C121_l8 n z) (funext fun v38=>funext fun v36=>funext fun v37=>funext fun b0_0=>funext fun b0_1=>funext fun b0_2=>funext fun b0_3=>funext fun b0_4=>C121_l4_eq n k v38 v36 v37 b0_0 b0_1 b0_2 b0_3 b0_4)))) (funext fun v38=>funext fun v36=>funext fun v37=>funext fun b0_0=>funext fun b0_1=>funext fun b0_2=>funext fun b0_3=>funext fun b0_4=>C121_l4_eq n k v38 v36 v37 b0_0 b0_1 b0_2 b0_3 b0_4)
  exact e
theorem C121_eq (n:Nat) (a0:(Int)×((List OB9)×((Bool)×(Int×Int)))):Z702 (C121cs n) ty 83 n C121kp C121c Go.Proofs.Tryz.f15.results.toList C121rs C121sp C121bs (a0,()) ()=C121 n a0:=by
 refine Eq.trans (b:=C121_t n (fun k v38 v36 v37 b0_0 b0_1 b0_2 b0_3 b0_4=>iter (interp (C121cs n) ty 83 0 n C121kp (codeAt C121c [1,1,0,1,0,0])) (canon 0 (C121kp.loop 4)) (C121k0 n) k (C121s4 v38 v36 v37 b0_0 b0_1 b0_2 b0_3 b0_4)) a0) (by kernel_rfl) ?_
 have e:=congrArg (fun h4=>C121_t n h4 a0) (funext fun k=>funext fun v38=>funext fun v36=>funext fun v37=>funext fun b0_0=>funext fun b0_1=>funext fun b0_2=>funext fun b0_3=>funext fun b0_4=>C121_l4_eq n k v38 v36 v37 b0_0 b0_1 b0_2 b0_3 b0_4)
 exact e
theorem C121_ok (n:Nat):FunOk P (C121F n) :=
 Z465 (C:=[C366F n,C172F n]) (N:=83) (kp:=C121kp) (c:=C121c) (n:=n) (G:=fun x y=>C121 n x.1) follows (AllOk.mem (⟨C366_ok n,⟨C172_ok n,trivial⟩⟩:AllOk P ([C366F n,C172F n]))) (by kernel_rfl:P.funcs[15]?=some Go.Proofs.Tryz.f15) (by kernel_rfl) (by kernel_rfl) (by kernel_rfl)
  (fun x y=>C121_eq n x.1) (fun _ _=>Z489 (fun _=>rfl) _) (fun _ _ _ _=>rfl)
abbrev C360sp:List Sp:=[.v false (.int .i64),.v false (.int .i64)]
abbrev C360bs:List (Bs×Bool):=[]
abbrev C360rs:List (Bool×List Rp):=[(true,[.v false tF]),(false,[.v false .bool])]
noncomputable def C360kp:Keep:={ loop:=fun id=>match id with | _=>([],[]),join:=fun id=>match id with | _=>none }
noncomputable def C360c:Code:=bodyOf Go.Proofs.Tryz.f107
noncomputable def C360F (n:Nat):Fun:={ id:=107,sp:=C360sp,bs:=C360bs,rs:=C360rs,f:=fun x y=>C360 n x.1 x.2.1 }
theorem C360_eq (n:Nat) (a0:Int) (a1:Int):Z702 ([C429F n,C172F n]) ty 29 n C360kp C360c Go.Proofs.Tryz.f107.results.toList C360rs C360sp C360bs (a0,(a1,())) ()=C360 n a0 a1:=by
 refine Eq.trans (b:=C360_t n a0 a1) (by kernel_rfl) ?_
 rfl
theorem C360_ok (n:Nat):FunOk P (C360F n) :=
 Z465 (C:=[C429F n,C172F n]) (N:=29) (kp:=C360kp) (c:=C360c) (n:=n) (G:=fun x y=>C360 n x.1 x.2.1) follows (AllOk.mem (⟨C429_ok n,⟨C172_ok n,trivial⟩⟩:AllOk P ([C429F n,C172F n]))) (by kernel_rfl:P.funcs[107]?=some Go.Proofs.Tryz.f107) (by kernel_rfl) (by kernel_rfl) (by kernel_rfl)
  (fun x y=>C360_eq n x.1 x.2.1) (fun _ _=>Z489 (fun _=>rfl) _) (fun _ _ _ _=>rfl)
abbrev C426sp:List Sp:=[]
abbrev C426bs:List (Bs×Bool):=[]
abbrev C426rs:List (Bool×List Rp):=[(true,[.v false tF])]
noncomputable def C426kp:Keep:={ loop:=fun id=>match id with | _=>([],[]),join:=fun id=>match id with | _=>none }
noncomputable def C426c:Code:=bodyOf Go.Proofs.Tryz.f31
noncomputable def C426F (n:Nat):Fun:={ id:=31,sp:=C426sp,bs:=C426bs,rs:=C426rs,f:=fun x y=>C426 n }
theorem C426_eq (n:Nat):Z702 ([]) ty 2 n C426kp C426c Go.Proofs.Tryz.f31.results.toList C426rs C426sp C426bs () ()=C426 n:=by
 refine Eq.trans (b:=C426_t n) (by kernel_rfl) ?_
 rfl
theorem C426_ok (n:Nat):FunOk P (C426F n) :=
 Z465 (C:=[]) (N:=2) (kp:=C426kp) (c:=C426c) (n:=n) (G:=fun x y=>C426 n) follows (AllOk.mem (trivial:AllOk P ([]))) (by kernel_rfl:P.funcs[31]?=some Go.Proofs.Tryz.f31) (by kernel_rfl) (by kernel_rfl) (by kernel_rfl)
  (fun x y=>C426_eq n) (fun _ _=>Z489 (fun _=>rfl) _) (fun _ _ _ _=>rfl)
abbrev C181sp:List Sp:=[.ref 0,.v false (.int .i64),.v false (.int .i64)]
abbrev C181bs:List (Bs×Bool):=[(.var 77 .bool,true)]
abbrev C181rs:List (Bool×List Rp):=[(true,[.v false tF])]
noncomputable def C181kp:Keep:={ loop:=fun id=>match id with | _=>([],[]),join:=fun id=>match id with | _=>none }
noncomputable def C181c:Code:=bodyOf Go.Proofs.Tryz.f85
noncomputable def C181F (n:Nat):Fun:={ id:=85,sp:=C181sp,bs:=C181bs,rs:=C181rs,f:=fun x y=>C181 n x.2.1 x.2.2.1 y.1 }
theorem C181_eq (n:Nat) (a1:Int) (a2:Int) (b0:Bool):Z702 ([C360F n,C426F n]) ty 22 n C181kp C181c Go.Proofs.Tryz.f85.results.toList C181rs C181sp C181bs ((),(a1,(a2,()))) (b0,())=C181 n a1 a2 b0:=by
 refine Eq.trans (b:=C181_t n a1 a2 b0) (by kernel_rfl) ?_
 rfl
theorem C181_ok (n:Nat):FunOk P (C181F n) :=
 Z465 (C:=[C360F n,C426F n]) (N:=22) (kp:=C181kp) (c:=C181c) (n:=n) (G:=fun x y=>C181 n x.2.1 x.2.2.1 y.1) follows (AllOk.mem (⟨C360_ok n,⟨C426_ok n,trivial⟩⟩:AllOk P ([C360F n,C426F n]))) (by kernel_rfl:P.funcs[85]?=some Go.Proofs.Tryz.f85) (by kernel_rfl) (by kernel_rfl) (by kernel_rfl)
  (fun x y=>C181_eq n x.2.1 x.2.2.1 y.1) (fun _ _=>Z489 (fun _=>rfl) _) (fun _ _ _ _=>rfl)
abbrev C234sp:List Sp:=[.ref 0,.v true tF,.v true tF]
abbrev C234bs:List (Bs×Bool):=[(.var 77 .bool,true)]
abbrev C234rs:List (Bool×List Rp):=[(true,[.v false tF])]
noncomputable def C234kp:Keep:={ loop:=fun id=>match id with | _=>([],[]),join:=fun id=>match id with | _=>none }
noncomputable def C234c:Code:=bodyOf Go.Proofs.Tryz.f54
noncomputable def C234F (n:Nat):Fun:={ id:=54,sp:=C234sp,bs:=C234bs,rs:=C234rs,f:=fun x y=>C234 n x.2.1 x.2.2.1 y.1 }
theorem C234_eq (n:Nat) (a1:(Int)×(Int)) (a2:(Int)×(Int)) (b0:Bool):Z702 ([C181F n]) ty 25 n C234kp C234c Go.Proofs.Tryz.f54.results.toList C234rs C234sp C234bs ((),(a1,(a2,()))) (b0,())=C234 n a1 a2 b0:=by
 refine Eq.trans (b:=C234_t n a1 a2 b0) (by kernel_rfl) ?_
 rfl
theorem C234_ok (n:Nat):FunOk P (C234F n) :=
 Z465 (C:=[C181F n]) (N:=25) (kp:=C234kp) (c:=C234c) (n:=n) (G:=fun x y=>C234 n x.2.1 x.2.2.1 y.1) follows (AllOk.mem (⟨C181_ok n,trivial⟩:AllOk P ([C181F n]))) (by kernel_rfl:P.funcs[54]?=some Go.Proofs.Tryz.f54) (by kernel_rfl) (by kernel_rfl) (by kernel_rfl)
  (fun x y=>C234_eq n x.2.1 x.2.2.1 y.1) (fun _ _=>Z489 (fun _=>rfl) _) (fun _ _ _ _=>rfl)
abbrev C236sp:List Sp:=[.ref 0,.v true tF,.v true tF]
abbrev C236bs:List (Bs×Bool):=[(.var 77 .bool,true)]
abbrev C236rs:List (Bool×List Rp):=[(true,[.v false tF])]
noncomputable def C236kp:Keep:={ loop:=fun id=>match id with | _=>([],[]),join:=fun id=>match id with | _=>none }
noncomputable def C236c:Code:=bodyOf Go.Proofs.Tryz.f51
noncomputable def C236F (n:Nat):Fun:={ id:=51,sp:=C236sp,bs:=C236bs,rs:=C236rs,f:=fun x y=>C236 n x.2.1 x.2.2.1 y.1 }
theorem C236_eq (n:Nat) (a1:(Int)×(Int)) (a2:(Int)×(Int)) (b0:Bool):Z702 ([C181F n]) ty 19 n C236kp C236c Go.Proofs.Tryz.f51.results.toList C236rs C236sp C236bs ((),(a1,(a2,()))) (b0,())=C236 n a1 a2 b0:=by
 refine Eq.trans (b:=C236_t n a1 a2 b0) (by kernel_rfl) ?_
 rfl
theorem C236_ok (n:Nat):FunOk P (C236F n) :=
 Z465 (C:=[C181F n]) (N:=19) (kp:=C236kp) (c:=C236c) (n:=n) (G:=fun x y=>C236 n x.2.1 x.2.2.1 y.1) follows (AllOk.mem (⟨C181_ok n,trivial⟩:AllOk P ([C181F n]))) (by kernel_rfl:P.funcs[51]?=some Go.Proofs.Tryz.f51) (by kernel_rfl) (by kernel_rfl) (by kernel_rfl)
  (fun x y=>C236_eq n x.2.1 x.2.2.1 y.1) (fun _ _=>Z489 (fun _=>rfl) _) (fun _ _ _ _=>rfl)
abbrev C430sp:List Sp:=[.v false (.int .i64)]
abbrev C430bs:List (Bs×Bool):=[]
abbrev C430rs:List (Bool×List Rp):=[(true,[.v false tF])]
noncomputable def C430kp:Keep:={ loop:=fun id=>match id with | _=>([],[]),join:=fun id=>match id with | _=>none }
noncomputable def C430c:Code:=bodyOf Go.Proofs.Tryz.f55
noncomputable def C430F (n:Nat):Fun:={ id:=55,sp:=C430sp,bs:=C430bs,rs:=C430rs,f:=fun x y=>C430 n x.1 }
theorem C430_eq (n:Nat) (a0:Int):Z702 ([]) ty 5 n C430kp C430c Go.Proofs.Tryz.f55.results.toList C430rs C430sp C430bs (a0,()) ()=C430 n a0:=by
 refine Eq.trans (b:=C430_t n a0) (by kernel_rfl) ?_
 rfl
theorem C430_ok (n:Nat):FunOk P (C430F n) :=
 Z465 (C:=[]) (N:=5) (kp:=C430kp) (c:=C430c) (n:=n) (G:=fun x y=>C430 n x.1) follows (AllOk.mem (trivial:AllOk P ([]))) (by kernel_rfl:P.funcs[55]?=some Go.Proofs.Tryz.f55) (by kernel_rfl) (by kernel_rfl) (by kernel_rfl)
  (fun x y=>C430_eq n x.1) (fun _ _=>Z489 (fun _=>rfl) _) (fun _ _ _ _=>rfl)
abbrev C139sp:List Sp:=[.v false (.int .u64),.v false (.int .u64)]
abbrev C139bs:List (Bs×Bool):=[]
abbrev C139rs:List (Bool×List Rp):=[(false,[.v false (.int .u64)]),(false,[.v false (.int .u64)])]
noncomputable def C139kp:Keep:={ loop:=fun id=>match id with | _=>([],[]),join:=fun id=>match id with | _=>none }
noncomputable def C139c:Code:=bodyOf Go.Proofs.Tryz.f123
noncomputable def C139F (n:Nat):Fun:={ id:=123,sp:=C139sp,bs:=C139bs,rs:=C139rs,f:=fun x y=>C139 n x.1 x.2.1 }
theorem C139_eq (n:Nat) (a0:Int) (a1:Int):Z702 ([]) ty 51 n C139kp C139c Go.Proofs.Tryz.f123.results.toList C139rs C139sp C139bs (a0,(a1,())) ()=C139 n a0 a1:=by
 refine Eq.trans (b:=C139_t n a0 a1) (by kernel_rfl) ?_
 rfl
theorem C139_ok (n:Nat):FunOk P (C139F n) :=
 Z465 (C:=[]) (N:=51) (kp:=C139kp) (c:=C139c) (n:=n) (G:=fun x y=>C139 n x.1 x.2.1) follows (AllOk.mem (trivial:AllOk P ([]))) (by kernel_rfl:P.funcs[123]?=some Go.Proofs.Tryz.f123) (by kernel_rfl) (by kernel_rfl) (by kernel_rfl)
  (fun x y=>C139_eq n x.1 x.2.1) (fun _ _=>Z489 (fun _=>rfl) _) (fun _ _ _ _=>rfl)
abbrev C263sp:List Sp:=[.v false (.int .u64),.v false (.int .u64)]
abbrev C263bs:List (Bs×Bool):=[]
abbrev C263rs:List (Bool×List Rp):=[(false,[.v false (.int .u64)]),(false,[.v false (.int .u64)])]
noncomputable def C263kp:Keep:={ loop:=fun id=>match id with | _=>([],[]),join:=fun id=>match id with | _=>none }
noncomputable def C263c:Code:=bodyOf Go.Proofs.Tryz.f106
noncomputable def C263F (n:Nat):Fun:={ id:=106,sp:=C263sp,bs:=C263bs,rs:=C263rs,f:=fun x y=>C263 n x.1 x.2.1 }
theorem C263_eq (n:Nat) (a0:Int) (a1:Int):Z702 ([C139F n]) ty 30 n C263kp C263c Go.Proofs.Tryz.f106.results.toList C263rs C263sp C263bs (a0,(a1,())) ()=C263 n a0 a1:=by
 refine Eq.trans (b:=C263_t n a0 a1) (by kernel_rfl) ?_
 rfl
theorem C263_ok (n:Nat):FunOk P (C263F n) :=
 Z465 (C:=[C139F n]) (N:=30) (kp:=C263kp) (c:=C263c) (n:=n) (G:=fun x y=>C263 n x.1 x.2.1) follows (AllOk.mem (⟨C139_ok n,trivial⟩:AllOk P ([C139F n]))) (by kernel_rfl:P.funcs[106]?=some Go.Proofs.Tryz.f106) (by kernel_rfl) (by kernel_rfl) (by kernel_rfl)
  (fun x y=>C263_eq n x.1 x.2.1) (fun _ _=>Z489 (fun _=>rfl) _) (fun _ _ _ _=>rfl)
abbrev C22sp:List Sp:=[.v false (.list tF),.v false (.int .i64)]
abbrev C22bs:List (Bs×Bool):=[]
abbrev C22rs:List (Bool×List Rp):=[(false,[.new  tF])]
noncomputable def C22kp:Keep:={ loop:=fun id=>match id with | 8=>([8,7],[]) | _=>([],[]),join:=fun id=>match id with | _=>none }
noncomputable def C22c:Code:=bodyOf Go.Proofs.Tryz.f84
noncomputable def C22F (n:Nat):Fun:={ id:=84,sp:=C22sp,bs:=C22bs,rs:=C22rs,f:=fun x y=>C22 n x.1 x.2.1 }
abbrev C22s8 (v8:Int) (b0:List (Int×Int)):St:={ env:=[(8,.one (.sc (.int .i64 v8))),(7,.one (.slice 0 0 none))],bx:=[(0,.row 0 tF b0)],nx:=1 }
noncomputable abbrev C22k0 (n:Nat):=kAt ([C263F n]) ty 48 0 n C22kp C22c [1,1,1,1,1,1,0,0] [] (ending ty 0 Go.Proofs.Tryz.f84.results.toList C22rs C22bs)
theorem C22_l8_eq (n:Nat):∀ (k:Nat) (v8:Int) (b0:List (Int×Int)),iter (interp ([C263F n]) ty 48 0 n C22kp (codeAt C22c [1,1,1,1,1,1,0,0,0])) (canon 0 (C22kp.loop 8)) (C22k0 n) k (C22s8 v8 b0)=C22_l8 n k v8 b0
 | 0,_,_=>by kernel_rfl
 | k+1,v8,b0=>by
  refine Eq.trans (b:=C22_t8 n (fun v8 b0=>iter (interp ([C263F n]) ty 48 0 n C22kp (codeAt C22c [1,1,1,1,1,1,0,0,0])) (canon 0 (C22kp.loop 8)) (C22k0 n) k (C22s8 v8 b0)) v8 b0) (by kernel_rfl) ?_
  have e:=congrArg (fun g=>C22_t8 n g v8 b0) (funext fun v8=>funext fun b0=>C22_l8_eq n k v8 b0)
  exact e
theorem C22_eq (n:Nat) (a0:List (Int×Int)) (a1:Int):Z702 ([C263F n]) ty 48 n C22kp C22c Go.Proofs.Tryz.f84.results.toList C22rs C22sp C22bs (a0,(a1,())) ()=C22 n a0 a1:=by
 refine Eq.trans (b:=C22_t n (fun k v8 b0=>iter (interp ([C263F n]) ty 48 0 n C22kp (codeAt C22c [1,1,1,1,1,1,0,0,0])) (canon 0 (C22kp.loop 8)) (C22k0 n) k (C22s8 v8 b0)) a0 a1) (by kernel_rfl) ?_
 have e:=congrArg (fun h8=>C22_t n h8 a0 a1) (funext fun k=>funext fun v8=>funext fun b0=>C22_l8_eq n k v8 b0)
 exact e
theorem C22_ok (n:Nat):FunOk P (C22F n) :=
 Z465 (C:=[C263F n]) (N:=48) (kp:=C22kp) (c:=C22c) (n:=n) (G:=fun x y=>C22 n x.1 x.2.1) follows (AllOk.mem (⟨C263_ok n,trivial⟩:AllOk P ([C263F n]))) (by kernel_rfl:P.funcs[84]?=some Go.Proofs.Tryz.f84) (by kernel_rfl) (by kernel_rfl) (by kernel_rfl)
  (fun x y=>C22_eq n x.1 x.2.1) (fun _ _=>Z489 (fun _=>rfl) _) (fun _ _ _ _=>rfl)
abbrev C95sp:List Sp:=[.ref 0,.v true (.pair (.int .i64) (.pair (.list tO) (.pair .bool tF)))]
abbrev C95bs:List (Bs×Bool):=[(.var 77 .bool,true)]
abbrev C95rs:List (Bool×List Rp):=[(false,[.newp  tF]),(false,[.new  tF])]
noncomputable def C95kp:Keep:={ loop:=fun id=>match id with | 3=>([3,0,21,7,6,20],[]) | 7=>([8,27,9,3,0,20,21,7,6,26],[]) | 11=>([33,10,8,11,31,3,0,20,21,7,6,26,27,9,32],[]) | 19=>([64,14,8,0,62,3,20,21,7,6,9,63],[]) | _=>([],[]),join:=fun id=>match id with | _=>none }
noncomputable def C95c:Code:=bodyOf Go.Proofs.Tryz.f49
noncomputable def C95F (n:Nat):Fun:={ id:=49,sp:=C95sp,bs:=C95bs,rs:=C95rs,f:=fun x y=>C95 n x.2.1 y.1 }
noncomputable abbrev C95cs (n:Nat):List Fun:=[C430F n,C426F n,C236F n,C234F n,C22F n]
abbrev C95s19 (v64:Int) (v8:Int) (v62:List OB9) (v20:Int) (v21:Int) (v63:Int) (b0:Bool) (b1_0:Int) (b1_1:Int) (b2_0:Int) (b2_1:List OB9) (b2_2:Bool) (b2_3:Int) (b2_4:Int) (b3:List (Int×Int)) (b4p:List Nat) (b4i:List (List (Int×Int))) (b5:List (Int×Int)):St:={ env:=[(64,.one (.sc (.int .i64 v64))),(14,.one (.ref 1 0 0 0 0 0)),(8,.one (.sc (.int .i64 v8))),(0,.one (.ref 0 0 0 0 0 0)),(62,.one (.list true tO v62)),(3,.one (.ref 2 0 0 0 0 0)),(20,.one (.sc (.int .i64 v20))),(21,.one (.sc (.int .i64 v21))),(7,.one (.slice 3 0 none)),(6,.one (.slice 4 0 none)),(9,.one (.slice 5 0 none)),(63,.one (.sc (.int .i64 v63)))],bx:=[(0,.var 77 [.sc (.bool b0)]),(1,.var 26 [.sc (.int .i64 b1_0),.sc (.int .i64 b1_1)]),(2,.var 28 [.sc (.int .i64 b2_0),.list true tO b2_1,.sc (.bool b2_2),.sc (.int .i64 b2_3),.sc (.int .i64 b2_4)]),(3,.row 0 tF b3),(4,.pool 0 tF b4p b4i),(5,.row 0 tF b5)],nx:=6 }
abbrev C95s11 (v33:Int) (v10:Int) (v8:Int) (v11:Int) (v31:List OB9) (v20:Int) (v21:Int) (v26:Int) (v27:Int) (v32:Int) (b0:Bool) (b1_0:Int) (b1_1:List OB9) (b1_2:Bool) (b1_3:Int) (b1_4:Int) (b2:List (Int×Int)) (b3p:List Nat) (b3i:List (List (Int×Int))) (b4:List (Int×Int)):St:={ env:=[(33,.one (.sc (.int .i64 v33))),(10,.one (.sc (.int .i64 v10))),(8,.one (.sc (.int .i64 v8))),(11,.one (.sc (.int .i64 v11))),(31,.one (.list true tO v31)),(3,.one (.ref 1 0 0 0 0 0)),(0,.one (.ref 0 0 0 0 0 0)),(20,.one (.sc (.int .i64 v20))),(21,.one (.sc (.int .i64 v21))),(7,.one (.slice 2 0 none)),(6,.one (.slice 3 0 none)),(26,.one (.sc (.int .i64 v26))),(27,.one (.sc (.int .i64 v27))),(9,.one (.slice 4 0 none)),(32,.one (.sc (.int .i64 v32)))],bx:=[(0,.var 77 [.sc (.bool b0)]),(1,.var 28 [.sc (.int .i64 b1_0),.list true tO b1_1,.sc (.bool b1_2),.sc (.int .i64 b1_3),.sc (.int .i64 b1_4)]),(2,.row 0 tF b2),(3,.pool 0 tF b3p b3i),(4,.row 0 tF b4)],nx:=5 }
abbrev C95s7 (v8:Int) (v27:Int) (v20:Int) (v21:Int) (v26:Int) (b0:Bool) (b1:List (Int×Int)) (b2_0:Int) (b2_1:List OB9) (b2_2:Bool) (b2_3:Int) (b2_4:Int) (b3:List (Int×Int)) (b4p:List Nat) (b4i:List (List (Int×Int))):St:={ env:=[(8,.one (.sc (.int .i64 v8))),(27,.one (.sc (.int .i64 v27))),(9,.one (.slice 1 0 none)),(3,.one (.ref 2 0 0 0 0 0)),(0,.one (.ref 0 0 0 0 0 0)),(20,.one (.sc (.int .i64 v20))),(21,.one (.sc (.int .i64 v21))),(7,.one (.slice 3 0 none)),(6,.one (.slice 4 0 none)),(26,.one (.sc (.int .i64 v26)))],bx:=[(0,.var 77 [.sc (.bool b0)]),(1,.row 0 tF b1),(2,.var 28 [.sc (.int .i64 b2_0),.list true tO b2_1,.sc (.bool b2_2),.sc (.int .i64 b2_3),.sc (.int .i64 b2_4)]),(3,.row 0 tF b3),(4,.pool 0 tF b4p b4i)],nx:=5 }
abbrev C95s3 (v21:Int) (v20:Int) (b0:Bool) (b1_0:Int) (b1_1:List OB9) (b1_2:Bool) (b1_3:Int) (b1_4:Int) (b2:List (Int×Int)) (b3p:List Nat) (b3i:List (List (Int×Int))):St:={ env:=[(3,.one (.ref 1 0 0 0 0 0)),(0,.one (.ref 0 0 0 0 0 0)),(21,.one (.sc (.int .i64 v21))),(7,.one (.slice 2 0 none)),(6,.one (.slice 3 0 none)),(20,.one (.sc (.int .i64 v20)))],bx:=[(0,.var 77 [.sc (.bool b0)]),(1,.var 28 [.sc (.int .i64 b1_0),.list true tO b1_1,.sc (.bool b1_2),.sc (.int .i64 b1_3),.sc (.int .i64 b1_4)]),(2,.row 0 tF b2),(3,.pool 0 tF b3p b3i)],nx:=4 }
noncomputable abbrev C95k0 (n:Nat):=kAt (C95cs n) typ 120 1 n C95kp C95c [1,1,0,1,0] [] (ending typ 1 Go.Proofs.Tryz.f49.results.toList C95rs C95bs)
theorem C95_l19_eq (n:Nat) (G3:St→Option (((((List Nat)×(List (List (Int×Int))))×(Unit))×(((List (Int×Int))×(Unit))×(Unit)))×((Bool)×(Unit)))):∀ (k:Nat) (v64:Int) (v8:Int) (v62:List OB9) (v20:Int) (v21:Int) (v63:Int) (b0:Bool) (b1_0:Int) (b1_1:Int) (b2_0:Int) (b2_1:List OB9) (b2_2:Bool) (b2_3:Int) (b2_4:Int) (b3:List (Int×Int)) (b4p:List Nat) (b4i:List (List (Int×Int))) (b5:List (Int×Int)),iter (interp (C95cs n) typ 120 1 n C95kp (codeAt C95c [1,1,0,1,0,0,1,1,0,0,1,1,1,1,0,1,0,0])) (canon 1 (C95kp.loop 19)) (kAt (C95cs n) typ 120 1 n C95kp C95c [1,1,0,1,0,0,1,1,0,0,1,1,1,1,0,1,0] [G3] (ending typ 1 Go.Proofs.Tryz.f49.results.toList C95rs C95bs)) k (C95s19 v64 v8 v62 v20 v21 v63 b0 b1_0 b1_1 b2_0 b2_1 b2_2 b2_3 b2_4 b3 b4p b4i b5)=C95_l19 n (fun v21 v20 b0 b1_0 b1_1 b1_2 b1_3 b1_4 b2 b3p b3i=>G3 (C95s3 v21 v20 b0 b1_0 b1_1 b1_2 b1_3 b1_4 b2 b3p b3i)) k v64 v8 v62 v20 v21 v63 b0 b1_0 b1_1 b2_0 b2_1 b2_2 b2_3 b2_4 b3 b4p b4i b5
 | 0,_,_,_,_,_,_,_,_,_,_,_,_,_,_,_,_,_,_=>by kernel_rfl
 | k+1,v64,v8,v62,v20,v21,v63,b0,b1_0,b1_1,b2_0,b2_1,b2_2,b2_3,b2_4,b3,b4p,b4i,b5=>by
  refine Eq.trans (b:=C95_t19 n (fun v21 v20 b0 b1_0 b1_1 b1_2 b1_3 b1_4 b2 b3p b3i=>G3 (C95s3 v21 v20 b0 b1_0 b1_1 b1_2 b1_3 b1_4 b2 b3p b3i)) (fun v64 v8 v62 v20 v21 v63 b0 b1_0 b1_1 b2_0 b2_1 b2_2 b2_3 b2_4 b3 b4p b4i b5=>iter (interp (C95cs n) typ 120 1 n C95kp (codeAt C95c [1,1,0,1,0,0,1,1,0,0,1,1,1,1,0,1,0,0])) (canon 1 (C95kp.loop 19)) (kAt (C95cs n) typ 120 1 n C95kp C95c [1,1,0,1,0,0,1,1,0,0,1,1,1,1,0,1,0] [G3] (ending typ 1 Go.Proofs.Tryz.f49.results.toList C95rs C95bs)) k (C95s19 v64 v8 v62 v20 v21 v63 b0 b1_0 b1_1 b2_0 b2_1 b2_2 b2_3 b2_4 b3 b4p b4i b5)) v64 v8 v62 v20 v21 v63 b0 b1_0 b1_1 b2_0 b2_1 b2_2 b2_3 b2_4 b3 b4p b4i b5) (by kernel_rfl) ?_
  have e:=congrArg (fun g=>C95_t19 n (fun v21 v20 b0 b1_0 b1_1 b1_2 b1_3 b1_4 b2 b3p b3i=>G3 (C95s3 v21 v20 b0 b1_0 b1_1 b1_2 b1_3 b1_4 b2 b3p b3i)) g v64 v8 v62 v20 v21 v63 b0 b1_0 b1_1 b2_0 b2_1 b2_2 b2_3 b2_4 b3 b4p b4i b5) (funext fun v64=>funext fun v8=>funext fun v62=>funext fun v20=>funext fun v21=>funext fun v63=>funext fun b0=>funext fun b1_0=>funext fun b1_1=>funext fun b2_0=>funext fun b2_1=>funext fun b2_2=>funext fun b2_3=>funext fun b2_4=>funext fun b3=>funext fun b4p=>funext fun b4i=>funext fun b5=>C95_l19_eq n G3 k v64 v8 v62 v20 v21 v63 b0 b1_0 b1_1 b2_0 b2_1 b2_2 b2_3 b2_4 b3 b4p b4i b5)
  exact e
theorem C95_l11_eq (n:Nat) (G3:St→Option (((((List Nat)×(List (List (Int×Int))))×(Unit))×(((List (Int×Int))×(Unit))×(Unit)))×((Bool)×(Unit)))) (G7:St→Option (((((List Nat)×(List (List (Int×Int))))×(Unit))×(((List (Int×Int))×(Unit))×(Unit)))×((Bool)×(Unit)))):∀ (k:Nat) (v33:Int) (v10:Int) (v8:Int) (v11:Int) (v31:List OB9) (v20:Int) (v21:Int) (v26:Int) (v27:Int) (v32:Int) (b0:Bool) (b1_0:Int) (b1_1:List OB9) (b1_2:Bool) (b1_3:Int) (b1_4:Int) (b2:List (Int×Int)) (b3p:List Nat) (b3i:List (List (Int×Int))) (b4:List (Int×Int)),iter (interp (C95cs n) typ 120 1 n C95kp (codeAt C95c [1,1,0,1,0,0,1,1,0,0,1,1,0,1,0,0,1,1,0,0,1,1,0,1,0,0])) (canon 1 (C95kp.loop 11)) (kAt (C95cs n) typ 120 1 n C95kp C95c [1,1,0,1,0,0,1,1,0,0,1,1,0,1,0,0,1,1,0,0,1,1,0,1,0] [G3,G7] (ending typ 1 Go.Proofs.Tryz.f49.results.toList C95rs C95bs)) k (C95s11 v33 v10 v8 v11 v31 v20 v21 v26 v27 v32 b0 b1_0 b1_1 b1_2 b1_3 b1_4 b2 b3p b3i b4)=C95_l11 n (fun v21 v20 b0 b1_0 b1_1 b1_2 b1_3 b1_4 b2 b3p b3i=>G3 (C95s3 v21 v20 b0 b1_0 b1_1 b1_2 b1_3 b1_4 b2 b3p b3i)) (fun v8 v27 v20 v21 v26 b0 b1 b2_0 b2_1 b2_2 b2_3 b2_4 b3 b4p b4i=>G7 (C95s7 v8 v27 v20 v21 v26 b0 b1 b2_0 b2_1 b2_2 b2_3 b2_4 b3 b4p b4i)) k v33 v10 v8 v11 v31 v20 v21 v26 v27 v32 b0 b1_0 b1_1 b1_2 b1_3 b1_4 b2 b3p b3i b4
 | 0,_,_,_,_,_,_,_,_,_,_,_,_,_,_,_,_,_,_,_,_=>by kernel_rfl
 | k+1,v33,v10,v8,v11,v31,v20,v21,v26,v27,v32,b0,b1_0,b1_1,b1_2,b1_3,b1_4,b2,b3p,b3i,b4=>by
  refine Eq.trans (b:=C95_t11 n (fun v21 v20 b0 b1_0 b1_1 b1_2 b1_3 b1_4 b2 b3p b3i=>G3 (C95s3 v21 v20 b0 b1_0 b1_1 b1_2 b1_3 b1_4 b2 b3p b3i)) (fun v8 v27 v20 v21 v26 b0 b1 b2_0 b2_1 b2_2 b2_3 b2_4 b3 b4p b4i=>G7 (C95s7 v8 v27 v20 v21 v26 b0 b1 b2_0 b2_1 b2_2 b2_3 b2_4 b3 b4p b4i)) (fun v33 v10 v8 v11 v31 v20 v21 v26 v27 v32 b0 b1_0 b1_1 b1_2 b1_3 b1_4 b2 b3p b3i b4=>iter (interp (C95cs n) typ 120 1 n C95kp (codeAt C95c [1,1,0,1,0,0,1,1,0,0,1,1,0,1,0,0,1,1,0,0,1,1,0,1,0,0])) (canon 1 (C95kp.loop 11)) (kAt (C95cs n) typ 120 1 n C95kp C95c [1,1,0,1,0,0,1,1,0,0,1,1,0,1,0,0,1,1,0,0,1,1,0,1,0] [G3,G7] (ending typ 1 Go.Proofs.Tryz.f49.results.toList C95rs C95bs)) k (C95s11 v33 v10 v8 v11 v31 v20 v21 v26 v27 v32 b0 b1_0 b1_1 b1_2 b1_3 b1_4 b2 b3p b3i b4)) v33 v10 v8 v11 v31 v20 v21 v26 v27 v32 b0 b1_0 b1_1 b1_2 b1_3 b1_4 b2 b3p b3i b4) (by kernel_rfl) ?_
  have e:=congrArg (fun g=>C95_t11 n (fun v21 v20 b0 b1_0 b1_1 b1_2 b1_3 b1_4 b2 b3p b3i=>G3 (C95s3 v21 v20 b0 b1_0 b1_1 b1_2 b1_3 b1_4 b2 b3p b3i)) (fun v8 v27 v20 v21 v26 b0 b1 b2_0 b2_1 b2_2 b2_3 b2_4 b3 b4p b4i=>G7 (C95s7 v8 v27 v20 v21 v26 b0 b1 b2_0 b2_1 b2_2 b2_3 b2_4 b3 b4p b4i)) g v33 v10 v8 v11 v31 v20 v21 v26 v27 v32 b0 b1_0 b1_1 b1_2 b1_3 b1_4 b2 b3p b3i b4) (funext fun v33=>funext fun v10=>funext fun v8=>funext fun v11=>funext fun v31=>funext fun v20=>funext fun v21=>funext fun v26=>funext fun v27=>funext fun v32=>funext fun b0=>funext fun b1_0=>funext fun b1_1=>funext fun b1_2=>funext fun b1_3=>funext fun b1_4=>funext fun b2=>funext fun b3p=>funext fun b3i=>funext fun b4=>C95_l11_eq n G3 G7 k v33 v10 v8 v11 v31 v20 v21 v26 v27 v32 b0 b1_0 b1_1 b1_2 b1_3 b1_4 b2 b3p b3i b4)
  exact e
theorem C95_l7_eq (n:Nat) (G3:St→Option (((((List Nat)×(List (List (Int×Int))))×(Unit))×(((List (Int×Int))×(Unit))×(Unit)))×((Bool)×(Unit)))):∀ (k:Nat) (v8:Int) (v27:Int) (v20:Int) (v21:Int) (v26:Int) (b0:Bool) (b1:List (Int×Int)) (b2_0:Int) (b2_1:List OB9) (b2_2:Bool) (b2_3:Int) (b2_4:Int) (b3:List (Int×Int)) (b4p:List Nat) (b4i:List (List (Int×Int))),iter (interp (C95cs n) typ 120 1 n C95kp (codeAt C95c [1,1,0,1,0,0,1,1,0,0,1,1,0,1,0,0])) (canon 1 (C95kp.loop 7)) (kAt (C95cs n) typ 120 1 n C95kp C95c [1,1,0,1,0,0,1,1,0,0,1,1,0,1,0] [G3] (ending typ 1 Go.Proofs.Tryz.f49.results.toList C95rs C95bs)) k (C95s7 v8 v27 v20 v21 v26 b0 b1 b2_0 b2_1 b2_2 b2_3 b2_4 b3 b4p b4i)=C95_l7 n (fun v21 v20 b0 b1_0 b1_1 b1_2 b1_3 b1_4 b2 b3p b3i=>G3 (C95s3 v21 v20 b0 b1_0 b1_1 b1_2 b1_3 b1_4 b2 b3p b3i)) k v8 v27 v20 v21 v26 b0 b1 b2_0 b2_1 b2_2 b2_3 b2_4 b3 b4p b4i
 | 0,_,_,_,_,_,_,_,_,_,_,_,_,_,_,_=>by kernel_rfl
 | k+1,v8,v27,v20,v21,v26,b0,b1,b2_0,b2_1,b2_2,b2_3,b2_4,b3,b4p,b4i=>by
  refine Eq.trans (b:=C95_t7 n (fun k' v33 v10 v8 v11 v31 v20 v21 v26 v27 v32 b0 b1_0 b1_1 b1_2 b1_3 b1_4 b2 b3p b3i b4=>iter (interp (C95cs n) typ 120 1 n C95kp (codeAt C95c [1,1,0,1,0,0,1,1,0,0,1,1,0,1,0,0,1,1,0,0,1,1,0,1,0,0])) (canon 1 (C95kp.loop 11)) (kAt (C95cs n) typ 120 1 n C95kp C95c [1,1,0,1,0,0,1,1,0,0,1,1,0,1,0,0,1,1,0,0,1,1,0,1,0] [G3,(fun s=>iter (interp (C95cs n) typ 120 1 n C95kp (codeAt C95c [1,1,0,1,0,0,1,1,0,0,1,1,0,1,0,0])) (canon 1 (C95kp.loop 7)) (kAt (C95cs n) typ 120 1 n C95kp C95c [1,1,0,1,0,0,1,1,0,0,1,1,0,1,0] [G3] (ending typ 1 Go.Proofs.Tryz.f49.results.toList C95rs C95bs)) k s)] (ending typ 1 Go.Proofs.Tryz.f49.results.toList C95rs C95bs)) k' (C95s11 v33 v10 v8 v11 v31 v20 v21 v26 v27 v32 b0 b1_0 b1_1 b1_2 b1_3 b1_4 b2 b3p b3i b4)) (fun k' v64 v8 v62 v20 v21 v63 b0 b1_0 b1_1 b2_0 b2_1 b2_2 b2_3 b2_4 b3 b4p b4i b5=>iter (interp (C95cs n) typ 120 1 n C95kp (codeAt C95c [1,1,0,1,0,0,1,1,0,0,1,1,1,1,0,1,0,0])) (canon 1 (C95kp.loop 19)) (kAt (C95cs n) typ 120 1 n C95kp C95c [1,1,0,1,0,0,1,1,0,0,1,1,1,1,0,1,0] [G3] (ending typ 1 Go.Proofs.Tryz.f49.results.toList C95rs C95bs)) k' (C95s19 v64 v8 v62 v20 v21 v63 b0 b1_0 b1_1 b2_0 b2_1 b2_2 b2_3 b2_4 b3 b4p b4i b5)) (fun v21 v20 b0 b1_0 b1_1 b1_2 b1_3 b1_4 b2 b3p b3i=>G3 (C95s3 v21 v20 b0 b1_0 b1_1 b1_2 b1_3 b1_4 b2 b3p b3i)) (fun v8 v27 v20 v21 v26 b0 b1 b2_0 b2_1 b2_2 b2_3 b2_4 b3 b4p b4i=>iter (interp (C95cs n) typ 120 1 n C95kp (codeAt C95c [1,1,0,1,0,0,1,1,0,0,1,1,0,1,0,0])) (canon 1 (C95kp.loop 7)) (kAt (C95cs n) typ 120 1 n C95kp C95c [1,1,0,1,0,0,1,1,0,0,1,1,0,1,0] [G3] (ending typ 1 Go.Proofs.Tryz.f49.results.toList C95rs C95bs)) k (C95s7 v8 v27 v20 v21 v26 b0 b1 b2_0 b2_1 b2_2 b2_3 b2_4 b3 b4p b4i)) v8 v27 v20 v21 v26 b0 b1 b2_0 b2_1 b2_2 b2_3 b2_4 b3 b4p b4i) (by kernel_rfl) ?_
  have e:=congr (congr (congrArg (fun h11 h19 g=>C95_t7 n h11 h19 (fun v21 v20 b0 b1_0 b1_1 b1_2 b1_3 b1_4 b2 b3p b3i=>G3 (C95s3 v21 v20 b0 b1_0 b1_1 b1_2 b1_3 b1_4 b2 b3p b3i)) g v8 v27 v20 v21 v26 b0 b1 b2_0 b2_1 b2_2 b2_3 b2_4 b3 b4p b4i) ((funext fun k'=>funext fun v33=>funext fun v10=>funext fun v8=>funext fun v11=>funext fun v31=>funext fun v20=>funext fun v21=>funext fun v26=>funext fun v27=>funext fun v32=>funext fun b0=>funext fun b1_0=>funext fun b1_1=>funext fun b1_2=>funext fun b1_3=>funext fun b1_4=>funext fun b2=>funext fun b3p=>funext fun b3i=>funext fun b4=>C95_l11_eq n G3 (fun s=>iter (interp (C95cs n) typ 120 1 n C95kp (codeAt C95c [1,1,0,1,0,0,1,1,0,0,1,1,0,1,0,0])) (canon 1 (C95kp.loop 7)) (kAt (C95cs n) typ 120 1 n C95kp C95c [1,1,0,1,0,0,1,1,0,0,1,1,0,1,0] [G3] (ending typ 1 Go.Proofs.Tryz.f49.results.toList C95rs C95bs)) k s) k' v33 v10 v8 v11 v31 v20 v21 v26 v27 v32 b0 b1_0 b1_1 b1_2 b1_3 b1_4 b2 b3p b3i b4).trans (congrArg (fun z=>C95_l11 n (fun v21 v20 b0 b1_0 b1_1 b1_2 b1_3 b1_4 b2 b3p b3i=>G3 (C95s3 v21 v20 b0 b1_0 b1_1 b1_2 b1_3 b1_4 b2 b3p b3i)) z) (funext fun v8=>funext fun v27=>funext fun v20=>funext fun v21=>funext fun v26=>funext fun b0=>funext fun b1=>funext fun b2_0=>funext fun b2_1=>funext fun b2_2=>funext fun b2_3=>funext fun b2_4=>funext fun b3=>funext fun b4p=>funext fun b4i=>C95_l7_eq n G3 k v8 v27 v20 v21 v26 b0 b1 b2_0 b2_1 b2_2 b2_3 b2_4 b3 b4p b4i)))) (funext fun k'=>funext fun v64=>funext fun v8=>funext fun v62=>funext fun v20=>funext fun v21=>funext fun v63=>funext fun b0=>funext fun b1_0=>funext fun b1_1=>funext fun b2_0=>funext fun b2_1=>funext fun b2_2=>funext fun b2_3=>funext fun b2_4=>funext fun b3=>funext fun b4p=>funext fun b4i=>funext fun b5=>C95_l19_eq n G3 k' v64 v8 v62 v20 v21 v63 b0 b1_0 b1_1 b2_0 b2_1 b2_2 b2_3 b2_4 b3 b4p b4i b5)) (funext fun v8=>funext fun v27=>funext fun v20=>funext fun v21=>funext fun v26=>funext fun b0=>funext fun b1=>funext fun b2_0=>funext fun b2_1=>funext fun b2_2=>funext fun b2_3=>funext fun b2_4=>funext fun b3=>funext fun b4p=>funext fun b4i=>C95_l7_eq n G3 k v8 v27 v20 v21 v26 b0 b1 b2_0 b2_1 b2_2 b2_3 b2_4 b3 b4p b4i)
  exact e
theorem C95_l3_eq (n:Nat):∀ (k:Nat) (v21:Int) (v20:Int) (b0:Bool) (b1_0:Int) (b1_1:List OB9) (b1_2:Bool) (b1_3:Int) (b1_4:Int) (b2:List (Int×Int)) (b3p:List Nat) (b3i:List (List (Int×Int))),iter (interp (C95cs n) typ 120 1 n C95kp (codeAt C95c [1,1,0,1,0,0])) (canon 1 (C95kp.loop 3)) (C95k0 n) k (C95s3 v21 v20 b0 b1_0 b1_1 b1_2 b1_3 b1_4 b2 b3p b3i)=C95_l3 n k v21 v20 b0 b1_0 b1_1 b1_2 b1_3 b1_4 b2 b3p b3i
 | 0,_,_,_,_,_,_,_,_,_,_,_=>by kernel_rfl
 | k+1,v21,v20,b0,b1_0,b1_1,b1_2,b1_3,b1_4,b2,b3p,b3i=>by
  refine Eq.trans (b:=C95_t3 n (fun k' v8 v27 v20 v21 v26 b0 b1 b2_0 b2_1 b2_2 b2_3 b2_4 b3 b4p b4i=>iter (interp (C95cs n) typ 120 1 n C95kp (codeAt C95c [1,1,0,1,0,0,1,1,0,0,1,1,0,1,0,0])) (canon 1 (C95kp.loop 7)) (kAt (C95cs n) typ 120 1 n C95kp C95c [1,1,0,1,0,0,1,1,0,0,1,1,0,1,0] [(fun s=>iter (interp (C95cs n) typ 120 1 n C95kp (codeAt C95c [1,1,0,1,0,0])) (canon 1 (C95kp.loop 3)) (C95k0 n) k s)] (ending typ 1 Go.Proofs.Tryz.f49.results.toList C95rs C95bs)) k' (C95s7 v8 v27 v20 v21 v26 b0 b1 b2_0 b2_1 b2_2 b2_3 b2_4 b3 b4p b4i)) (fun v21 v20 b0 b1_0 b1_1 b1_2 b1_3 b1_4 b2 b3p b3i=>iter (interp (C95cs n) typ 120 1 n C95kp (codeAt C95c [1,1,0,1,0,0])) (canon 1 (C95kp.loop 3)) (C95k0 n) k (C95s3 v21 v20 b0 b1_0 b1_1 b1_2 b1_3 b1_4 b2 b3p b3i)) v21 v20 b0 b1_0 b1_1 b1_2 b1_3 b1_4 b2 b3p b3i) (by kernel_rfl) ?_
  have e:=congr (congrArg (fun h7 g=>C95_t3 n h7 g v21 v20 b0 b1_0 b1_1 b1_2 b1_3 b1_4 b2 b3p b3i) ((funext fun k'=>funext fun v8=>funext fun v27=>funext fun v20=>funext fun v21=>funext fun v26=>funext fun b0=>funext fun b1=>funext fun b2_0=>funext fun b2_1=>funext fun b2_2=>funext fun b2_3=>funext fun b2_4=>funext fun b3=>funext fun b4p=>funext fun b4i=>C95_l7_eq n (fun s=>iter (interp (C95cs n) typ 120 1 n C95kp (codeAt C95c [1,1,0,1,0,0])) (canon 1 (C95kp.loop 3)) (C95k0 n) k s) k' v8 v27 v20 v21 v26 b0 b1 b2_0 b2_1 b2_2 b2_3 b2_4 b3 b4p b4i).trans (congrArg (fun z=>C95_l7 n z) (funext fun v21=>funext fun v20=>funext fun b0=>funext fun b1_0=>funext fun b1_1=>funext fun b1_2=>funext fun b1_3=>funext fun b1_4=>funext fun b2=>funext fun b3p=>funext fun b3i=>C95_l3_eq n k v21 v20 b0 b1_0 b1_1 b1_2 b1_3 b1_4 b2 b3p b3i)))) (funext fun v21=>funext fun v20=>funext fun b0=>funext fun b1_0=>funext fun b1_1=>funext fun b1_2=>funext fun b1_3=>funext fun b1_4=>funext fun b2=>funext fun b3p=>funext fun b3i=>C95_l3_eq n k v21 v20 b0 b1_0 b1_1 b1_2 b1_3 b1_4 b2 b3p b3i)
  exact e
theorem C95_eq (n:Nat) (a1:(Int)×((List OB9)×((Bool)×(Int×Int)))) (b0:Bool):Z702 (C95cs n) typ 120 n C95kp C95c Go.Proofs.Tryz.f49.results.toList C95rs C95sp C95bs ((),(a1,())) (b0,())=C95 n a1 b0:=by
 refine Eq.trans (b:=C95_t n (fun k v21 v20 b0 b1_0 b1_1 b1_2 b1_3 b1_4 b2 b3p b3i=>iter (interp (C95cs n) typ 120 1 n C95kp (codeAt C95c [1,1,0,1,0,0])) (canon 1 (C95kp.loop 3)) (C95k0 n) k (C95s3 v21 v20 b0 b1_0 b1_1 b1_2 b1_3 b1_4 b2 b3p b3i)) a1 b0) (by kernel_rfl) ?_
 have e:=congrArg (fun h3=>C95_t n h3 a1 b0) (funext fun k=>funext fun v21=>funext fun v20=>funext fun b0=>funext fun b1_0=>funext fun b1_1=>funext fun b1_2=>funext fun b1_3=>funext fun b1_4=>funext fun b2=>funext fun b3p=>funext fun b3i=>C95_l3_eq n k v21 v20 b0 b1_0 b1_1 b1_2 b1_3 b1_4 b2 b3p b3i)
 exact e
theorem C95_ok (n:Nat):FunOk P (C95F n) :=
 Z308 (C:=[C430F n,C426F n,C236F n,C234F n,C22F n]) (N:=120) (kp:=C95kp) (c:=C95c) (n:=n) (G:=fun x y=>C95 n x.2.1 y.1) follows (AllOk.mem (⟨C430_ok n,⟨C426_ok n,⟨C236_ok n,⟨C234_ok n,⟨C22_ok n,trivial⟩⟩⟩⟩⟩:AllOk P ([C430F n,C426F n,C236F n,C234F n,C22F n]))) (by kernel_rfl:P.funcs[49]?=some Go.Proofs.Tryz.f49) (by kernel_rfl) (by kernel_rfl) (by kernel_rfl)
  (fun x y=>C95_eq n x.2.1 y.1) (fun _ _=>Z489 (fun _=>rfl) _) (fun _ _ _ _=>rfl)
abbrev C225sp:List Sp:=[.v true (.pair (.int .i64) (.pair (.list tO) (.pair .bool tF)))]
abbrev C225bs:List (Bs×Bool):=[]
abbrev C225rs:List (Bool×List Rp):=[(false,[.newp  tF]),(false,[.new  tF]),(false,[.v false (.int .i64)])]
noncomputable def C225kp:Keep:={ loop:=fun id=>match id with | _=>([],[]),join:=fun id=>match id with | _=>none }
noncomputable def C225c:Code:=bodyOf Go.Proofs.Tryz.f36
noncomputable def C225F (n:Nat):Fun:={ id:=36,sp:=C225sp,bs:=C225bs,rs:=C225rs,f:=fun x y=>C225 n x.1 }
theorem C225_eq (n:Nat) (a0:(Int)×((List OB9)×((Bool)×(Int×Int)))):Z702 ([C121F n,C95F n]) typ 25 n C225kp C225c Go.Proofs.Tryz.f36.results.toList C225rs C225sp C225bs (a0,()) ()=C225 n a0:=by
 refine Eq.trans (b:=C225_t n a0) (by kernel_rfl) ?_
 rfl
theorem C225_ok (n:Nat):FunOk P (C225F n) :=
 Z308 (C:=[C121F n,C95F n]) (N:=25) (kp:=C225kp) (c:=C225c) (n:=n) (G:=fun x y=>C225 n x.1) follows (AllOk.mem (⟨C121_ok n,⟨C95_ok n,trivial⟩⟩:AllOk P ([C121F n,C95F n]))) (by kernel_rfl:P.funcs[36]?=some Go.Proofs.Tryz.f36) (by kernel_rfl) (by kernel_rfl) (by kernel_rfl)
  (fun x y=>C225_eq n x.1) (fun _ _=>Z489 (fun _=>rfl) _) (fun _ _ _ _=>rfl)
abbrev C125sp:List Sp:=[.v true tF]
abbrev C125bs:List (Bs×Bool):=[]
abbrev C125rs:List (Bool×List Rp):=[(false,[.v false .bool])]
noncomputable def C125kp:Keep:={ loop:=fun id=>match id with | _=>([],[]),join:=fun id=>match id with | _=>none }
noncomputable def C125c:Code:=bodyOf Go.Proofs.Tryz.f101
noncomputable def C125F (n:Nat):Fun:={ id:=101,sp:=C125sp,bs:=C125bs,rs:=C125rs,f:=fun x y=>C125 n x.1 }
theorem C125_eq (n:Nat) (a0:(Int)×(Int)):Z702 ([C172F n]) ty 6 n C125kp C125c Go.Proofs.Tryz.f101.results.toList C125rs C125sp C125bs (a0,()) ()=C125 n a0:=by
 refine Eq.trans (b:=C125_t n a0) (by kernel_rfl) ?_
 rfl
theorem C125_ok (n:Nat):FunOk P (C125F n) :=
 Z465 (C:=[C172F n]) (N:=6) (kp:=C125kp) (c:=C125c) (n:=n) (G:=fun x y=>C125 n x.1) follows (AllOk.mem (⟨C172_ok n,trivial⟩:AllOk P ([C172F n]))) (by kernel_rfl:P.funcs[101]?=some Go.Proofs.Tryz.f101) (by kernel_rfl) (by kernel_rfl) (by kernel_rfl)
  (fun x y=>C125_eq n x.1) (fun _ _=>Z489 (fun _=>rfl) _) (fun _ _ _ _=>rfl)
abbrev C6sp:List Sp:=[.v false (.list tF),.cl 101 []]
abbrev C6bs:List (Bs×Bool):=[]
abbrev C6rs:List (Bool×List Rp):=[(false,[.v false (.int .i64)])]
noncomputable def C6kp:Keep:={ loop:=fun id=>match id with | 2=>([8,0,1,7],[]) | _=>([],[]),join:=fun id=>match id with | _=>none }
noncomputable def C6c:Code:=bodyOf Go.Proofs.Tryz.f121
noncomputable def C6F (n:Nat):Fun:={ id:=121,sp:=C6sp,bs:=C6bs,rs:=C6rs,f:=fun x y=>C6 n x.1 }
abbrev C6s2 (v8:Int) (v0:List (Int×Int)) (v7:Int):St:={ env:=[(8,.one (.sc (.int .i64 v8))),(0,.one (.list true tF v0)),(1,.one (.clos 101 [])),(7,.one (.sc (.int .i64 v7)))],bx:=[],nx:=0 }
noncomputable abbrev C6k0 (n:Nat):=kAt ([C125F n]) ty 19 0 n C6kp C6c [1,0,1,0] [] (ending ty 0 Go.Proofs.Tryz.f121.results.toList C6rs C6bs)
theorem C6_l2_eq (n:Nat):∀ (k:Nat) (v8:Int) (v0:List (Int×Int)) (v7:Int),iter (interp ([C125F n]) ty 19 0 n C6kp (codeAt C6c [1,0,1,0,0])) (canon 0 (C6kp.loop 2)) (C6k0 n) k (C6s2 v8 v0 v7)=C6_l2 n k v8 v0 v7
 | 0,_,_,_=>by kernel_rfl
 | k+1,v8,v0,v7=>by
  refine Eq.trans (b:=C6_t2 n (fun v8 v0 v7=>iter (interp ([C125F n]) ty 19 0 n C6kp (codeAt C6c [1,0,1,0,0])) (canon 0 (C6kp.loop 2)) (C6k0 n) k (C6s2 v8 v0 v7)) v8 v0 v7) (by kernel_rfl) ?_
  have e:=congrArg (fun g=>C6_t2 n g v8 v0 v7) (funext fun v8=>funext fun v0=>funext fun v7=>C6_l2_eq n k v8 v0 v7)
  exact e
theorem C6_eq (n:Nat) (a0:List (Int×Int)):Z702 ([C125F n]) ty 19 n C6kp C6c Go.Proofs.Tryz.f121.results.toList C6rs C6sp C6bs (a0,((),())) ()=C6 n a0:=by
 refine Eq.trans (b:=C6_t n (fun k v8 v0 v7=>iter (interp ([C125F n]) ty 19 0 n C6kp (codeAt C6c [1,0,1,0,0])) (canon 0 (C6kp.loop 2)) (C6k0 n) k (C6s2 v8 v0 v7)) a0) (by kernel_rfl) ?_
 have e:=congrArg (fun h2=>C6_t n h2 a0) (funext fun k=>funext fun v8=>funext fun v0=>funext fun v7=>C6_l2_eq n k v8 v0 v7)
 exact e
theorem C6_ok (n:Nat):FunOk P (C6F n) :=
 Z465 (C:=[C125F n]) (N:=19) (kp:=C6kp) (c:=C6c) (n:=n) (G:=fun x y=>C6 n x.1) follows (AllOk.mem (⟨C125_ok n,trivial⟩:AllOk P ([C125F n]))) (by kernel_rfl:P.funcs[121]?=some Go.Proofs.Tryz.f121) (by kernel_rfl) (by kernel_rfl) (by kernel_rfl)
  (fun x y=>C6_eq n x.1) (fun _ _=>Z489 (fun _=>rfl) _) (fun _ _ _ _=>rfl)
abbrev C3sp:List Sp:=[.v false (.list tF),.cl 101 []]
abbrev C3bs:List (Bs×Bool):=[]
abbrev C3rs:List (Bool×List Rp):=[(false,[.v false .bool])]
noncomputable def C3kp:Keep:={ loop:=fun id=>match id with | _=>([],[]),join:=fun id=>match id with | _=>none }
noncomputable def C3c:Code:=bodyOf Go.Proofs.Tryz.f100
noncomputable def C3F (n:Nat):Fun:={ id:=100,sp:=C3sp,bs:=C3bs,rs:=C3rs,f:=fun x y=>C3 n x.1 }
theorem C3_eq (n:Nat) (a0:List (Int×Int)):Z702 ([C6F n]) ty 9 n C3kp C3c Go.Proofs.Tryz.f100.results.toList C3rs C3sp C3bs (a0,((),())) ()=C3 n a0:=by
 refine Eq.trans (b:=C3_t n a0) (by kernel_rfl) ?_
 rfl
theorem C3_ok (n:Nat):FunOk P (C3F n) :=
 Z465 (C:=[C6F n]) (N:=9) (kp:=C3kp) (c:=C3c) (n:=n) (G:=fun x y=>C3 n x.1) follows (AllOk.mem (⟨C6_ok n,trivial⟩:AllOk P ([C6F n]))) (by kernel_rfl:P.funcs[100]?=some Go.Proofs.Tryz.f100) (by kernel_rfl) (by kernel_rfl) (by kernel_rfl)
  (fun x y=>C3_eq n x.1) (fun _ _=>Z489 (fun _=>rfl) _) (fun _ _ _ _=>rfl)
abbrev C233sp:List Sp:=[.v false (.list tF)]
abbrev C233bs:List (Bs×Bool):=[]
abbrev C233rs:List (Bool×List Rp):=[(false,[.v false .bool])]
noncomputable def C233kp:Keep:={ loop:=fun id=>match id with | _=>([],[]),join:=fun id=>match id with | _=>none }
noncomputable def C233c:Code:=bodyOf Go.Proofs.Tryz.f75
noncomputable def C233F (n:Nat):Fun:={ id:=75,sp:=C233sp,bs:=C233bs,rs:=C233rs,f:=fun x y=>C233 n x.1 }
theorem C233_eq (n:Nat) (a0:List (Int×Int)):Z702 ([C3F n]) ty 6 n C233kp C233c Go.Proofs.Tryz.f75.results.toList C233rs C233sp C233bs (a0,()) ()=C233 n a0:=by
 refine Eq.trans (b:=C233_t n a0) (by kernel_rfl) ?_
 rfl
theorem C233_ok (n:Nat):FunOk P (C233F n) :=
 Z465 (C:=[C3F n]) (N:=6) (kp:=C233kp) (c:=C233c) (n:=n) (G:=fun x y=>C233 n x.1) follows (AllOk.mem (⟨C3_ok n,trivial⟩:AllOk P ([C3F n]))) (by kernel_rfl:P.funcs[75]?=some Go.Proofs.Tryz.f75) (by kernel_rfl) (by kernel_rfl) (by kernel_rfl)
  (fun x y=>C233_eq n x.1) (fun _ _=>Z489 (fun _=>rfl) _) (fun _ _ _ _=>rfl)
abbrev C235sp:List Sp:=[.ref 0,.v true tF,.v true tF]
abbrev C235bs:List (Bs×Bool):=[(.var 77 .bool,true)]
abbrev C235rs:List (Bool×List Rp):=[(true,[.v false tF])]
noncomputable def C235kp:Keep:={ loop:=fun id=>match id with | _=>([],[]),join:=fun id=>match id with | _=>none }
noncomputable def C235c:Code:=bodyOf Go.Proofs.Tryz.f78
noncomputable def C235F (n:Nat):Fun:={ id:=78,sp:=C235sp,bs:=C235bs,rs:=C235rs,f:=fun x y=>C235 n x.2.1 x.2.2.1 y.1 }
theorem C235_eq (n:Nat) (a1:(Int)×(Int)) (a2:(Int)×(Int)) (b0:Bool):Z702 ([C426F n,C181F n]) ty 26 n C235kp C235c Go.Proofs.Tryz.f78.results.toList C235rs C235sp C235bs ((),(a1,(a2,()))) (b0,())=C235 n a1 a2 b0:=by
 refine Eq.trans (b:=C235_t n a1 a2 b0) (by kernel_rfl) ?_
 rfl
theorem C235_ok (n:Nat):FunOk P (C235F n) :=
 Z465 (C:=[C426F n,C181F n]) (N:=26) (kp:=C235kp) (c:=C235c) (n:=n) (G:=fun x y=>C235 n x.2.1 x.2.2.1 y.1) follows (AllOk.mem (⟨C426_ok n,⟨C181_ok n,trivial⟩⟩:AllOk P ([C426F n,C181F n]))) (by kernel_rfl:P.funcs[78]?=some Go.Proofs.Tryz.f78) (by kernel_rfl) (by kernel_rfl) (by kernel_rfl)
  (fun x y=>C235_eq n x.2.1 x.2.2.1 y.1) (fun _ _=>Z489 (fun _=>rfl) _) (fun _ _ _ _=>rfl)
abbrev C238sp:List Sp:=[.ref 0,.v true tF,.v true tF]
abbrev C238bs:List (Bs×Bool):=[(.var 77 .bool,true)]
abbrev C238rs:List (Bool×List Rp):=[(true,[.v false tF])]
noncomputable def C238kp:Keep:={ loop:=fun id=>match id with | _=>([],[]),join:=fun id=>match id with | _=>none }
noncomputable def C238c:Code:=bodyOf Go.Proofs.Tryz.f50
noncomputable def C238F (n:Nat):Fun:={ id:=50,sp:=C238sp,bs:=C238bs,rs:=C238rs,f:=fun x y=>C238 n x.2.1 x.2.2.1 y.1 }
theorem C238_eq (n:Nat) (a1:(Int)×(Int)) (a2:(Int)×(Int)) (b0:Bool):Z702 ([C181F n]) ty 25 n C238kp C238c Go.Proofs.Tryz.f50.results.toList C238rs C238sp C238bs ((),(a1,(a2,()))) (b0,())=C238 n a1 a2 b0:=by
 refine Eq.trans (b:=C238_t n a1 a2 b0) (by kernel_rfl) ?_
 rfl
theorem C238_ok (n:Nat):FunOk P (C238F n) :=
 Z465 (C:=[C181F n]) (N:=25) (kp:=C238kp) (c:=C238c) (n:=n) (G:=fun x y=>C238 n x.2.1 x.2.2.1 y.1) follows (AllOk.mem (⟨C181_ok n,trivial⟩:AllOk P ([C181F n]))) (by kernel_rfl:P.funcs[50]?=some Go.Proofs.Tryz.f50) (by kernel_rfl) (by kernel_rfl) (by kernel_rfl)
  (fun x y=>C238_eq n x.2.1 x.2.2.1 y.1) (fun _ _=>Z489 (fun _=>rfl) _) (fun _ _ _ _=>rfl)
abbrev C51sp:List Sp:=[.ref 0,.sl 1,.sl 2,.v false (.int .i64),.v false (.int .i64)]
abbrev C51bs:List (Bs×Bool):=[(.var 77 .bool,true),(.pool  tF,true),(.row  tF,true)]
abbrev C51rs:List (Bool×List Rp):=[(false,[.v false .bool])]
noncomputable def C51kp:Keep:={ loop:=fun id=>match id with | 2=>([11,4,1,0,2,3],[]) | 9=>([67,4,1,0,2,3,66],[]) | 14=>([14,4,1,13,0,12,2,3,66,67],[]) | _=>([],[]),join:=fun id=>match id with | _=>none }
noncomputable def C51c:Code:=bodyOf Go.Proofs.Tryz.f41
noncomputable def C51F (n:Nat):Fun:={ id:=41,sp:=C51sp,bs:=C51bs,rs:=C51rs,f:=fun x y=>C51 n x.2.2.2.1 x.2.2.2.2.1 y.1 y.2.1 y.2.2.1 }
noncomputable abbrev C51cs (n:Nat):List Fun:=[C235F n,C236F n,C238F n]
abbrev C51s14 (v14:Int) (v4:Int) (v12:Int) (v3:Int) (v66:Int) (v67:Int) (b0:Bool) (b1p:List Nat) (b1i:List (List (Int×Int))) (b2:List (Int×Int)) (b3_0:Int) (b3_1:Int):St:={ env:=[(14,.one (.sc (.int .i64 v14))),(4,.one (.sc (.int .i64 v4))),(1,.one (.slice 1 0 none)),(13,.one (.ref 3 0 0 0 0 0)),(0,.one (.ref 0 0 0 0 0 0)),(12,.one (.sc (.int .i64 v12))),(2,.one (.slice 2 0 none)),(3,.one (.sc (.int .i64 v3))),(66,.one (.sc (.int .i64 v66))),(67,.one (.sc (.int .i64 v67)))],bx:=[(0,.var 77 [.sc (.bool b0)]),(1,.pool 0 tF b1p b1i),(2,.row 0 tF b2),(3,.var 26 [.sc (.int .i64 b3_0),.sc (.int .i64 b3_1)])],nx:=4 }
abbrev C51s9 (v67:Int) (v4:Int) (v3:Int) (v66:Int) (b0:Bool) (b1p:List Nat) (b1i:List (List (Int×Int))) (b2:List (Int×Int)):St:={ env:=[(67,.one (.sc (.int .i64 v67))),(4,.one (.sc (.int .i64 v4))),(1,.one (.slice 1 0 none)),(0,.one (.ref 0 0 0 0 0 0)),(2,.one (.slice 2 0 none)),(3,.one (.sc (.int .i64 v3))),(66,.one (.sc (.int .i64 v66)))],bx:=[(0,.var 77 [.sc (.bool b0)]),(1,.pool 0 tF b1p b1i),(2,.row 0 tF b2)],nx:=3 }
abbrev C51s2 (v11:Int) (v4:Int) (v3:Int) (b0:Bool) (b1p:List Nat) (b1i:List (List (Int×Int))) (b2:List (Int×Int)):St:={ env:=[(11,.one (.sc (.int .i64 v11))),(4,.one (.sc (.int .i64 v4))),(1,.one (.slice 1 0 none)),(0,.one (.ref 0 0 0 0 0 0)),(2,.one (.slice 2 0 none)),(3,.one (.sc (.int .i64 v3)))],bx:=[(0,.var 77 [.sc (.bool b0)]),(1,.pool 0 tF b1p b1i),(2,.row 0 tF b2)],nx:=3 }
noncomputable abbrev C51k0 (n:Nat):=kAt (C51cs n) typ 158 3 n C51kp C51c [1,1,1,1,1,1,0,1,0] [] (ending typ 3 Go.Proofs.Tryz.f41.results.toList C51rs C51bs)
noncomputable abbrev C51k1 (n:Nat):=kAt (C51cs n) typ 158 3 n C51kp C51c [1,1,0,0] [] (ending typ 3 Go.Proofs.Tryz.f41.results.toList C51rs C51bs)
theorem C51_l14_eq (n:Nat) (G9:St→Option ((((Bool)×(Unit))×(Unit))×((Bool)×(((List Nat)×(List (List (Int×Int))))×((List (Int×Int))×(Unit)))))):∀ (k:Nat) (v14:Int) (v4:Int) (v12:Int) (v3:Int) (v66:Int) (v67:Int) (b0:Bool) (b1p:List Nat) (b1i:List (List (Int×Int))) (b2:List (Int×Int)) (b3_0:Int) (b3_1:Int),iter (interp (C51cs n) typ 158 3 n C51kp (codeAt C51c [1,1,1,1,1,1,0,1,0,0,1,1,0,0,1,1,1,0,1,0,0])) (canon 3 (C51kp.loop 14)) (kAt (C51cs n) typ 158 3 n C51kp C51c [1,1,1,1,1,1,0,1,0,0,1,1,0,0,1,1,1,0,1,0] [G9] (ending typ 3 Go.Proofs.Tryz.f41.results.toList C51rs C51bs)) k (C51s14 v14 v4 v12 v3 v66 v67 b0 b1p b1i b2 b3_0 b3_1)=C51_l14 n (fun v67 v4 v3 v66 b0 b1p b1i b2=>G9 (C51s9 v67 v4 v3 v66 b0 b1p b1i b2)) k v14 v4 v12 v3 v66 v67 b0 b1p b1i b2 b3_0 b3_1
 | 0,_,_,_,_,_,_,_,_,_,_,_,_=>by kernel_rfl
 | k+1,v14,v4,v12,v3,v66,v67,b0,b1p,b1i,b2,b3_0,b3_1=>by
  refine Eq.trans (b:=C51_t14 n (fun v67 v4 v3 v66 b0 b1p b1i b2=>G9 (C51s9 v67 v4 v3 v66 b0 b1p b1i b2)) (fun v14 v4 v12 v3 v66 v67 b0 b1p b1i b2 b3_0 b3_1=>iter (interp (C51cs n) typ 158 3 n C51kp (codeAt C51c [1,1,1,1,1,1,0,1,0,0,1,1,0,0,1,1,1,0,1,0,0])) (canon 3 (C51kp.loop 14)) (kAt (C51cs n) typ 158 3 n C51kp C51c [1,1,1,1,1,1,0,1,0,0,1,1,0,0,1,1,1,0,1,0] [G9] (ending typ 3 Go.Proofs.Tryz.f41.results.toList C51rs C51bs)) k (C51s14 v14 v4 v12 v3 v66 v67 b0 b1p b1i b2 b3_0 b3_1)) v14 v4 v12 v3 v66 v67 b0 b1p b1i b2 b3_0 b3_1) (by kernel_rfl) ?_
  have e:=congrArg (fun g=>C51_t14 n (fun v67 v4 v3 v66 b0 b1p b1i b2=>G9 (C51s9 v67 v4 v3 v66 b0 b1p b1i b2)) g v14 v4 v12 v3 v66 v67 b0 b1p b1i b2 b3_0 b3_1) (funext fun v14=>funext fun v4=>funext fun v12=>funext fun v3=>funext fun v66=>funext fun v67=>funext fun b0=>funext fun b1p=>funext fun b1i=>funext fun b2=>funext fun b3_0=>funext fun b3_1=>C51_l14_eq n G9 k v14 v4 v12 v3 v66 v67 b0 b1p b1i b2 b3_0 b3_1)
  exact e
theorem C51_l9_eq (n:Nat):∀ (k:Nat) (v67:Int) (v4:Int) (v3:Int) (v66:Int) (b0:Bool) (b1p:List Nat) (b1i:List (List (Int×Int))) (b2:List (Int×Int)),iter (interp (C51cs n) typ 158 3 n C51kp (codeAt C51c [1,1,1,1,1,1,0,1,0,0])) (canon 3 (C51kp.loop 9)) (C51k0 n) k (C51s9 v67 v4 v3 v66 b0 b1p b1i b2)=C51_l9 n k v67 v4 v3 v66 b0 b1p b1i b2
 | 0,_,_,_,_,_,_,_,_=>by kernel_rfl
 | k+1,v67,v4,v3,v66,b0,b1p,b1i,b2=>by
  refine Eq.trans (b:=C51_t9 n (fun k' v14 v4 v12 v3 v66 v67 b0 b1p b1i b2 b3_0 b3_1=>iter (interp (C51cs n) typ 158 3 n C51kp (codeAt C51c [1,1,1,1,1,1,0,1,0,0,1,1,0,0,1,1,1,0,1,0,0])) (canon 3 (C51kp.loop 14)) (kAt (C51cs n) typ 158 3 n C51kp C51c [1,1,1,1,1,1,0,1,0,0,1,1,0,0,1,1,1,0,1,0] [(fun s=>iter (interp (C51cs n) typ 158 3 n C51kp (codeAt C51c [1,1,1,1,1,1,0,1,0,0])) (canon 3 (C51kp.loop 9)) (C51k0 n) k s)] (ending typ 3 Go.Proofs.Tryz.f41.results.toList C51rs C51bs)) k' (C51s14 v14 v4 v12 v3 v66 v67 b0 b1p b1i b2 b3_0 b3_1)) (fun v67 v4 v3 v66 b0 b1p b1i b2=>iter (interp (C51cs n) typ 158 3 n C51kp (codeAt C51c [1,1,1,1,1,1,0,1,0,0])) (canon 3 (C51kp.loop 9)) (C51k0 n) k (C51s9 v67 v4 v3 v66 b0 b1p b1i b2)) v67 v4 v3 v66 b0 b1p b1i b2) (by kernel_rfl) ?_
  have e:=congr (congrArg (fun h14 g=>C51_t9 n h14 g v67 v4 v3 v66 b0 b1p b1i b2) ((funext fun k'=>funext fun v14=>funext fun v4=>funext fun v12=>funext fun v3=>funext fun v66=>funext fun v67=>funext fun b0=>funext fun b1p=>funext fun b1i=>funext fun b2=>funext fun b3_0=>funext fun b3_1=>C51_l14_eq n (fun s=>iter (interp (C51cs n) typ 158 3 n C51kp (codeAt C51c [1,1,1,1,1,1,0,1,0,0])) (canon 3 (C51kp.loop 9)) (C51k0 n) k s) k' v14 v4 v12 v3 v66 v67 b0 b1p b1i b2 b3_0 b3_1).trans (congrArg (fun z=>C51_l14 n z) (funext fun v67=>funext fun v4=>funext fun v3=>funext fun v66=>funext fun b0=>funext fun b1p=>funext fun b1i=>funext fun b2=>C51_l9_eq n k v67 v4 v3 v66 b0 b1p b1i b2)))) (funext fun v67=>funext fun v4=>funext fun v3=>funext fun v66=>funext fun b0=>funext fun b1p=>funext fun b1i=>funext fun b2=>C51_l9_eq n k v67 v4 v3 v66 b0 b1p b1i b2)
  exact e
theorem C51_l2_eq (n:Nat):∀ (k:Nat) (v11:Int) (v4:Int) (v3:Int) (b0:Bool) (b1p:List Nat) (b1i:List (List (Int×Int))) (b2:List (Int×Int)),iter (interp (C51cs n) typ 158 3 n C51kp (codeAt C51c [1,1,0,0,0])) (canon 3 (C51kp.loop 2)) (C51k1 n) k (C51s2 v11 v4 v3 b0 b1p b1i b2)=C51_l2 n k v11 v4 v3 b0 b1p b1i b2
 | 0,_,_,_,_,_,_,_=>by kernel_rfl
 | k+1,v11,v4,v3,b0,b1p,b1i,b2=>by
  refine Eq.trans (b:=C51_t2 n (fun k' v67 v4 v3 v66 b0 b1p b1i b2=>iter (interp (C51cs n) typ 158 3 n C51kp (codeAt C51c [1,1,1,1,1,1,0,1,0,0])) (canon 3 (C51kp.loop 9)) (C51k0 n) k' (C51s9 v67 v4 v3 v66 b0 b1p b1i b2)) (fun v11 v4 v3 b0 b1p b1i b2=>iter (interp (C51cs n) typ 158 3 n C51kp (codeAt C51c [1,1,0,0,0])) (canon 3 (C51kp.loop 2)) (C51k1 n) k (C51s2 v11 v4 v3 b0 b1p b1i b2)) v11 v4 v3 b0 b1p b1i b2) (by kernel_rfl) ?_
  have e:=congr (congrArg (fun h9 g=>C51_t2 n h9 g v11 v4 v3 b0 b1p b1i b2) (funext fun k'=>funext fun v67=>funext fun v4=>funext fun v3=>funext fun v66=>funext fun b0=>funext fun b1p=>funext fun b1i=>funext fun b2=>C51_l9_eq n k' v67 v4 v3 v66 b0 b1p b1i b2)) (funext fun v11=>funext fun v4=>funext fun v3=>funext fun b0=>funext fun b1p=>funext fun b1i=>funext fun b2=>C51_l2_eq n k v11 v4 v3 b0 b1p b1i b2)
  exact e
theorem C51_eq (n:Nat) (a3:Int) (a4:Int) (b0:Bool) (b1:(List Nat)×(List (List (Int×Int)))) (b2:List (Int×Int)):Z702 (C51cs n) typ 158 n C51kp C51c Go.Proofs.Tryz.f41.results.toList C51rs C51sp C51bs ((),((),((),(a3,(a4,()))))) (b0,(b1,(b2,())))=C51 n a3 a4 b0 b1 b2:=by
 refine Eq.trans (b:=C51_t n (fun k v11 v4 v3 b0 b1p b1i b2=>iter (interp (C51cs n) typ 158 3 n C51kp (codeAt C51c [1,1,0,0,0])) (canon 3 (C51kp.loop 2)) (C51k1 n) k (C51s2 v11 v4 v3 b0 b1p b1i b2)) a3 a4 b0 b1 b2) (by kernel_rfl) ?_
 have e:=congrArg (fun h2=>C51_t n h2 a3 a4 b0 b1 b2) (funext fun k=>funext fun v11=>funext fun v4=>funext fun v3=>funext fun b0=>funext fun b1p=>funext fun b1i=>funext fun b2=>C51_l2_eq n k v11 v4 v3 b0 b1p b1i b2)
 exact e
theorem C51_ok (n:Nat):FunOk P (C51F n) :=
 Z308 (C:=[C235F n,C236F n,C238F n]) (N:=158) (kp:=C51kp) (c:=C51c) (n:=n) (G:=fun x y=>C51 n x.2.2.2.1 x.2.2.2.2.1 y.1 y.2.1 y.2.2.1) follows (AllOk.mem (⟨C235_ok n,⟨C236_ok n,⟨C238_ok n,trivial⟩⟩⟩:AllOk P ([C235F n,C236F n,C238F n]))) (by kernel_rfl:P.funcs[41]?=some Go.Proofs.Tryz.f41) (by kernel_rfl) (by kernel_rfl) (by kernel_rfl)
  (fun x y=>C51_eq n x.2.2.2.1 x.2.2.2.2.1 y.1 y.2.1 y.2.2.1) (fun _ _=>Z489 (fun _=>rfl) _) (fun _ _ _ _=>rfl)
abbrev C23sp:List Sp:=[.v false (.list tF)]
abbrev C23bs:List (Bs×Bool):=[]
abbrev C23rs:List (Bool×List Rp):=[(false,[.new  tF])]
noncomputable def C23kp:Keep:={ loop:=fun id=>match id with | _=>([],[]),join:=fun id=>match id with | _=>none }
noncomputable def C23c:Code:=bodyOf Go.Proofs.Tryz.f38
noncomputable def C23F (n:Nat):Fun:={ id:=38,sp:=C23sp,bs:=C23bs,rs:=C23rs,f:=fun x y=>C23 n x.1 }
theorem C23_eq (n:Nat) (a0:List (Int×Int)):Z702 ([]) ty 8 n C23kp C23c Go.Proofs.Tryz.f38.results.toList C23rs C23sp C23bs (a0,()) ()=C23 n a0:=by
 refine Eq.trans (b:=C23_t n a0) (by kernel_rfl) ?_
 rfl
theorem C23_ok (n:Nat):FunOk P (C23F n) :=
 Z465 (C:=[]) (N:=8) (kp:=C23kp) (c:=C23c) (n:=n) (G:=fun x y=>C23 n x.1) follows (AllOk.mem (trivial:AllOk P ([]))) (by kernel_rfl:P.funcs[38]?=some Go.Proofs.Tryz.f38) (by kernel_rfl) (by kernel_rfl) (by kernel_rfl)
  (fun x y=>C23_eq n x.1) (fun _ _=>Z489 (fun _=>rfl) _) (fun _ _ _ _=>rfl)
abbrev C240sp:List Sp:=[.v false (.list (.list tF))]
abbrev C240bs:List (Bs×Bool):=[]
abbrev C240rs:List (Bool×List Rp):=[(false,[.newp  tF])]
noncomputable def C240kp:Keep:={ loop:=fun id=>match id with | 3=>([9,3,7,8],[]) | _=>([],[]),join:=fun id=>match id with | _=>none }
noncomputable def C240c:Code:=bodyOf Go.Proofs.Tryz.f74
noncomputable def C240F (n:Nat):Fun:={ id:=74,sp:=C240sp,bs:=C240bs,rs:=C240rs,f:=fun x y=>C240 n x.1 }
noncomputable abbrev C240cs (n:Nat):List Fun:=[C23F n]
abbrev C240s3 (v9:Int) (v7:List (List (Int×Int))) (v8:Int) (b0p:List Nat) (b0i:List (List (Int×Int))):St:={ env:=[(9,.one (.sc (.int .i64 v9))),(3,.one (.slice 0 0 none)),(7,.one (.list true (.list tF) v7)),(8,.one (.sc (.int .i64 v8)))],bx:=[(0,.pool 0 tF b0p b0i)],nx:=1 }
noncomputable abbrev C240k0 (n:Nat):=kAt (C240cs n) typ 20 0 n C240kp C240c [1,1,0,1,0] [] (ending typ 0 Go.Proofs.Tryz.f74.results.toList C240rs C240bs)
theorem C240_l3_eq (n:Nat):∀ (k:Nat) (v9:Int) (v7:List (List (Int×Int))) (v8:Int) (b0p:List Nat) (b0i:List (List (Int×Int))),iter (interp (C240cs n) typ 20 0 n C240kp (codeAt C240c [1,1,0,1,0,0])) (canon 0 (C240kp.loop 3)) (C240k0 n) k (C240s3 v9 v7 v8 b0p b0i)=C240_l3 n k v9 v7 v8 b0p b0i
 | 0,_,_,_,_,_=>by kernel_rfl
 | k+1,v9,v7,v8,b0p,b0i=>by
  refine Eq.trans (b:=C240_t3 n (fun v9 v7 v8 b0p b0i=>iter (interp (C240cs n) typ 20 0 n C240kp (codeAt C240c [1,1,0,1,0,0])) (canon 0 (C240kp.loop 3)) (C240k0 n) k (C240s3 v9 v7 v8 b0p b0i)) v9 v7 v8 b0p b0i) (by kernel_rfl) ?_
  have e:=congrArg (fun g=>C240_t3 n g v9 v7 v8 b0p b0i) (funext fun v9=>funext fun v7=>funext fun v8=>funext fun b0p=>funext fun b0i=>C240_l3_eq n k v9 v7 v8 b0p b0i)
  exact e
theorem C240_eq (n:Nat) (a0:List (List (Int×Int))):Z702 (C240cs n) typ 20 n C240kp C240c Go.Proofs.Tryz.f74.results.toList C240rs C240sp C240bs (a0,()) ()=C240 n a0:=by
 refine Eq.trans (b:=C240_t n (fun k v9 v7 v8 b0p b0i=>iter (interp (C240cs n) typ 20 0 n C240kp (codeAt C240c [1,1,0,1,0,0])) (canon 0 (C240kp.loop 3)) (C240k0 n) k (C240s3 v9 v7 v8 b0p b0i)) a0) (by kernel_rfl) ?_
 have e:=congrArg (fun h3=>C240_t n h3 a0) (funext fun k=>funext fun v9=>funext fun v7=>funext fun v8=>funext fun b0p=>funext fun b0i=>C240_l3_eq n k v9 v7 v8 b0p b0i)
 exact e
theorem C240_ok (n:Nat):FunOk P (C240F n) :=
 Z308 (C:=[C23F n]) (N:=20) (kp:=C240kp) (c:=C240c) (n:=n) (G:=fun x y=>C240 n x.1) follows (AllOk.mem (⟨C23_ok n,trivial⟩:AllOk P ([C23F n]))) (by kernel_rfl:P.funcs[74]?=some Go.Proofs.Tryz.f74) (by kernel_rfl) (by kernel_rfl) (by kernel_rfl)
  (fun x y=>C240_eq n x.1) (fun _ _=>Z489 (fun _=>rfl) _) (fun _ _ _ _=>rfl)
abbrev C73sp:List Sp:=[.v false (.list tF),.ref 0]
abbrev C73bs:List (Bs×Bool):=[(.var 3 (.int .i64),true)]
abbrev C73rs:List (Bool×List Rp):=[(false,[.v false .bool])]
noncomputable def C73kp:Keep:={ loop:=fun id=>match id with | _=>([],[]),join:=fun id=>match id with | _=>none }
noncomputable def C73c:Code:=bodyOf Go.Proofs.Tryz.f77
noncomputable def C73F (n:Nat):Fun:={ id:=77,sp:=C73sp,bs:=C73bs,rs:=C73rs,f:=fun x y=>C73 n x.1 y.1 }
theorem C73_eq (n:Nat) (a0:List (Int×Int)) (b0:Int):Z702 ([]) typ 8 n C73kp C73c Go.Proofs.Tryz.f77.results.toList C73rs C73sp C73bs (a0,((),())) (b0,())=C73 n a0 b0:=by
 refine Eq.trans (b:=C73_t n a0 b0) (by kernel_rfl) ?_
 rfl
theorem C73_ok (n:Nat):FunOk P (C73F n) :=
 Z308 (C:=[]) (N:=8) (kp:=C73kp) (c:=C73c) (n:=n) (G:=fun x y=>C73 n x.1 y.1) follows (AllOk.mem (trivial:AllOk P ([]))) (by kernel_rfl:P.funcs[77]?=some Go.Proofs.Tryz.f77) (by kernel_rfl) (by kernel_rfl) (by kernel_rfl)
  (fun x y=>C73_eq n x.1 y.1) (fun _ _=>Z489 (fun _=>rfl) _) (fun _ _ _ _=>rfl)
abbrev C4sp:List Sp:=[.v false (.list (.list tF)),.cl 77 [0]]
abbrev C4bs:List (Bs×Bool):=[(.var 3 (.int .i64),true)]
abbrev C4rs:List (Bool×List Rp):=[(false,[.v false (.int .i64)])]
noncomputable def C4kp:Keep:={ loop:=fun id=>match id with | 2=>([8,0,1,7],[]) | _=>([],[]),join:=fun id=>match id with | _=>none }
noncomputable def C4c:Code:=bodyOf Go.Proofs.Tryz.f102
noncomputable def C4F (n:Nat):Fun:={ id:=102,sp:=C4sp,bs:=C4bs,rs:=C4rs,f:=fun x y=>C4 n x.1 y.1 }
abbrev C4s2 (v8:Int) (v0:List (List (Int×Int))) (v7:Int) (b0:Int):St:={ env:=[(8,.one (.sc (.int .i64 v8))),(0,.one (.list true (.list tF) v0)),(1,.one (.clos 77 (0 :: []))),(7,.one (.sc (.int .i64 v7)))],bx:=[(0,.var 3 [.sc (.int .i64 b0)])],nx:=1 }
noncomputable abbrev C4k0 (n:Nat):=kAt ([C73F n]) ty 19 1 n C4kp C4c [1,0,1,0] [] (ending ty 1 Go.Proofs.Tryz.f102.results.toList C4rs C4bs)
theorem C4_l2_eq (n:Nat):∀ (k:Nat) (v8:Int) (v0:List (List (Int×Int))) (v7:Int) (b0:Int),iter (interp ([C73F n]) ty 19 1 n C4kp (codeAt C4c [1,0,1,0,0])) (canon 1 (C4kp.loop 2)) (C4k0 n) k (C4s2 v8 v0 v7 b0)=C4_l2 n k v8 v0 v7 b0
 | 0,_,_,_,_=>by kernel_rfl
 | k+1,v8,v0,v7,b0=>by
  refine Eq.trans (b:=C4_t2 n (fun v8 v0 v7 b0=>iter (interp ([C73F n]) ty 19 1 n C4kp (codeAt C4c [1,0,1,0,0])) (canon 1 (C4kp.loop 2)) (C4k0 n) k (C4s2 v8 v0 v7 b0)) v8 v0 v7 b0) (by kernel_rfl) ?_
  have e:=congrArg (fun g=>C4_t2 n g v8 v0 v7 b0) (funext fun v8=>funext fun v0=>funext fun v7=>funext fun b0=>C4_l2_eq n k v8 v0 v7 b0)
  exact e
theorem C4_eq (n:Nat) (a0:List (List (Int×Int))) (b0:Int):Z702 ([C73F n]) ty 19 n C4kp C4c Go.Proofs.Tryz.f102.results.toList C4rs C4sp C4bs (a0,((),())) (b0,())=C4 n a0 b0:=by
 refine Eq.trans (b:=C4_t n (fun k v8 v0 v7 b0=>iter (interp ([C73F n]) ty 19 1 n C4kp (codeAt C4c [1,0,1,0,0])) (canon 1 (C4kp.loop 2)) (C4k0 n) k (C4s2 v8 v0 v7 b0)) a0 b0) (by kernel_rfl) ?_
 have e:=congrArg (fun h2=>C4_t n h2 a0 b0) (funext fun k=>funext fun v8=>funext fun v0=>funext fun v7=>funext fun b0=>C4_l2_eq n k v8 v0 v7 b0)
 exact e
theorem C4_ok (n:Nat):FunOk P (C4F n) :=
 Z465 (C:=[C73F n]) (N:=19) (kp:=C4kp) (c:=C4c) (n:=n) (G:=fun x y=>C4 n x.1 y.1) follows (AllOk.mem (⟨C73_ok n,trivial⟩:AllOk P ([C73F n]))) (by kernel_rfl:P.funcs[102]?=some Go.Proofs.Tryz.f102) (by kernel_rfl) (by kernel_rfl) (by kernel_rfl)
  (fun x y=>C4_eq n x.1 y.1) (fun _ _=>Z489 (fun _=>rfl) _) (fun _ _ _ _=>rfl)
abbrev C2sp:List Sp:=[.v false (.list (.list tF)),.cl 77 [0]]
abbrev C2bs:List (Bs×Bool):=[(.var 3 (.int .i64),true)]
abbrev C2rs:List (Bool×List Rp):=[(false,[.v false .bool])]
noncomputable def C2kp:Keep:={ loop:=fun id=>match id with | _=>([],[]),join:=fun id=>match id with | _=>none }
noncomputable def C2c:Code:=bodyOf Go.Proofs.Tryz.f76
noncomputable def C2F (n:Nat):Fun:={ id:=76,sp:=C2sp,bs:=C2bs,rs:=C2rs,f:=fun x y=>C2 n x.1 y.1 }
theorem C2_eq (n:Nat) (a0:List (List (Int×Int))) (b0:Int):Z702 ([C4F n]) ty 9 n C2kp C2c Go.Proofs.Tryz.f76.results.toList C2rs C2sp C2bs (a0,((),())) (b0,())=C2 n a0 b0:=by
 refine Eq.trans (b:=C2_t n a0 b0) (by kernel_rfl) ?_
 rfl
theorem C2_ok (n:Nat):FunOk P (C2F n) :=
 Z465 (C:=[C4F n]) (N:=9) (kp:=C2kp) (c:=C2c) (n:=n) (G:=fun x y=>C2 n x.1 y.1) follows (AllOk.mem (⟨C4_ok n,trivial⟩:AllOk P ([C4F n]))) (by kernel_rfl:P.funcs[76]?=some Go.Proofs.Tryz.f76) (by kernel_rfl) (by kernel_rfl) (by kernel_rfl)
  (fun x y=>C2_eq n x.1 y.1) (fun _ _=>Z489 (fun _=>rfl) _) (fun _ _ _ _=>rfl)
abbrev C118sp:List Sp:=[.v false (.list (.list tF)),.v false (.list tF)]
abbrev C118bs:List (Bs×Bool):=[]
abbrev C118rs:List (Bool×List Rp):=[(false,[.new  tF]),(false,[.v false (.int .i64)])]
noncomputable def C118kp:Keep:={ loop:=fun id=>match id with | 2=>([20,18,1,0,19],[]) | 12=>([54,9,11,10,8,53],[]) | 20=>([70,10,11,9,69],[]) | _=>([],[]),join:=fun id=>match id with | _=>none }
noncomputable def C118c:Code:=bodyOf Go.Proofs.Tryz.f37
noncomputable def C118F (n:Nat):Fun:={ id:=37,sp:=C118sp,bs:=C118bs,rs:=C118rs,f:=fun x y=>C118 n x.1 x.2.1 }
noncomputable abbrev C118cs (n:Nat):List Fun:=[C240F n,C233F n,C2F n,C23F n,C51F n,C235F n]
abbrev C118s20 (v70:Int) (v69:Int) (b0p:List Nat) (b0i:List (List (Int×Int))) (b1:List (Int×Int)) (b2:Bool):St:={ env:=[(70,.one (.sc (.int .i64 v70))),(10,.one (.slice 0 0 none)),(11,.one (.slice 1 0 none)),(9,.one (.ref 2 0 0 0 0 0)),(69,.one (.sc (.int .i64 v69)))],bx:=[(0,.pool 0 tF b0p b0i),(1,.row 0 tF b1),(2,.var 77 [.sc (.bool b2)])],nx:=3 }
abbrev C118s12 (v54:Int) (v53:Int) (b0:Bool) (b1:List (Int×Int)) (b2p:List Nat) (b2i:List (List (Int×Int))) (b3:Int):St:={ env:=[(54,.one (.sc (.int .i64 v54))),(9,.one (.ref 0 0 0 0 0 0)),(11,.one (.slice 1 0 none)),(10,.one (.slice 2 0 none)),(8,.one (.ref 3 0 0 0 0 0)),(53,.one (.sc (.int .i64 v53)))],bx:=[(0,.var 77 [.sc (.bool b0)]),(1,.row 0 tF b1),(2,.pool 0 tF b2p b2i),(3,.var 3 [.sc (.int .i64 b3)])],nx:=4 }
abbrev C118s2 (v20:Int) (v18:List (List (Int×Int))) (v1:List (Int×Int)) (v0:List (List (Int×Int))) (v19:Int):St:={ env:=[(20,.one (.sc (.int .i64 v20))),(18,.one (.list true (.list tF) v18)),(1,.one (.list true tF v1)),(0,.one (.list true (.list tF) v0)),(19,.one (.sc (.int .i64 v19)))],bx:=[],nx:=0 }
noncomputable abbrev C118k0 (n:Nat):=kAt (C118cs n) typ 95 0 n C118kp C118c [1,1,1,1,1,1,0,1,0] [] (ending typ 0 Go.Proofs.Tryz.f37.results.toList C118rs C118bs)
noncomputable abbrev C118k1 (n:Nat):=kAt (C118cs n) typ 95 0 n C118kp C118c [1,1,1,1,1,0,1,0] [] (ending typ 0 Go.Proofs.Tryz.f37.results.toList C118rs C118bs)
noncomputable abbrev C118k2 (n:Nat):=kAt (C118cs n) typ 95 0 n C118kp C118c [1,0,1,0] [] (ending typ 0 Go.Proofs.Tryz.f37.results.toList C118rs C118bs)
theorem C118_l20_eq (n:Nat):∀ (k:Nat) (v70:Int) (v69:Int) (b0p:List Nat) (b0i:List (List (Int×Int))) (b1:List (Int×Int)) (b2:Bool),iter (interp (C118cs n) typ 95 0 n C118kp (codeAt C118c [1,1,1,1,1,1,0,1,0,0])) (canon 0 (C118kp.loop 20)) (C118k0 n) k (C118s20 v70 v69 b0p b0i b1 b2)=C118_l20 n k v70 v69 b0p b0i b1 b2
 | 0,_,_,_,_,_,_=>by kernel_rfl
 | k+1,v70,v69,b0p,b0i,b1,b2=>by
  refine Eq.trans (b:=C118_t20 n (fun v70 v69 b0p b0i b1 b2=>iter (interp (C118cs n) typ 95 0 n C118kp (codeAt C118c [1,1,1,1,1,1,0,1,0,0])) (canon 0 (C118kp.loop 20)) (C118k0 n) k (C118s20 v70 v69 b0p b0i b1 b2)) v70 v69 b0p b0i b1 b2) (by kernel_rfl) ?_
  have e:=congrArg (fun g=>C118_t20 n g v70 v69 b0p b0i b1 b2) (funext fun v70=>funext fun v69=>funext fun b0p=>funext fun b0i=>funext fun b1=>funext fun b2=>C118_l20_eq n k v70 v69 b0p b0i b1 b2)
  exact e
theorem C118_l12_eq (n:Nat):∀ (k:Nat) (v54:Int) (v53:Int) (b0:Bool) (b1:List (Int×Int)) (b2p:List Nat) (b2i:List (List (Int×Int))) (b3:Int),iter (interp (C118cs n) typ 95 0 n C118kp (codeAt C118c [1,1,1,1,1,0,1,0,0])) (canon 0 (C118kp.loop 12)) (C118k1 n) k (C118s12 v54 v53 b0 b1 b2p b2i b3)=C118_l12 n k v54 v53 b0 b1 b2p b2i b3
 | 0,_,_,_,_,_,_,_=>by kernel_rfl
 | k+1,v54,v53,b0,b1,b2p,b2i,b3=>by
  refine Eq.trans (b:=C118_t12 n (fun k' v70 v69 b0p b0i b1 b2=>iter (interp (C118cs n) typ 95 0 n C118kp (codeAt C118c [1,1,1,1,1,1,0,1,0,0])) (canon 0 (C118kp.loop 20)) (C118k0 n) k' (C118s20 v70 v69 b0p b0i b1 b2)) (fun v54 v53 b0 b1 b2p b2i b3=>iter (interp (C118cs n) typ 95 0 n C118kp (codeAt C118c [1,1,1,1,1,0,1,0,0])) (canon 0 (C118kp.loop 12)) (C118k1 n) k (C118s12 v54 v53 b0 b1 b2p b2i b3)) v54 v53 b0 b1 b2p b2i b3) (by kernel_rfl) ?_
  have e:=congr (congrArg (fun h20 g=>C118_t12 n h20 g v54 v53 b0 b1 b2p b2i b3) (funext fun k'=>funext fun v70=>funext fun v69=>funext fun b0p=>funext fun b0i=>funext fun b1=>funext fun b2=>C118_l20_eq n k' v70 v69 b0p b0i b1 b2)) (funext fun v54=>funext fun v53=>funext fun b0=>funext fun b1=>funext fun b2p=>funext fun b2i=>funext fun b3=>C118_l12_eq n k v54 v53 b0 b1 b2p b2i b3)
  exact e
theorem C118_l2_eq (n:Nat):∀ (k:Nat) (v20:Int) (v18:List (List (Int×Int))) (v1:List (Int×Int)) (v0:List (List (Int×Int))) (v19:Int),iter (interp (C118cs n) typ 95 0 n C118kp (codeAt C118c [1,0,1,0,0])) (canon 0 (C118kp.loop 2)) (C118k2 n) k (C118s2 v20 v18 v1 v0 v19)=C118_l2 n k v20 v18 v1 v0 v19
 | 0,_,_,_,_,_=>by kernel_rfl
 | k+1,v20,v18,v1,v0,v19=>by
  refine Eq.trans (b:=C118_t2 n (fun k' v54 v53 b0 b1 b2p b2i b3=>iter (interp (C118cs n) typ 95 0 n C118kp (codeAt C118c [1,1,1,1,1,0,1,0,0])) (canon 0 (C118kp.loop 12)) (C118k1 n) k' (C118s12 v54 v53 b0 b1 b2p b2i b3)) (fun v20 v18 v1 v0 v19=>iter (interp (C118cs n) typ 95 0 n C118kp (codeAt C118c [1,0,1,0,0])) (canon 0 (C118kp.loop 2)) (C118k2 n) k (C118s2 v20 v18 v1 v0 v19)) v20 v18 v1 v0 v19) (by kernel_rfl) ?_
  have e:=congr (congrArg (fun h12 g=>C118_t2 n h12 g v20 v18 v1 v0 v19) (funext fun k'=>funext fun v54=>funext fun v53=>funext fun b0=>funext fun b1=>funext fun b2p=>funext fun b2i=>funext fun b3=>C118_l12_eq n k' v54 v53 b0 b1 b2p b2i b3)) (funext fun v20=>funext fun v18=>funext fun v1=>funext fun v0=>funext fun v19=>C118_l2_eq n k v20 v18 v1 v0 v19)
  exact e
theorem C118_eq (n:Nat) (a0:List (List (Int×Int))) (a1:List (Int×Int)):Z702 (C118cs n) typ 95 n C118kp C118c Go.Proofs.Tryz.f37.results.toList C118rs C118sp C118bs (a0,(a1,())) ()=C118 n a0 a1:=by
 refine Eq.trans (b:=C118_t n (fun k v20 v18 v1 v0 v19=>iter (interp (C118cs n) typ 95 0 n C118kp (codeAt C118c [1,0,1,0,0])) (canon 0 (C118kp.loop 2)) (C118k2 n) k (C118s2 v20 v18 v1 v0 v19)) a0 a1) (by kernel_rfl) ?_
 have e:=congrArg (fun h2=>C118_t n h2 a0 a1) (funext fun k=>funext fun v20=>funext fun v18=>funext fun v1=>funext fun v0=>funext fun v19=>C118_l2_eq n k v20 v18 v1 v0 v19)
 exact e
theorem C118_ok (n:Nat):FunOk P (C118F n) :=
 Z308 (C:=[C240F n,C233F n,C2F n,C23F n,C51F n,C235F n]) (N:=95) (kp:=C118kp) (c:=C118c) (n:=n) (G:=fun x y=>C118 n x.1 x.2.1) follows (AllOk.mem (⟨C240_ok n,⟨C233_ok n,⟨C2_ok n,⟨C23_ok n,⟨C51_ok n,⟨C235_ok n,trivial⟩⟩⟩⟩⟩⟩:AllOk P ([C240F n,C233F n,C2F n,C23F n,C51F n,C235F n]))) (by kernel_rfl:P.funcs[37]?=some Go.Proofs.Tryz.f37) (by kernel_rfl) (by kernel_rfl) (by kernel_rfl)
  (fun x y=>C118_eq n x.1 x.2.1) (fun _ _=>Z489 (fun _=>rfl) _) (fun _ _ _ _=>rfl)
abbrev C58sp:List Sp:=[.v true (.pair (.int .i64) (.pair (.list tO) (.pair .bool tF)))]
abbrev C58bs:List (Bs×Bool):=[]
abbrev C58rs:List (Bool×List Rp):=[(false,[.new  tF]),(false,[.v false (.int .i64)])]
noncomputable def C58kp:Keep:={ loop:=fun id=>match id with | _=>([],[]),join:=fun id=>match id with | _=>none }
noncomputable def C58c:Code:=bodyOf Go.Proofs.Tryz.f9
noncomputable def C58F (n:Nat):Fun:={ id:=9,sp:=C58sp,bs:=C58bs,rs:=C58rs,f:=fun x y=>C58 n x.1 }
theorem C58_eq (n:Nat) (a0:(Int)×((List OB9)×((Bool)×(Int×Int)))):Z702 ([C225F n,C118F n,C23F n]) typ 31 n C58kp C58c Go.Proofs.Tryz.f9.results.toList C58rs C58sp C58bs (a0,()) ()=C58 n a0:=by
 refine Eq.trans (b:=C58_t n a0) (by kernel_rfl) ?_
 rfl
theorem C58_ok (n:Nat):FunOk P (C58F n) :=
 Z308 (C:=[C225F n,C118F n,C23F n]) (N:=31) (kp:=C58kp) (c:=C58c) (n:=n) (G:=fun x y=>C58 n x.1) follows (AllOk.mem (⟨C225_ok n,⟨C118_ok n,⟨C23_ok n,trivial⟩⟩⟩:AllOk P ([C225F n,C118F n,C23F n]))) (by kernel_rfl:P.funcs[9]?=some Go.Proofs.Tryz.f9) (by kernel_rfl) (by kernel_rfl) (by kernel_rfl)
  (fun x y=>C58_eq n x.1) (fun _ _=>Z489 (fun _=>rfl) _) (fun _ _ _ _=>rfl)
abbrev C354sp:List Sp:=[.v true (.pair (.int .i64) (.pair (.list tO) (.pair .bool tF)))]
abbrev C354bs:List (Bs×Bool):=[]
abbrev C354rs:List (Bool×List Rp):=[(false,[.v false (.int .i64)]),(false,[.v false (.int .i64)])]
noncomputable def C354kp:Keep:={ loop:=fun id=>match id with | 6=>([23,7,8,5,4,22],[]) | _=>([],[]),join:=fun id=>match id with | _=>none }
noncomputable def C354c:Code:=bodyOf Go.Proofs.Tryz.f11
noncomputable def C354F (n:Nat):Fun:={ id:=11,sp:=C354sp,bs:=C354bs,rs:=C354rs,f:=fun x y=>C354 n x.1 }
noncomputable abbrev C354cs (n:Nat):List Fun:=[C225F n,C51F n]
abbrev C354s6 (v23:Int) (v8:Int) (v22:Int) (b0:Bool) (b1:List (Int×Int)) (b2p:List Nat) (b2i:List (List (Int×Int))):St:={ env:=[(23,.one (.sc (.int .i64 v23))),(7,.one (.ref 0 0 0 0 0 0)),(8,.one (.sc (.int .i64 v8))),(5,.one (.slice 1 0 none)),(4,.one (.slice 2 0 none)),(22,.one (.sc (.int .i64 v22)))],bx:=[(0,.var 77 [.sc (.bool b0)]),(1,.row 0 tF b1),(2,.pool 0 tF b2p b2i)],nx:=3 }
noncomputable abbrev C354k0 (n:Nat):=kAt (C354cs n) typ 43 0 n C354kp C354c [1,1,1,1,0,1,0] [] (ending typ 0 Go.Proofs.Tryz.f11.results.toList C354rs C354bs)
theorem C354_l6_eq (n:Nat):∀ (k:Nat) (v23:Int) (v8:Int) (v22:Int) (b0:Bool) (b1:List (Int×Int)) (b2p:List Nat) (b2i:List (List (Int×Int))),iter (interp (C354cs n) typ 43 0 n C354kp (codeAt C354c [1,1,1,1,0,1,0,0])) (canon 0 (C354kp.loop 6)) (C354k0 n) k (C354s6 v23 v8 v22 b0 b1 b2p b2i)=C354_l6 n k v23 v8 v22 b0 b1 b2p b2i
 | 0,_,_,_,_,_,_,_=>by kernel_rfl
 | k+1,v23,v8,v22,b0,b1,b2p,b2i=>by
  refine Eq.trans (b:=C354_t6 n (fun v23 v8 v22 b0 b1 b2p b2i=>iter (interp (C354cs n) typ 43 0 n C354kp (codeAt C354c [1,1,1,1,0,1,0,0])) (canon 0 (C354kp.loop 6)) (C354k0 n) k (C354s6 v23 v8 v22 b0 b1 b2p b2i)) v23 v8 v22 b0 b1 b2p b2i) (by kernel_rfl) ?_
  have e:=congrArg (fun g=>C354_t6 n g v23 v8 v22 b0 b1 b2p b2i) (funext fun v23=>funext fun v8=>funext fun v22=>funext fun b0=>funext fun b1=>funext fun b2p=>funext fun b2i=>C354_l6_eq n k v23 v8 v22 b0 b1 b2p b2i)
  exact e
theorem C354_eq (n:Nat) (a0:(Int)×((List OB9)×((Bool)×(Int×Int)))):Z702 (C354cs n) typ 43 n C354kp C354c Go.Proofs.Tryz.f11.results.toList C354rs C354sp C354bs (a0,()) ()=C354 n a0:=by
 refine Eq.trans (b:=C354_t n (fun k v23 v8 v22 b0 b1 b2p b2i=>iter (interp (C354cs n) typ 43 0 n C354kp (codeAt C354c [1,1,1,1,0,1,0,0])) (canon 0 (C354kp.loop 6)) (C354k0 n) k (C354s6 v23 v8 v22 b0 b1 b2p b2i)) a0) (by kernel_rfl) ?_
 have e:=congrArg (fun h6=>C354_t n h6 a0) (funext fun k=>funext fun v23=>funext fun v8=>funext fun v22=>funext fun b0=>funext fun b1=>funext fun b2p=>funext fun b2i=>C354_l6_eq n k v23 v8 v22 b0 b1 b2p b2i)
 exact e
theorem C354_ok (n:Nat):FunOk P (C354F n) :=
 Z308 (C:=[C225F n,C51F n]) (N:=43) (kp:=C354kp) (c:=C354c) (n:=n) (G:=fun x y=>C354 n x.1) follows (AllOk.mem (⟨C225_ok n,⟨C51_ok n,trivial⟩⟩:AllOk P ([C225F n,C51F n]))) (by kernel_rfl:P.funcs[11]?=some Go.Proofs.Tryz.f11) (by kernel_rfl) (by kernel_rfl) (by kernel_rfl)
  (fun x y=>C354_eq n x.1) (fun _ _=>Z489 (fun _=>rfl) _) (fun _ _ _ _=>rfl)
abbrev C123sp:List Sp:=[.v true (.pair (.int .i64) (.pair (.list tO) (.pair .bool tF))),.v false (.list tF)]
abbrev C123bs:List (Bs×Bool):=[]
abbrev C123rs:List (Bool×List Rp):=[(false,[.v false (.int .i64)])]
noncomputable def C123kp:Keep:={ loop:=fun id=>match id with | _=>([],[]),join:=fun id=>match id with | _=>none }
noncomputable def C123c:Code:=bodyOf Go.Proofs.Tryz.f48
noncomputable def C123F (n:Nat):Fun:={ id:=48,sp:=C123sp,bs:=C123bs,rs:=C123rs,f:=fun x y=>C123 n x.1 x.2.1 }
theorem C123_eq (n:Nat) (a0:(Int)×((List OB9)×((Bool)×(Int×Int)))) (a1:List (Int×Int)):Z702 ([C121F n,C233F n]) ty 20 n C123kp C123c Go.Proofs.Tryz.f48.results.toList C123rs C123sp C123bs (a0,(a1,())) ()=C123 n a0 a1:=by
 refine Eq.trans (b:=C123_t n a0 a1) (by kernel_rfl) ?_
 rfl
theorem C123_ok (n:Nat):FunOk P (C123F n) :=
 Z465 (C:=[C121F n,C233F n]) (N:=20) (kp:=C123kp) (c:=C123c) (n:=n) (G:=fun x y=>C123 n x.1 x.2.1) follows (AllOk.mem (⟨C121_ok n,⟨C233_ok n,trivial⟩⟩:AllOk P ([C121F n,C233F n]))) (by kernel_rfl:P.funcs[48]?=some Go.Proofs.Tryz.f48) (by kernel_rfl) (by kernel_rfl) (by kernel_rfl)
  (fun x y=>C123_eq n x.1 x.2.1) (fun _ _=>Z489 (fun _=>rfl) _) (fun _ _ _ _=>rfl)
abbrev C239sp:List Sp:=[.ref 0,.v false (.list tF)]
abbrev C239bs:List (Bs×Bool):=[(.var 77 .bool,true)]
abbrev C239rs:List (Bool×List Rp):=[(true,[.v false tF])]
noncomputable def C239kp:Keep:={ loop:=fun id=>match id with | 3=>([11,5,0,9,4,10],[]) | _=>([],[]),join:=fun id=>match id with | _=>none }
noncomputable def C239c:Code:=bodyOf Go.Proofs.Tryz.f52
noncomputable def C239F (n:Nat):Fun:={ id:=52,sp:=C239sp,bs:=C239bs,rs:=C239rs,f:=fun x y=>C239 n x.2.1 y.1 }
noncomputable abbrev C239cs (n:Nat):List Fun:=[C426F n,C234F n]
abbrev C239s3 (v11:Int) (v9:List (Int×Int)) (v10:Int) (b0:Bool) (b1_0:Int) (b1_1:Int) (b2_0:Int) (b2_1:Int):St:={ env:=[(11,.one (.sc (.int .i64 v11))),(5,.one (.ref 1 0 0 0 0 0)),(0,.one (.ref 0 0 0 0 0 0)),(9,.one (.list true tF v9)),(4,.one (.ref 2 0 0 0 0 0)),(10,.one (.sc (.int .i64 v10)))],bx:=[(0,.var 77 [.sc (.bool b0)]),(1,.var 26 [.sc (.int .i64 b1_0),.sc (.int .i64 b1_1)]),(2,.var 26 [.sc (.int .i64 b2_0),.sc (.int .i64 b2_1)])],nx:=3 }
noncomputable abbrev C239k0 (n:Nat):=kAt (C239cs n) ty 21 1 n C239kp C239c [1,1,0,1,0] [] (ending ty 1 Go.Proofs.Tryz.f52.results.toList C239rs C239bs)
theorem C239_l3_eq (n:Nat):∀ (k:Nat) (v11:Int) (v9:List (Int×Int)) (v10:Int) (b0:Bool) (b1_0:Int) (b1_1:Int) (b2_0:Int) (b2_1:Int),iter (interp (C239cs n) ty 21 1 n C239kp (codeAt C239c [1,1,0,1,0,0])) (canon 1 (C239kp.loop 3)) (C239k0 n) k (C239s3 v11 v9 v10 b0 b1_0 b1_1 b2_0 b2_1)=C239_l3 n k v11 v9 v10 b0 b1_0 b1_1 b2_0 b2_1
 | 0,_,_,_,_,_,_,_,_=>by kernel_rfl
 | k+1,v11,v9,v10,b0,b1_0,b1_1,b2_0,b2_1=>by
  refine Eq.trans (b:=C239_t3 n (fun v11 v9 v10 b0 b1_0 b1_1 b2_0 b2_1=>iter (interp (C239cs n) ty 21 1 n C239kp (codeAt C239c [1,1,0,1,0,0])) (canon 1 (C239kp.loop 3)) (C239k0 n) k (C239s3 v11 v9 v10 b0 b1_0 b1_1 b2_0 b2_1)) v11 v9 v10 b0 b1_0 b1_1 b2_0 b2_1) (by kernel_rfl) ?_
  have e:=congrArg (fun g=>C239_t3 n g v11 v9 v10 b0 b1_0 b1_1 b2_0 b2_1) (funext fun v11=>funext fun v9=>funext fun v10=>funext fun b0=>funext fun b1_0=>funext fun b1_1=>funext fun b2_0=>funext fun b2_1=>C239_l3_eq n k v11 v9 v10 b0 b1_0 b1_1 b2_0 b2_1)
  exact e
theorem C239_eq (n:Nat) (a1:List (Int×Int)) (b0:Bool):Z702 (C239cs n) ty 21 n C239kp C239c Go.Proofs.Tryz.f52.results.toList C239rs C239sp C239bs ((),(a1,())) (b0,())=C239 n a1 b0:=by
 refine Eq.trans (b:=C239_t n (fun k v11 v9 v10 b0 b1_0 b1_1 b2_0 b2_1=>iter (interp (C239cs n) ty 21 1 n C239kp (codeAt C239c [1,1,0,1,0,0])) (canon 1 (C239kp.loop 3)) (C239k0 n) k (C239s3 v11 v9 v10 b0 b1_0 b1_1 b2_0 b2_1)) a1 b0) (by kernel_rfl) ?_
 have e:=congrArg (fun h3=>C239_t n h3 a1 b0) (funext fun k=>funext fun v11=>funext fun v9=>funext fun v10=>funext fun b0=>funext fun b1_0=>funext fun b1_1=>funext fun b2_0=>funext fun b2_1=>C239_l3_eq n k v11 v9 v10 b0 b1_0 b1_1 b2_0 b2_1)
 exact e
theorem C239_ok (n:Nat):FunOk P (C239F n) :=
 Z465 (C:=[C426F n,C234F n]) (N:=21) (kp:=C239kp) (c:=C239c) (n:=n) (G:=fun x y=>C239 n x.2.1 y.1) follows (AllOk.mem (⟨C426_ok n,⟨C234_ok n,trivial⟩⟩:AllOk P ([C426F n,C234F n]))) (by kernel_rfl:P.funcs[52]?=some Go.Proofs.Tryz.f52) (by kernel_rfl) (by kernel_rfl) (by kernel_rfl)
  (fun x y=>C239_eq n x.2.1 y.1) (fun _ _=>Z489 (fun _=>rfl) _) (fun _ _ _ _=>rfl)
abbrev C296sp:List Sp:=[.v true (.pair (.int .i64) (.pair (.list tO) (.pair .bool tF))),.v false (.list tF)]
abbrev C296bs:List (Bs×Bool):=[]
abbrev C296rs:List (Bool×List Rp):=[(false,[.v false .bool]),(false,[.v false (.int .i64)])]
noncomputable def C296kp:Keep:={ loop:=fun id=>match id with | 8=>([8,7,33,2,10,11,1,9,32],[]) | 12=>([42,13,12,8,7,40,2,1,9,32,33,10,11,41],[]) | _=>([],[]),join:=fun id=>match id with | _=>none }
noncomputable def C296c:Code:=bodyOf Go.Proofs.Tryz.f17
noncomputable def C296F (n:Nat):Fun:={ id:=17,sp:=C296sp,bs:=C296bs,rs:=C296rs,f:=fun x y=>C296 n x.1 x.2.1 }
noncomputable abbrev C296cs (n:Nat):List Fun:=[C123F n,C95F n,C236F n,C238F n,C239F n]
abbrev C296s12 (v42:Int) (v12:Int) (v40:List (Int×Int)) (v1:List (Int×Int)) (v32:Int) (v33:Int) (v10:Bool) (v41:Int) (b0_0:Int) (b0_1:Int) (b1p:List Nat) (b1i:List (List (Int×Int))) (b2:Bool) (b3_0:Int) (b3_1:List OB9) (b3_2:Bool) (b3_3:Int) (b3_4:Int) (b4:List (Int×Int)) (b5:List (Int×Int)):St:={ env:=[(42,.one (.sc (.int .i64 v42))),(13,.one (.ref 0 0 0 0 0 0)),(12,.one (.sc (.int .i64 v12))),(8,.one (.slice 1 0 none)),(7,.one (.ref 2 0 0 0 0 0)),(40,.one (.list true tF v40)),(2,.one (.ref 3 0 0 0 0 0)),(1,.one (.list true tF v1)),(9,.one (.slice 4 0 none)),(32,.one (.sc (.int .i64 v32))),(33,.one (.sc (.int .i64 v33))),(10,.one (.sc (.bool v10))),(11,.one (.slice 5 0 none)),(41,.one (.sc (.int .i64 v41)))],bx:=[(0,.var 26 [.sc (.int .i64 b0_0),.sc (.int .i64 b0_1)]),(1,.pool 0 tF b1p b1i),(2,.var 77 [.sc (.bool b2)]),(3,.var 28 [.sc (.int .i64 b3_0),.list true tO b3_1,.sc (.bool b3_2),.sc (.int .i64 b3_3),.sc (.int .i64 b3_4)]),(4,.row 0 tF b4),(5,.row 0 tF b5)],nx:=6 }
abbrev C296s8 (v33:Int) (v10:Bool) (v1:List (Int×Int)) (v32:Int) (b0p:List Nat) (b0i:List (List (Int×Int))) (b1:Bool) (b2_0:Int) (b2_1:List OB9) (b2_2:Bool) (b2_3:Int) (b2_4:Int) (b3:List (Int×Int)) (b4:List (Int×Int)):St:={ env:=[(8,.one (.slice 0 0 none)),(7,.one (.ref 1 0 0 0 0 0)),(33,.one (.sc (.int .i64 v33))),(2,.one (.ref 2 0 0 0 0 0)),(10,.one (.sc (.bool v10))),(11,.one (.slice 3 0 none)),(1,.one (.list true tF v1)),(9,.one (.slice 4 0 none)),(32,.one (.sc (.int .i64 v32)))],bx:=[(0,.pool 0 tF b0p b0i),(1,.var 77 [.sc (.bool b1)]),(2,.var 28 [.sc (.int .i64 b2_0),.list true tO b2_1,.sc (.bool b2_2),.sc (.int .i64 b2_3),.sc (.int .i64 b2_4)]),(3,.row 0 tF b3),(4,.row 0 tF b4)],nx:=5 }
noncomputable abbrev C296k0 (n:Nat):=kAt (C296cs n) typ 99 0 n C296kp C296c [1,1,1,1,1,0,1,0] [] (ending typ 0 Go.Proofs.Tryz.f17.results.toList C296rs C296bs)
theorem C296_l12_eq (n:Nat) (G8:St→Option ((((Bool)×(Unit))×(((Int)×(Unit))×(Unit)))×(Unit))):∀ (k:Nat) (v42:Int) (v12:Int) (v40:List (Int×Int)) (v1:List (Int×Int)) (v32:Int) (v33:Int) (v10:Bool) (v41:Int) (b0_0:Int) (b0_1:Int) (b1p:List Nat) (b1i:List (List (Int×Int))) (b2:Bool) (b3_0:Int) (b3_1:List OB9) (b3_2:Bool) (b3_3:Int) (b3_4:Int) (b4:List (Int×Int)) (b5:List (Int×Int)),iter (interp (C296cs n) typ 99 0 n C296kp (codeAt C296c [1,1,1,1,1,0,1,0,0,1,1,0,0,1,1,0,1,0,0])) (canon 0 (C296kp.loop 12)) (kAt (C296cs n) typ 99 0 n C296kp C296c [1,1,1,1,1,0,1,0,0,1,1,0,0,1,1,0,1,0] [G8] (ending typ 0 Go.Proofs.Tryz.f17.results.toList C296rs C296bs)) k (C296s12 v42 v12 v40 v1 v32 v33 v10 v41 b0_0 b0_1 b1p b1i b2 b3_0 b3_1 b3_2 b3_3 b3_4 b4 b5)=C296_l12 n (fun v33 v10 v1 v32 b0p b0i b1 b2_0 b2_1 b2_2 b2_3 b2_4 b3 b4=>G8 (C296s8 v33 v10 v1 v32 b0p b0i b1 b2_0 b2_1 b2_2 b2_3 b2_4 b3 b4)) k v42 v12 v40 v1 v32 v33 v10 v41 b0_0 b0_1 b1p b1i b2 b3_0 b3_1 b3_2 b3_3 b3_4 b4 b5
 | 0,_,_,_,_,_,_,_,_,_,_,_,_,_,_,_,_,_,_,_,_=>by kernel_rfl
 | k+1,v42,v12,v40,v1,v32,v33,v10,v41,b0_0,b0_1,b1p,b1i,b2,b3_0,b3_1,b3_2,b3_3,b3_4,b4,b5=>by
  refine Eq.trans (b:=C296_t12 n (fun v33 v10 v1 v32 b0p b0i b1 b2_0 b2_1 b2_2 b2_3 b2_4 b3 b4=>G8 (C296s8 v33 v10 v1 v32 b0p b0i b1 b2_0 b2_1 b2_2 b2_3 b2_4 b3 b4)) (fun v42 v12 v40 v1 v32 v33 v10 v41 b0_0 b0_1 b1p b1i b2 b3_0 b3_1 b3_2 b3_3 b3_4 b4 b5=>iter (interp (C296cs n) typ 99 0 n C296kp (codeAt C296c [1,1,1,1,1,0,1,0,0,1,1,0,0,1,1,0,1,0,0])) (canon 0 (C296kp.loop 12)) (kAt (C296cs n) typ 99 0 n C296kp C296c [1,1,1,1,1,0,1,0,0,1,1,0,0,1,1,0,1,0] [G8] (ending typ 0 Go.Proofs.Tryz.f17.results.toList C296rs C296bs)) k (C296s12 v42 v12 v40 v1 v32 v33 v10 v41 b0_0 b0_1 b1p b1i b2 b3_0 b3_1 b3_2 b3_3 b3_4 b4 b5)) v42 v12 v40 v1 v32 v33 v10 v41 b0_0 b0_1 b1p b1i b2 b3_0 b3_1 b3_2 b3_3 b3_4 b4 b5) (by kernel_rfl) ?_
  have e:=congrArg (fun g=>C296_t12 n (fun v33 v10 v1 v32 b0p b0i b1 b2_0 b2_1 b2_2 b2_3 b2_4 b3 b4=>G8 (C296s8 v33 v10 v1 v32 b0p b0i b1 b2_0 b2_1 b2_2 b2_3 b2_4 b3 b4)) g v42 v12 v40 v1 v32 v33 v10 v41 b0_0 b0_1 b1p b1i b2 b3_0 b3_1 b3_2 b3_3 b3_4 b4 b5) (funext fun v42=>funext fun v12=>funext fun v40=>funext fun v1=>funext fun v32=>funext fun v33=>funext fun v10=>funext fun v41=>funext fun b0_0=>funext fun b0_1=>funext fun b1p=>funext fun b1i=>funext fun b2=>funext fun b3_0=>funext fun b3_1=>funext fun b3_2=>funext fun b3_3=>funext fun b3_4=>funext fun b4=>funext fun b5=>C296_l12_eq n G8 k v42 v12 v40 v1 v32 v33 v10 v41 b0_0 b0_1 b1p b1i b2 b3_0 b3_1 b3_2 b3_3 b3_4 b4 b5)
  exact e
theorem C296_l8_eq (n:Nat):∀ (k:Nat) (v33:Int) (v10:Bool) (v1:List (Int×Int)) (v32:Int) (b0p:List Nat) (b0i:List (List (Int×Int))) (b1:Bool) (b2_0:Int) (b2_1:List OB9) (b2_2:Bool) (b2_3:Int) (b2_4:Int) (b3:List (Int×Int)) (b4:List (Int×Int)),iter (interp (C296cs n) typ 99 0 n C296kp (codeAt C296c [1,1,1,1,1,0,1,0,0])) (canon 0 (C296kp.loop 8)) (C296k0 n) k (C296s8 v33 v10 v1 v32 b0p b0i b1 b2_0 b2_1 b2_2 b2_3 b2_4 b3 b4)=C296_l8 n k v33 v10 v1 v32 b0p b0i b1 b2_0 b2_1 b2_2 b2_3 b2_4 b3 b4
 | 0,_,_,_,_,_,_,_,_,_,_,_,_,_,_=>by kernel_rfl
 | k+1,v33,v10,v1,v32,b0p,b0i,b1,b2_0,b2_1,b2_2,b2_3,b2_4,b3,b4=>by
  refine Eq.trans (b:=C296_t8 n (fun k' v42 v12 v40 v1 v32 v33 v10 v41 b0_0 b0_1 b1p b1i b2 b3_0 b3_1 b3_2 b3_3 b3_4 b4 b5=>iter (interp (C296cs n) typ 99 0 n C296kp (codeAt C296c [1,1,1,1,1,0,1,0,0,1,1,0,0,1,1,0,1,0,0])) (canon 0 (C296kp.loop 12)) (kAt (C296cs n) typ 99 0 n C296kp C296c [1,1,1,1,1,0,1,0,0,1,1,0,0,1,1,0,1,0] [(fun s=>iter (interp (C296cs n) typ 99 0 n C296kp (codeAt C296c [1,1,1,1,1,0,1,0,0])) (canon 0 (C296kp.loop 8)) (C296k0 n) k s)] (ending typ 0 Go.Proofs.Tryz.f17.results.toList C296rs C296bs)) k' (C296s12 v42 v12 v40 v1 v32 v33 v10 v41 b0_0 b0_1 b1p b1i b2 b3_0 b3_1 b3_2 b3_3 b3_4 b4 b5)) (fun v33 v10 v1 v32 b0p b0i b1 b2_0 b2_1 b2_2 b2_3 b2_4 b3 b4=>iter (interp (C296cs n) typ 99 0 n C296kp (codeAt C296c [1,1,1,1,1,0,1,0,0])) (canon 0 (C296kp.loop 8)) (C296k0 n) k (C296s8 v33 v10 v1 v32 b0p b0i b1 b2_0 b2_1 b2_2 b2_3 b2_4 b3 b4)) v33 v10 v1 v32 b0p b0i b1 b2_0 b2_1 b2_2 b2_3 b2_4 b3 b4) (by kernel_rfl) ?_
  have e:=congr (congrArg (fun h12 g=>C296_t8 n h12 g v33 v10 v1 v32 b0p b0i b1 b2_0 b2_1 b2_2 b2_3 b2_4 b3 b4) ((funext fun k'=>funext fun v42=>funext fun v12=>funext fun v40=>funext fun v1=>funext fun v32=>funext fun v33=>funext fun v10=>funext fun v41=>funext fun b0_0=>funext fun b0_1=>funext fun b1p=>funext fun b1i=>funext fun b2=>funext fun b3_0=>funext fun b3_1=>funext fun b3_2=>funext fun b3_3=>funext fun b3_4=>funext fun b4=>funext fun b5=>C296_l12_eq n (fun s=>iter (interp (C296cs n) typ 99 0 n C296kp (codeAt C296c [1,1,1,1,1,0,1,0,0])) (canon 0 (C296kp.loop 8)) (C296k0 n) k s) k' v42 v12 v40 v1 v32 v33 v10 v41 b0_0 b0_1 b1p b1i b2 b3_0 b3_1 b3_2 b3_3 b3_4 b4 b5).trans (congrArg (fun z=>C296_l12 n z) (funext fun v33=>funext fun v10=>funext fun v1=>funext fun v32=>funext fun b0p=>funext fun b0i=>funext fun b1=>funext fun b2_0=>funext fun b2_1=>funext fun b2_2=>funext fun b2_3=>funext fun b2_4=>funext fun b3=>funext fun b4=>C296_l8_eq n k v33 v10 v1 v32 b0p b0i b1 b2_0 b2_1 b2_2 b2_3 b2_4 b3 b4)))) (funext fun v33=>funext fun v10=>funext fun v1=>funext fun v32=>funext fun b0p=>funext fun b0i=>funext fun b1=>funext fun b2_0=>funext fun b2_1=>funext fun b2_2=>funext fun b2_3=>funext fun b2_4=>funext fun b3=>funext fun b4=>C296_l8_eq n k v33 v10 v1 v32 b0p b0i b1 b2_0 b2_1 b2_2 b2_3 b2_4 b3 b4)
  exact e
theorem C296_eq (n:Nat) (a0:(Int)×((List OB9)×((Bool)×(Int×Int)))) (a1:List (Int×Int)):Z702 (C296cs n) typ 99 n C296kp C296c Go.Proofs.Tryz.f17.results.toList C296rs C296sp C296bs (a0,(a1,())) ()=C296 n a0 a1:=by
 refine Eq.trans (b:=C296_t n (fun k v33 v10 v1 v32 b0p b0i b1 b2_0 b2_1 b2_2 b2_3 b2_4 b3 b4=>iter (interp (C296cs n) typ 99 0 n C296kp (codeAt C296c [1,1,1,1,1,0,1,0,0])) (canon 0 (C296kp.loop 8)) (C296k0 n) k (C296s8 v33 v10 v1 v32 b0p b0i b1 b2_0 b2_1 b2_2 b2_3 b2_4 b3 b4)) a0 a1) (by kernel_rfl) ?_
 have e:=congrArg (fun h8=>C296_t n h8 a0 a1) (funext fun k=>funext fun v33=>funext fun v10=>funext fun v1=>funext fun v32=>funext fun b0p=>funext fun b0i=>funext fun b1=>funext fun b2_0=>funext fun b2_1=>funext fun b2_2=>funext fun b2_3=>funext fun b2_4=>funext fun b3=>funext fun b4=>C296_l8_eq n k v33 v10 v1 v32 b0p b0i b1 b2_0 b2_1 b2_2 b2_3 b2_4 b3 b4)
 exact e
theorem C296_ok (n:Nat):FunOk P (C296F n) :=
 Z308 (C:=[C123F n,C95F n,C236F n,C238F n,C239F n]) (N:=99) (kp:=C296kp) (c:=C296c) (n:=n) (G:=fun x y=>C296 n x.1 x.2.1) follows (AllOk.mem (⟨C123_ok n,⟨C95_ok n,⟨C236_ok n,⟨C238_ok n,⟨C239_ok n,trivial⟩⟩⟩⟩⟩:AllOk P ([C123F n,C95F n,C236F n,C238F n,C239F n]))) (by kernel_rfl:P.funcs[17]?=some Go.Proofs.Tryz.f17) (by kernel_rfl) (by kernel_rfl) (by kernel_rfl)
  (fun x y=>C296_eq n x.1 x.2.1) (fun _ _=>Z489 (fun _=>rfl) _) (fun _ _ _ _=>rfl)
abbrev C85sp:List Sp:=[.v false (.int .i64),.v false (.int .i64)]
abbrev C85bs:List (Bs×Bool):=[]
abbrev C85rs:List (Bool×List Rp):=[(false,[.v false .str])]
noncomputable def C85F (n:Nat):Fun:={ id:=73,sp:=C85sp,bs:=C85bs,rs:=C85rs,f:=fun x y=>C85 n x.1 x.2.1 }
theorem C85_ok (n:Nat):FunOk P (C85F n):=by
 refine ⟨⟨Go.Proofs.Tryz.f73,bodyOf Go.Proofs.Tryz.f73,Go.Proofs.Tryz.func73,by kernel_rfl,by kernel_rfl⟩,?_⟩
 intro x y r hr w I J β vs hG hg hL hv
 have hr':cond ((decide (-9223372036854775808≤x.1)&&decide (x.1≤9223372036854775807))&&(x.2.1==10)) (some ((((ByteArray.mk (Go.Lib.itoa x.1).toArray,()),()),()))) none=some r:=hr
 cases hc:((decide (-9223372036854775808≤x.1)&&decide (x.1≤9223372036854775807))&&(x.2.1==10)) with
 | false=>rw [hc,cond_false] at hr'; cases hr'
 | true =>
  rw [hc,cond_true] at hr'
  injection hr' with hr'
  subst hr'
  simp only [Bool.and_eq_true,decide_eq_true_eq,beq_iff_eq] at hc
  obtain ⟨⟨h0,h1⟩,h2⟩:=hc
  have hv':RVs I J β (ex (listF [])) w [.one (.sc (.int .i64 x.1)),.one (.sc (.int .i64 x.2.1))] vs:=hv
  rw [ex_nil] at hv'
  have e:=Z570 hv'
  rw [h2] at e
  subst e
  exact Z323 (v:=.one (.sc (.string (ByteArray.mk (Go.Lib.itoa x.1).toArray)))) hG ((Go.Proofs.Tryz.strconv_FormatInt_10 x.1 h0 h1 w (Z643 hL)).mono fun e w' ⟨he,k,os,hw⟩=>⟨_,he,rfl,hw ▸ Z269 k os⟩)
abbrev C428sp:List Sp:=[.v false (.int .i64)]
abbrev C428bs:List (Bs×Bool):=[]
abbrev C428rs:List (Bool×List Rp):=[(false,[.v false .str])]
noncomputable def C428kp:Keep:={ loop:=fun id=>match id with | _=>([],[]),join:=fun id=>match id with | _=>none }
noncomputable def C428c:Code:=bodyOf Go.Proofs.Tryz.f34
noncomputable def C428F (n:Nat):Fun:={ id:=34,sp:=C428sp,bs:=C428bs,rs:=C428rs,f:=fun x y=>C428 n x.1 }
theorem C428_eq (n:Nat) (a0:Int):Z702 ([C85F n]) ty 5 n C428kp C428c Go.Proofs.Tryz.f34.results.toList C428rs C428sp C428bs (a0,()) ()=C428 n a0:=by
 refine Eq.trans (b:=C428_t n a0) (by kernel_rfl) ?_
 rfl
theorem C428_ok (n:Nat):FunOk P (C428F n) :=
 Z465 (C:=[C85F n]) (N:=5) (kp:=C428kp) (c:=C428c) (n:=n) (G:=fun x y=>C428 n x.1) follows (AllOk.mem (⟨C85_ok n,trivial⟩:AllOk P ([C85F n]))) (by kernel_rfl:P.funcs[34]?=some Go.Proofs.Tryz.f34) (by kernel_rfl) (by kernel_rfl) (by kernel_rfl)
  (fun x y=>C428_eq n x.1) (fun _ _=>Z489 (fun _=>rfl) _) (fun _ _ _ _=>rfl)
abbrev C220sp:List Sp:=[.v true tF]
abbrev C220bs:List (Bs×Bool):=[]
abbrev C220rs:List (Bool×List Rp):=[(false,[.v false .str])]
noncomputable def C220kp:Keep:={ loop:=fun id=>match id with | _=>([],[]),join:=fun id=>match id with | _=>none }
noncomputable def C220c:Code:=bodyOf Go.Proofs.Tryz.f35
noncomputable def C220F (n:Nat):Fun:={ id:=35,sp:=C220sp,bs:=C220bs,rs:=C220rs,f:=fun x y=>C220 n x.1 }
theorem C220_eq (n:Nat) (a0:(Int)×(Int)):Z702 ([C172F n,C428F n]) ty 22 n C220kp C220c Go.Proofs.Tryz.f35.results.toList C220rs C220sp C220bs (a0,()) ()=C220 n a0:=by
 refine Eq.trans (b:=C220_t n a0) (by kernel_rfl) ?_
 rfl
theorem C220_ok (n:Nat):FunOk P (C220F n) :=
 Z465 (C:=[C172F n,C428F n]) (N:=22) (kp:=C220kp) (c:=C220c) (n:=n) (G:=fun x y=>C220 n x.1) follows (AllOk.mem (⟨C172_ok n,⟨C428_ok n,trivial⟩⟩:AllOk P ([C172F n,C428F n]))) (by kernel_rfl:P.funcs[35]?=some Go.Proofs.Tryz.f35) (by kernel_rfl) (by kernel_rfl) (by kernel_rfl)
  (fun x y=>C220_eq n x.1) (fun _ _=>Z489 (fun _=>rfl) _) (fun _ _ _ _=>rfl)
abbrev C364sp:List Sp:=[.v false .str]
abbrev C364bs:List (Bs×Bool):=[]
abbrev C364rs:List (Bool×List Rp):=[(false,[.v false (.int .i64)])]
noncomputable def C364F (n:Nat):Fun:={ id:=30,sp:=C364sp,bs:=C364bs,rs:=C364rs,f:=fun x y=>C364 n x.1 }
theorem Z86 (s:ByteArray) (hs:s.size≤281474976710656) (w:World) (hL:Laid.L P w) :
  (∃ v,Go.Lib.parseIntB 64 s.data.toList=.ok v∧Calls Go.Proofs.Tryz.prog 71 #[.string s,.int .i64 10,.int .i64 64] w fun e w'=>e=.returned (.tuple #[.int .i64 v,.nilIface])∧Go.RowKit.Below w.heap.size w w') ∨
  ((∀ v,Go.Lib.parseIntB 64 s.data.toList≠.ok v)∧Calls Go.Proofs.Tryz.prog 71 #[.string s,.int .i64 10,.int .i64 64] w fun e w'=>∃ v t p,e=.returned (.tuple #[.int .i64 v,.iface t p])∧Go.RowKit.Below w.heap.size w w'):=by
 obtain ⟨t1,p1,h1⟩:=Z645 hL
 obtain ⟨t2,p2,h2⟩:=Z644 hL
 cases hp:Go.Lib.parseIntB 64 s.data.toList with
 | ok v =>
  refine .inl ⟨v,rfl,(Go.Proofs.Any.strconv_ParseInt_10_at64_ok Go.Proofs.Tryz.laysC174 s (by omega) v hp w).mono ?_⟩
  rintro e w' ⟨rfl,hw⟩
  refine ⟨rfl,?_⟩
  rcases hw with rfl | ⟨t,rfl⟩
  ·exact Go.RowKit.Below.refl _ _
  ·exact Go.Lib.bytesWorld_below _ _ _
 | range =>
  refine .inr ⟨fun v hv=>(by cases hv),(Go.Proofs.Any.strconv_ParseInt_10_at64_range Go.Proofs.Tryz.laysC174 s hs hp _ w h2 (.inr ⟨_,_,rfl⟩)).mono ?_⟩
  rintro e w' ⟨N,rfl,_,_,hb⟩
  exact ⟨_,_,_,rfl,hb⟩
 | _ =>
  refine .inr ⟨fun v hv=>(by cases hv),(Go.Proofs.Any.strconv_ParseInt_10_at64_syntax Go.Proofs.Tryz.laysC174 s hs hp _ w h1 (.inr ⟨_,_,rfl⟩)).mono ?_⟩
  rintro e w' ⟨N,rfl,_,_,hb⟩
  exact ⟨_,_,_,rfl,hb⟩
theorem Z340 (s:ByteArray) (v:Int) (w:World) (hp:Calls Go.Proofs.Tryz.prog 71 #[.string s,.int .i64 10,.int .i64 64] w fun e w'=>e=.returned (.tuple #[.int .i64 v,.nilIface])∧Go.RowKit.Below w.heap.size w w') :
  Calls Go.Proofs.Tryz.prog 30 #[.string s] w fun e w'=>e=.returned (.int .i64 v)∧Go.RowKit.Below w.heap.size w w':=by
 go_enter Go.Proofs.Tryz.func30,Go.Proofs.Tryz.ntmps30
 go_wp2_with (go_at_call 71; refine hp.mono ?_; rintro e w1 ⟨rfl,hb⟩)
 go_wp2
 go_ret
 exact ⟨rfl,hb⟩
theorem Z228 (s:ByteArray) (w:World) (hp:Calls Go.Proofs.Tryz.prog 71 #[.string s,.int .i64 10,.int .i64 64] w fun e w'=>∃ v t p,e=.returned (.tuple #[.int .i64 v,.iface t p])∧Go.RowKit.Below w.heap.size w w') :
  Calls Go.Proofs.Tryz.prog 30 #[.string s] w fun e w'=>e=.returned (.int .i64 0)∧Go.RowKit.Below w.heap.size w w':=by
 go_enter Go.Proofs.Tryz.func30,Go.Proofs.Tryz.ntmps30
 go_wp2_with (go_at_call 71; refine hp.mono ?_; rintro e w1 ⟨v,t,p,rfl,hb⟩)
 go_wp2
 go_ret
 exact ⟨rfl,hb⟩
theorem Z138 (s:ByteArray) (hs:s.size≤281474976710656) (w:World) (hL:Laid.L P w) :
  Calls Go.Proofs.Tryz.prog 30 #[.string s] w fun e w'=>∃ v,e=.returned (.int .i64 v)∧Go.RowKit.Below w.heap.size w w'∧v=(match Go.Lib.parseIntB 64 s.data.toList with | .ok v=>v | _=>0):=by
 rcases Z86 s hs w hL with ⟨v,hv,hp⟩ | ⟨hv,hp⟩
 ·exact (Z340 s v w hp).mono fun e w' ⟨he,hb⟩=>⟨v,he,hb,by rw [hv]⟩
 ·refine (Z228 s w hp).mono fun e w' ⟨he,hb⟩=>⟨0,he,hb,?_⟩
  split
  ·rename_i v' hv'
   exact absurd hv' (hv v')
  ·rfl
theorem C364_ok (n:Nat):FunOk P (C364F n):=by
 refine ⟨⟨Go.Proofs.Tryz.f30,bodyOf Go.Proofs.Tryz.f30,Go.Proofs.Tryz.func30,by kernel_rfl,by kernel_rfl⟩,?_⟩
 intro x y r hr w I J β vs hG hg hL hv
 have hr':cond (decide (x.1.size≤281474976710656)) (some (((((match Go.Lib.parseIntB 64 x.1.data.toList with | .ok v=>v | _=>0),()),()),()))) none=some r:=by
  rw [← hr]
  show _=C364 n x.1
  unfold C364
  cases Go.Lib.parseIntB 64 x.1.data.toList <;> rfl
 cases hc:(decide (x.1.size≤281474976710656)) with
 | false=>rw [hc,cond_false] at hr'; cases hr'
 | true =>
  rw [hc,cond_true] at hr'
  injection hr' with hr'
  subst hr'
  simp only [decide_eq_true_eq] at hc
  have hv':RVs I J β (ex (listF [])) w [.one (.sc (.string x.1))] vs:=hv
  rw [ex_nil] at hv'
  have e:=args_s hv'
  subst e
  exact Z323 (v:=.one (.sc (.int .i64 (match Go.Lib.parseIntB 64 x.1.data.toList with | .ok v=>v | _=>0)))) hG
   ((Z138 x.1 hc w hL).mono fun e w' ⟨v,he,hb,hv⟩=>⟨_,he,hv ▸ rfl,Z170 hb⟩)
abbrev C402sp:List Sp:=[.v false .str,.v false .str]
abbrev C402bs:List (Bs×Bool):=[]
abbrev C402rs:List (Bool×List Rp):=[(false,[.v false .str]),(false,[.v false .str]),(false,[.v false .bool])]
noncomputable def C402F (n:Nat):Fun:={ id:=72,sp:=C402sp,bs:=C402bs,rs:=C402rs,f:=fun x y=>C402 n x.1 x.2.1 }
theorem C402_ok (n:Nat):FunOk P (C402F n):=by
 refine ⟨⟨Go.Proofs.Tryz.f72,bodyOf Go.Proofs.Tryz.f72,Go.Proofs.Tryz.func72,by kernel_rfl,by kernel_rfl⟩,?_⟩
 intro x y r hr w I J β vs hG hg hL hv
 have hr':cond (decide (x.1.size < 4294967281)) (some (((ByteArray.mk (Go.Lib.cut x.1.data.toList x.2.1.data.toList).1.toArray,()),((ByteArray.mk (Go.Lib.cut x.1.data.toList x.2.1.data.toList).2.1.toArray,()),(((Go.Lib.cut x.1.data.toList x.2.1.data.toList).2.2,()),()))),())) none=some r:=hr
 cases hc:(decide (x.1.size < 4294967281)) with
 | false=>rw [hc,cond_false] at hr'; cases hr'
 | true =>
  rw [hc,cond_true] at hr'
  injection hr' with hr'
  subst hr'
  simp only [decide_eq_true_eq] at hc
  have hv':RVs I J β (ex (listF [])) w [.one (.sc (.string x.1)),.one (.sc (.string x.2.1))] vs:=hv
  rw [ex_nil] at hv'
  have e:=Z571 hv'
  subst e
  obtain ⟨m,hm⟩:=Z642 hL
  exact Z323 (v:=.tup [(false,[.sc (.string (ByteArray.mk (Go.Lib.cut x.1.data.toList x.2.1.data.toList).1.toArray))]),(false,[.sc (.string (ByteArray.mk (Go.Lib.cut x.1.data.toList x.2.1.data.toList).2.1.toArray))]),(false,[.sc (.bool (Go.Lib.cut x.1.data.toList x.2.1.data.toList).2.2)])]) hG
   ((Go.Proofs.Tryz.strings_Cut x.1 x.2.1 m w hc hm).mono fun e w' ⟨he,n,hw⟩=>⟨_,he,⟨_,rfl,_,_,rfl,rfl,_,_,rfl,rfl,_,_,rfl,rfl,rfl⟩,hw ▸ Z171 n⟩)
abbrev C226sp:List Sp:=[.v false .str]
abbrev C226bs:List (Bs×Bool):=[]
abbrev C226rs:List (Bool×List Rp):=[(true,[.v false tF]),(false,[.v false (.int .i64)])]
noncomputable def C226kp:Keep:={ loop:=fun id=>match id with | _=>([],[]),join:=fun id=>match id with | _=>none }
noncomputable def C226c:Code:=bodyOf Go.Proofs.Tryz.f32
noncomputable def C226F (n:Nat):Fun:={ id:=32,sp:=C226sp,bs:=C226bs,rs:=C226rs,f:=fun x y=>C226 n x.1 }
theorem C226_eq (n:Nat) (a0:ByteArray):Z702 ([C402F n,C364F n,C220F n]) ty 31 n C226kp C226c Go.Proofs.Tryz.f32.results.toList C226rs C226sp C226bs (a0,()) ()=C226 n a0:=by
 refine Eq.trans (b:=C226_t n a0) (by kernel_rfl) ?_
 rfl
theorem C226_ok (n:Nat):FunOk P (C226F n) :=
 Z465 (C:=[C402F n,C364F n,C220F n]) (N:=31) (kp:=C226kp) (c:=C226c) (n:=n) (G:=fun x y=>C226 n x.1) follows (AllOk.mem (⟨C402_ok n,⟨C364_ok n,⟨C220_ok n,trivial⟩⟩⟩:AllOk P ([C402F n,C364F n,C220F n]))) (by kernel_rfl:P.funcs[32]?=some Go.Proofs.Tryz.f32) (by kernel_rfl) (by kernel_rfl) (by kernel_rfl)
  (fun x y=>C226_eq n x.1) (fun _ _=>Z489 (fun _=>rfl) _) (fun _ _ _ _=>rfl)
abbrev C169sp:List Sp:=[.v true (.pair (.int .i64) (.pair (.list tO) (.pair .bool tF)))]
abbrev C169bs:List (Bs×Bool):=[]
abbrev C169rs:List (Bool×List Rp):=[(false,[.v false .str])]
noncomputable def C169kp:Keep:={ loop:=fun id=>match id with | 8=>([3,27,1,25,26],[]) | 11=>([36,3,34,1,25,26,27,5,35],[]) | _=>([],[]),join:=fun id=>match id with | _=>none }
noncomputable def C169c:Code:=bodyOf Go.Proofs.Tryz.f8
noncomputable def C169F (n:Nat):Fun:={ id:=8,sp:=C169sp,bs:=C169bs,rs:=C169rs,f:=fun x y=>C169 n x.1 }
noncomputable abbrev C169cs (n:Nat):List Fun:=[C121F n,C428F n,C220F n]
abbrev C169s11 (v36:Int) (v3:ByteArray) (v34a5:Nat) (v25:List OB9) (v26:Int) (v27:Int) (v35:Int) (b0_0:Int) (b0_1:Int) (b0_2:Int) (b0_3:Int) (b0_4:Int) (b0_5:Int) (b0_6:Int) (b0_7:Int) (b0_8:Int) (b1_0:Int) (b1_1:List OB9) (b1_2:Bool) (b1_3:Int) (b1_4:Int):St:={ env:=[(36,.one (.sc (.int .i64 v36))),(3,.one (.sc (.string v3))),(34,.one (.arr 0 0 0 0 6 v34a5)),(1,.one (.ref 1 0 0 0 0 0)),(25,.one (.list true tO v25)),(26,.one (.sc (.int .i64 v26))),(27,.one (.sc (.int .i64 v27))),(5,.one (.ref 0 0 0 0 0 0)),(35,.one (.sc (.int .i64 v35)))],bx:=[(0,.var 52 [.sc (.int .i8 b0_0),.sc (.int .i8 b0_1),.sc (.int .i8 b0_2),.sc (.int .i8 b0_3),.sc (.int .i8 b0_4),.sc (.int .i8 b0_5),.sc (.int .i64 b0_6),.sc (.int .i64 b0_7),.sc (.int .i64 b0_8)]),(1,.var 28 [.sc (.int .i64 b1_0),.list true tO b1_1,.sc (.bool b1_2),.sc (.int .i64 b1_3),.sc (.int .i64 b1_4)])],nx:=2 }
abbrev C169s8 (v3:ByteArray) (v27:Int) (v25:List OB9) (v26:Int) (b0_0:Int) (b0_1:List OB9) (b0_2:Bool) (b0_3:Int) (b0_4:Int):St:={ env:=[(3,.one (.sc (.string v3))),(27,.one (.sc (.int .i64 v27))),(1,.one (.ref 0 0 0 0 0 0)),(25,.one (.list true tO v25)),(26,.one (.sc (.int .i64 v26)))],bx:=[(0,.var 28 [.sc (.int .i64 b0_0),.list true tO b0_1,.sc (.bool b0_2),.sc (.int .i64 b0_3),.sc (.int .i64 b0_4)])],nx:=1 }
noncomputable abbrev C169k0 (n:Nat):=kAt (C169cs n) ty 60 0 n C169kp C169c [1,1,1,1,1,0,1,0] [] (ending ty 0 Go.Proofs.Tryz.f8.results.toList C169rs C169bs)
theorem C169_l11_eq (n:Nat) (G8:St→Option ((((ByteArray)×(Unit))×(Unit))×(Unit))):∀ (k:Nat) (v36:Int) (v3:ByteArray) (v34a5:Nat) (v25:List OB9) (v26:Int) (v27:Int) (v35:Int) (b0_0:Int) (b0_1:Int) (b0_2:Int) (b0_3:Int) (b0_4:Int) (b0_5:Int) (b0_6:Int) (b0_7:Int) (b0_8:Int) (b1_0:Int) (b1_1:List OB9) (b1_2:Bool) (b1_3:Int) (b1_4:Int),iter (interp (C169cs n) ty 60 0 n C169kp (codeAt C169c [1,1,1,1,1,0,1,0,0,1,1,0,0,1,0,1,0,0])) (canon 0 (C169kp.loop 11)) (kAt (C169cs n) ty 60 0 n C169kp C169c [1,1,1,1,1,0,1,0,0,1,1,0,0,1,0,1,0] [G8] (ending ty 0 Go.Proofs.Tryz.f8.results.toList C169rs C169bs)) k (C169s11 v36 v3 v34a5 v25 v26 v27 v35 b0_0 b0_1 b0_2 b0_3 b0_4 b0_5 b0_6 b0_7 b0_8 b1_0 b1_1 b1_2 b1_3 b1_4)=C169_l11 n (fun v3 v27 v25 v26 b0_0 b0_1 b0_2 b0_3 b0_4=>G8 (C169s8 v3 v27 v25 v26 b0_0 b0_1 b0_2 b0_3 b0_4)) k v36 v3 v34a5 v25 v26 v27 v35 b0_0 b0_1 b0_2 b0_3 b0_4 b0_5 b0_6 b0_7 b0_8 b1_0 b1_1 b1_2 b1_3 b1_4
 | 0,_,_,_,_,_,_,_,_,_,_,_,_,_,_,_,_,_,_,_,_,_=>by kernel_rfl
 | k+1,v36,v3,v34a5,v25,v26,v27,v35,b0_0,b0_1,b0_2,b0_3,b0_4,b0_5,b0_6,b0_7,b0_8,b1_0,b1_1,b1_2,b1_3,b1_4=>by
  refine Eq.trans (b:=C169_t11 n (fun v3 v27 v25 v26 b0_0 b0_1 b0_2 b0_3 b0_4=>G8 (C169s8 v3 v27 v25 v26 b0_0 b0_1 b0_2 b0_3 b0_4)) (fun v36 v3 v34a5 v25 v26 v27 v35 b0_0 b0_1 b0_2 b0_3 b0_4 b0_5 b0_6 b0_7 b0_8 b1_0 b1_1 b1_2 b1_3 b1_4=>iter (interp (C169cs n) ty 60 0 n C169kp (codeAt C169c [1,1,1,1,1,0,1,0,0,1,1,0,0,1,0,1,0,0])) (canon 0 (C169kp.loop 11)) (kAt (C169cs n) ty 60 0 n C169kp C169c [1,1,1,1,1,0,1,0,0,1,1,0,0,1,0,1,0] [G8] (ending ty 0 Go.Proofs.Tryz.f8.results.toList C169rs C169bs)) k (C169s11 v36 v3 v34a5 v25 v26 v27 v35 b0_0 b0_1 b0_2 b0_3 b0_4 b0_5 b0_6 b0_7 b0_8 b1_0 b1_1 b1_2 b1_3 b1_4)) v36 v3 v34a5 v25 v26 v27 v35 b0_0 b0_1 b0_2 b0_3 b0_4 b0_5 b0_6 b0_7 b0_8 b1_0 b1_1 b1_2 b1_3 b1_4) (by kernel_rfl) ?_
  have e:=congrArg (fun g=>C169_t11 n (fun v3 v27 v25 v26 b0_0 b0_1 b0_2 b0_3 b0_4=>G8 (C169s8 v3 v27 v25 v26 b0_0 b0_1 b0_2 b0_3 b0_4)) g v36 v3 v34a5 v25 v26 v27 v35 b0_0 b0_1 b0_2 b0_3 b0_4 b0_5 b0_6 b0_7 b0_8 b1_0 b1_1 b1_2 b1_3 b1_4) (funext fun v36=>funext fun v3=>funext fun v34a5=>funext fun v25=>funext fun v26=>funext fun v27=>funext fun v35=>funext fun b0_0=>funext fun b0_1=>funext fun b0_2=>funext fun b0_3=>funext fun b0_4=>funext fun b0_5=>funext fun b0_6=>funext fun b0_7=>funext fun b0_8=>funext fun b1_0=>funext fun b1_1=>funext fun b1_2=>funext fun b1_3=>funext fun b1_4=>C169_l11_eq n G8 k v36 v3 v34a5 v25 v26 v27 v35 b0_0 b0_1 b0_2 b0_3 b0_4 b0_5 b0_6 b0_7 b0_8 b1_0 b1_1 b1_2 b1_3 b1_4)
  exact e
theorem C169_l8_eq (n:Nat):∀ (k:Nat) (v3:ByteArray) (v27:Int) (v25:List OB9) (v26:Int) (b0_0:Int) (b0_1:List OB9) (b0_2:Bool) (b0_3:Int) (b0_4:Int),iter (interp (C169cs n) ty 60 0 n C169kp (codeAt C169c [1,1,1,1,1,0,1,0,0])) (canon 0 (C169kp.loop 8)) (C169k0 n) k (C169s8 v3 v27 v25 v26 b0_0 b0_1 b0_2 b0_3 b0_4)=C169_l8 n k v3 v27 v25 v26 b0_0 b0_1 b0_2 b0_3 b0_4
 | 0,_,_,_,_,_,_,_,_,_=>by kernel_rfl
 | k+1,v3,v27,v25,v26,b0_0,b0_1,b0_2,b0_3,b0_4=>by
  refine Eq.trans (b:=C169_t8 n (fun k' v36 v3 v34a5 v25 v26 v27 v35 b0_0 b0_1 b0_2 b0_3 b0_4 b0_5 b0_6 b0_7 b0_8 b1_0 b1_1 b1_2 b1_3 b1_4=>iter (interp (C169cs n) ty 60 0 n C169kp (codeAt C169c [1,1,1,1,1,0,1,0,0,1,1,0,0,1,0,1,0,0])) (canon 0 (C169kp.loop 11)) (kAt (C169cs n) ty 60 0 n C169kp C169c [1,1,1,1,1,0,1,0,0,1,1,0,0,1,0,1,0] [(fun s=>iter (interp (C169cs n) ty 60 0 n C169kp (codeAt C169c [1,1,1,1,1,0,1,0,0])) (canon 0 (C169kp.loop 8)) (C169k0 n) k s)] (ending ty 0 Go.Proofs.Tryz.f8.results.toList C169rs C169bs)) k' (C169s11 v36 v3 v34a5 v25 v26 v27 v35 b0_0 b0_1 b0_2 b0_3 b0_4 b0_5 b0_6 b0_7 b0_8 b1_0 b1_1 b1_2 b1_3 b1_4)) (fun v3 v27 v25 v26 b0_0 b0_1 b0_2 b0_3 b0_4=>iter (interp (C169cs n) ty 60 0 n C169kp (codeAt C169c [1,1,1,1,1,0,1,0,0])) (canon 0 (C169kp.loop 8)) (C169k0 n) k (C169s8 v3 v27 v25 v26 b0_0 b0_1 b0_2 b0_3 b0_4)) v3 v27 v25 v26 b0_0 b0_1 b0_2 b0_3 b0_4) (by kernel_rfl) ?_
  have e:=congr (congrArg (fun h11 g=>C169_t8 n h11 g v3 v27 v25 v26 b0_0 b0_1 b0_2 b0_3 b0_4) ((funext fun k'=>funext fun v36=>funext fun v3=>funext fun v34a5=>funext fun v25=>funext fun v26=>funext fun v27=>funext fun v35=>funext fun b0_0=>funext fun b0_1=>funext fun b0_2=>funext fun b0_3=>funext fun b0_4=>funext fun b0_5=>funext fun b0_6=>funext fun b0_7=>funext fun b0_8=>funext fun b1_0=>funext fun b1_1=>funext fun b1_2=>funext fun b1_3=>funext fun b1_4=>C169_l11_eq n (fun s=>iter (interp (C169cs n) ty 60 0 n C169kp (codeAt C169c [1,1,1,1,1,0,1,0,0])) (canon 0 (C169kp.loop 8)) (C169k0 n) k s) k' v36 v3 v34a5 v25 v26 v27 v35 b0_0 b0_1 b0_2 b0_3 b0_4 b0_5 b0_6 b0_7 b0_8 b1_0 b1_1 b1_2 b1_3 b1_4).trans (congrArg (fun z=>C169_l11 n z) (funext fun v3=>funext fun v27=>funext fun v25=>funext fun v26=>funext fun b0_0=>funext fun b0_1=>funext fun b0_2=>funext fun b0_3=>funext fun b0_4=>C169_l8_eq n k v3 v27 v25 v26 b0_0 b0_1 b0_2 b0_3 b0_4)))) (funext fun v3=>funext fun v27=>funext fun v25=>funext fun v26=>funext fun b0_0=>funext fun b0_1=>funext fun b0_2=>funext fun b0_3=>funext fun b0_4=>C169_l8_eq n k v3 v27 v25 v26 b0_0 b0_1 b0_2 b0_3 b0_4)
  exact e
theorem C169_eq (n:Nat) (a0:(Int)×((List OB9)×((Bool)×(Int×Int)))):Z702 (C169cs n) ty 60 n C169kp C169c Go.Proofs.Tryz.f8.results.toList C169rs C169sp C169bs (a0,()) ()=C169 n a0:=by
 refine Eq.trans (b:=C169_t n (fun k v3 v27 v25 v26 b0_0 b0_1 b0_2 b0_3 b0_4=>iter (interp (C169cs n) ty 60 0 n C169kp (codeAt C169c [1,1,1,1,1,0,1,0,0])) (canon 0 (C169kp.loop 8)) (C169k0 n) k (C169s8 v3 v27 v25 v26 b0_0 b0_1 b0_2 b0_3 b0_4)) a0) (by kernel_rfl) ?_
 have e:=congrArg (fun h8=>C169_t n h8 a0) (funext fun k=>funext fun v3=>funext fun v27=>funext fun v25=>funext fun v26=>funext fun b0_0=>funext fun b0_1=>funext fun b0_2=>funext fun b0_3=>funext fun b0_4=>C169_l8_eq n k v3 v27 v25 v26 b0_0 b0_1 b0_2 b0_3 b0_4)
 exact e
theorem C169_ok (n:Nat):FunOk P (C169F n) :=
 Z465 (C:=[C121F n,C428F n,C220F n]) (N:=60) (kp:=C169kp) (c:=C169c) (n:=n) (G:=fun x y=>C169 n x.1) follows (AllOk.mem (⟨C121_ok n,⟨C428_ok n,⟨C220_ok n,trivial⟩⟩⟩:AllOk P ([C121F n,C428F n,C220F n]))) (by kernel_rfl:P.funcs[8]?=some Go.Proofs.Tryz.f8) (by kernel_rfl) (by kernel_rfl) (by kernel_rfl)
  (fun x y=>C169_eq n x.1) (fun _ _=>Z489 (fun _=>rfl) _) (fun _ _ _ _=>rfl)
abbrev C292sp:List Sp:=[.v false .str,.v false .str]
abbrev C292bs:List (Bs×Bool):=[]
abbrev C292rs:List (Bool×List Rp):=[(false,[.new .str])]
noncomputable def C292F (n:Nat):Fun:={ id:=29,sp:=C292sp,bs:=C292bs,rs:=C292rs,f:=fun x y=>C292 n x.1 x.2.1 }
theorem C292_ok (n:Nat):FunOk P (C292F n):=by
 refine ⟨⟨Go.Proofs.Tryz.f29,bodyOf Go.Proofs.Tryz.f29,Go.Proofs.Tryz.func29,by kernel_rfl,by kernel_rfl⟩,?_⟩
 intro x y r hr w I J β vs hG hg hL hv
 have hr':cond (decide (x.1.size < 4294967281)&&decide (1≤x.2.1.size)) (some ((((Go.Lib.splitB x.2.1 0 (Go.Lib.countB x.1 x.2.1) x.1,()),()),()))) none=some r:=hr
 cases hc:(decide (x.1.size < 4294967281)&&decide (1≤x.2.1.size)) with
 | false=>rw [hc,cond_false] at hr'; cases hr'
 | true =>
  rw [hc,cond_true] at hr'
  injection hr' with hr'
  subst hr'
  simp only [Bool.and_eq_true,decide_eq_true_eq] at hc
  have hv':RVs I J β (ex (listF [])) w [.one (.sc (.string x.1)),.one (.sc (.string x.2.1))] vs:=hv
  rw [ex_nil] at hv'
  have e:=Z571 hv'
  subst e
  obtain ⟨m,hm⟩:=Z642 hL
  have hlen:=Go.Lib.splitB_all x.2.1 hc.2 0 _ x.1 rfl
  have key:=Go.Proofs.Tryz.strings_Split x.1 x.2.1 m w hc.1 hm hc.2
  rw [← hlen] at key
  exact Z482 (t:=.str) (xs:=Go.Lib.splitB x.2.1 0 (Go.Lib.countB x.1 x.2.1) x.1) hG (Z185 _) key
abbrev C405sp:List Sp:=[.v false .str]
abbrev C405bs:List (Bs×Bool):=[]
abbrev C405rs:List (Bool×List Rp):=[(false,[.v false (.list .str)]),(false,[.v false .bool])]
noncomputable def C405kp:Keep:={ loop:=fun id=>match id with | _=>([],[]),join:=fun id=>match id with | _=>none }
noncomputable def C405c:Code:=bodyOf Go.Proofs.Tryz.f28
noncomputable def C405F (n:Nat):Fun:={ id:=28,sp:=C405sp,bs:=C405bs,rs:=C405rs,f:=fun x y=>C405 n x.1 }
theorem C405_eq (n:Nat) (a0:ByteArray):Z702 ([C292F n]) ty 21 n C405kp C405c Go.Proofs.Tryz.f28.results.toList C405rs C405sp C405bs (a0,()) ()=C405 n a0:=by
 refine Eq.trans (b:=C405_t n a0) (by kernel_rfl) ?_
 rfl
theorem C405_ok (n:Nat):FunOk P (C405F n) :=
 Z465 (C:=[C292F n]) (N:=21) (kp:=C405kp) (c:=C405c) (n:=n) (G:=fun x y=>C405 n x.1) follows (AllOk.mem (⟨C292_ok n,trivial⟩:AllOk P ([C292F n]))) (by kernel_rfl:P.funcs[28]?=some Go.Proofs.Tryz.f28) (by kernel_rfl) (by kernel_rfl) (by kernel_rfl)
  (fun x y=>C405_eq n x.1) (fun _ _=>Z489 (fun _=>rfl) _) (fun _ _ _ _=>rfl)
abbrev C164sp:List Sp:=[.v false .str]
abbrev C164bs:List (Bs×Bool):=[]
abbrev C164rs:List (Bool×List Rp):=[(true,[.v false (.int .i64),.new tO,.v false (.pair .bool tF)]),(false,[.v false (.int .i64)])]
noncomputable def C164kp:Keep:={ loop:=fun id=>match id with | 9=>([2,60,7,58,0,59],[.box 1 1 tO]) | 18=>([2,96,12,94,7,58,0,59,60,95],[]) | _=>([],[]),join:=fun id=>match id with | _=>none }
noncomputable def C164c:Code:=bodyOf Go.Proofs.Tryz.f7
noncomputable def C164F (n:Nat):Fun:={ id:=7,sp:=C164sp,bs:=C164bs,rs:=C164rs,f:=fun x y=>C164 n x.1 }
noncomputable abbrev C164cs (n:Nat):List Fun:=[C405F n,C292F n,C364F n,C426F n,C226F n,C366F n,C121F n,C169F n]
abbrev C164s18 (v96:Int) (v94n:Nat) (v58:List (ByteArray)) (v0:ByteArray) (v59:Int) (v60:Int) (v95:Int) (b0_0:Int) (b0_2:Bool) (b0_3:Int) (b0_4:Int) (b1_0:Int) (b1_1:Int) (b1_2:Int) (b1_3:Int) (b1_4:Int) (b1_5:Int) (b1_6:Int) (b1_7:Int) (b1_8:Int) (b2:List (ByteArray)) (b3_0:Int) (b3_2:Bool) (b3_3:Int) (b3_4:Int) (b4:List OB9):St:={ env:=[(2,.one (.ref 0 0 0 0 0 0)),(96,.one (.sc (.int .i64 v96))),(12,.one (.ref 1 0 0 0 0 0)),(94,.one (.slice 2 0 (some (0,v94n)))),(7,.one (.ref 3 0 0 0 0 0)),(58,.one (.list false .str v58)),(0,.one (.sc (.string v0))),(59,.one (.sc (.int .i64 v59))),(60,.one (.sc (.int .i64 v60))),(95,.one (.sc (.int .i64 v95)))],bx:=[(0,.var 28 [.sc (.int .i64 b0_0),.sc (.slice none 0 0),.sc (.bool b0_2),.sc (.int .i64 b0_3),.sc (.int .i64 b0_4)]),(1,.var 52 [.sc (.int .i8 b1_0),.sc (.int .i8 b1_1),.sc (.int .i8 b1_2),.sc (.int .i8 b1_3),.sc (.int .i8 b1_4),.sc (.int .i8 b1_5),.sc (.int .i64 b1_6),.sc (.int .i64 b1_7),.sc (.int .i64 b1_8)]),(2,.row 0 .str b2),(3,.var 28 [.sc (.int .i64 b3_0),.slice 4 0 none,.sc (.bool b3_2),.sc (.int .i64 b3_3),.sc (.int .i64 b3_4)]),(4,.row 0 tO b4)],nx:=5 }
abbrev C164s9 (v60:Int) (v58:List (ByteArray)) (v0:ByteArray) (v59:Int) (b0_0:Int) (b0_2:Bool) (b0_3:Int) (b0_4:Int) (b1_0:Int) (b1_2:Bool) (b1_3:Int) (b1_4:Int) (b2:List OB9):St:={ env:=[(2,.one (.ref 0 0 0 0 0 0)),(60,.one (.sc (.int .i64 v60))),(7,.one (.ref 1 0 0 0 0 0)),(58,.one (.list false .str v58)),(0,.one (.sc (.string v0))),(59,.one (.sc (.int .i64 v59)))],bx:=[(0,.var 28 [.sc (.int .i64 b0_0),.sc (.slice none 0 0),.sc (.bool b0_2),.sc (.int .i64 b0_3),.sc (.int .i64 b0_4)]),(1,.var 28 [.sc (.int .i64 b1_0),.slice 2 0 none,.sc (.bool b1_2),.sc (.int .i64 b1_3),.sc (.int .i64 b1_4)]),(2,.row 0 tO b2)],nx:=3 }
noncomputable abbrev C164k0 (n:Nat):=kAt (C164cs n) ty 131 0 n C164kp C164c [1,1,1,1,1,1,0,1,0] [] (ending ty 0 Go.Proofs.Tryz.f7.results.toList C164rs C164bs)
theorem C164_l18_eq (n:Nat) (G9:St→Option ((((Int)×((List OB9)×(((Bool)×(Int×Int))×(Unit))))×(((Int)×(Unit))×(Unit)))×(Unit))):∀ (k:Nat) (v96:Int) (v94n:Nat) (v58:List (ByteArray)) (v0:ByteArray) (v59:Int) (v60:Int) (v95:Int) (b0_0:Int) (b0_2:Bool) (b0_3:Int) (b0_4:Int) (b1_0:Int) (b1_1:Int) (b1_2:Int) (b1_3:Int) (b1_4:Int) (b1_5:Int) (b1_6:Int) (b1_7:Int) (b1_8:Int) (b2:List (ByteArray)) (b3_0:Int) (b3_2:Bool) (b3_3:Int) (b3_4:Int) (b4:List OB9),iter (interp (C164cs n) ty 131 0 n C164kp (codeAt C164c [1,1,1,1,1,1,0,1,0,0,1,1,0,0,1,1,1,1,1,1,0,1,0,0])) (canon 0 (C164kp.loop 18)) (kAt (C164cs n) ty 131 0 n C164kp C164c [1,1,1,1,1,1,0,1,0,0,1,1,0,0,1,1,1,1,1,1,0,1,0] [G9] (ending ty 0 Go.Proofs.Tryz.f7.results.toList C164rs C164bs)) k (C164s18 v96 v94n v58 v0 v59 v60 v95 b0_0 b0_2 b0_3 b0_4 b1_0 b1_1 b1_2 b1_3 b1_4 b1_5 b1_6 b1_7 b1_8 b2 b3_0 b3_2 b3_3 b3_4 b4)=C164_l18 n (fun v60 v58 v0 v59 b0_0 b0_2 b0_3 b0_4 b1_0 b1_2 b1_3 b1_4 b2=>G9 (C164s9 v60 v58 v0 v59 b0_0 b0_2 b0_3 b0_4 b1_0 b1_2 b1_3 b1_4 b2)) k v96 v94n v58 v0 v59 v60 v95 b0_0 b0_2 b0_3 b0_4 b1_0 b1_1 b1_2 b1_3 b1_4 b1_5 b1_6 b1_7 b1_8 b2 b3_0 b3_2 b3_3 b3_4 b4
 | 0,_,_,_,_,_,_,_,_,_,_,_,_,_,_,_,_,_,_,_,_,_,_,_,_,_,_=>by kernel_rfl
 | k+1,v96,v94n,v58,v0,v59,v60,v95,b0_0,b0_2,b0_3,b0_4,b1_0,b1_1,b1_2,b1_3,b1_4,b1_5,b1_6,b1_7,b1_8,b2,b3_0,b3_2,b3_3,b3_4,b4=>by
  refine Eq.trans (b:=C164_t18 n (fun v60 v58 v0 v59 b0_0 b0_2 b0_3 b0_4 b1_0 b1_2 b1_3 b1_4 b2=>G9 (C164s9 v60 v58 v0 v59 b0_0 b0_2 b0_3 b0_4 b1_0 b1_2 b1_3 b1_4 b2)) (fun v96 v94n v58 v0 v59 v60 v95 b0_0 b0_2 b0_3 b0_4 b1_0 b1_1 b1_2 b1_3 b1_4 b1_5 b1_6 b1_7 b1_8 b2 b3_0 b3_2 b3_3 b3_4 b4=>iter (interp (C164cs n) ty 131 0 n C164kp (codeAt C164c [1,1,1,1,1,1,0,1,0,0,1,1,0,0,1,1,1,1,1,1,0,1,0,0])) (canon 0 (C164kp.loop 18)) (kAt (C164cs n) ty 131 0 n C164kp C164c [1,1,1,1,1,1,0,1,0,0,1,1,0,0,1,1,1,1,1,1,0,1,0] [G9] (ending ty 0 Go.Proofs.Tryz.f7.results.toList C164rs C164bs)) k (C164s18 v96 v94n v58 v0 v59 v60 v95 b0_0 b0_2 b0_3 b0_4 b1_0 b1_1 b1_2 b1_3 b1_4 b1_5 b1_6 b1_7 b1_8 b2 b3_0 b3_2 b3_3 b3_4 b4)) v96 v94n v58 v0 v59 v60 v95 b0_0 b0_2 b0_3 b0_4 b1_0 b1_1 b1_2 b1_3 b1_4 b1_5 b1_6 b1_7 b1_8 b2 b3_0 b3_2 b3_3 b3_4 b4) (by kernel_rfl) ?_
  have e:=congrArg (fun g=>C164_t18 n (fun v60 v58 v0 v59 b0_0 b0_2 b0_3 b0_4 b1_0 b1_2 b1_3 b1_4 b2=>G9 (C164s9 v60 v58 v0 v59 b0_0 b0_2 b0_3 b0_4 b1_0 b1_2 b1_3 b1_4 b2)) g v96 v94n v58 v0 v59 v60 v95 b0_0 b0_2 b0_3 b0_4 b1_0 b1_1 b1_2 b1_3 b1_4 b1_5 b1_6 b1_7 b1_8 b2 b3_0 b3_2 b3_3 b3_4 b4) (funext fun v96=>funext fun v94n=>funext fun v58=>funext fun v0=>funext fun v59=>funext fun v60=>funext fun v95=>funext fun b0_0=>funext fun b0_2=>funext fun b0_3=>funext fun b0_4=>funext fun b1_0=>funext fun b1_1=>funext fun b1_2=>funext fun b1_3=>funext fun b1_4=>funext fun b1_5=>funext fun b1_6=>funext fun b1_7=>funext fun b1_8=>funext fun b2=>funext fun b3_0=>funext fun b3_2=>funext fun b3_3=>funext fun b3_4=>funext fun b4=>C164_l18_eq n G9 k v96 v94n v58 v0 v59 v60 v95 b0_0 b0_2 b0_3 b0_4 b1_0 b1_1 b1_2 b1_3 b1_4 b1_5 b1_6 b1_7 b1_8 b2 b3_0 b3_2 b3_3 b3_4 b4)
  exact e
theorem C164_l9_eq (n:Nat):∀ (k:Nat) (v60:Int) (v58:List (ByteArray)) (v0:ByteArray) (v59:Int) (b0_0:Int) (b0_2:Bool) (b0_3:Int) (b0_4:Int) (b1_0:Int) (b1_2:Bool) (b1_3:Int) (b1_4:Int) (b2:List OB9),iter (interp (C164cs n) ty 131 0 n C164kp (codeAt C164c [1,1,1,1,1,1,0,1,0,0])) (canon 0 (C164kp.loop 9)) (C164k0 n) k (C164s9 v60 v58 v0 v59 b0_0 b0_2 b0_3 b0_4 b1_0 b1_2 b1_3 b1_4 b2)=C164_l9 n k v60 v58 v0 v59 b0_0 b0_2 b0_3 b0_4 b1_0 b1_2 b1_3 b1_4 b2
 | 0,_,_,_,_,_,_,_,_,_,_,_,_,_=>by kernel_rfl
 | k+1,v60,v58,v0,v59,b0_0,b0_2,b0_3,b0_4,b1_0,b1_2,b1_3,b1_4,b2=>by
  refine Eq.trans (b:=C164_t9 n (fun k' v96 v94n v58 v0 v59 v60 v95 b0_0 b0_2 b0_3 b0_4 b1_0 b1_1 b1_2 b1_3 b1_4 b1_5 b1_6 b1_7 b1_8 b2 b3_0 b3_2 b3_3 b3_4 b4=>iter (interp (C164cs n) ty 131 0 n C164kp (codeAt C164c [1,1,1,1,1,1,0,1,0,0,1,1,0,0,1,1,1,1,1,1,0,1,0,0])) (canon 0 (C164kp.loop 18)) (kAt (C164cs n) ty 131 0 n C164kp C164c [1,1,1,1,1,1,0,1,0,0,1,1,0,0,1,1,1,1,1,1,0,1,0] [(fun s=>iter (interp (C164cs n) ty 131 0 n C164kp (codeAt C164c [1,1,1,1,1,1,0,1,0,0])) (canon 0 (C164kp.loop 9)) (C164k0 n) k s)] (ending ty 0 Go.Proofs.Tryz.f7.results.toList C164rs C164bs)) k' (C164s18 v96 v94n v58 v0 v59 v60 v95 b0_0 b0_2 b0_3 b0_4 b1_0 b1_1 b1_2 b1_3 b1_4 b1_5 b1_6 b1_7 b1_8 b2 b3_0 b3_2 b3_3 b3_4 b4)) (fun v60 v58 v0 v59 b0_0 b0_2 b0_3 b0_4 b1_0 b1_2 b1_3 b1_4 b2=>iter (interp (C164cs n) ty 131 0 n C164kp (codeAt C164c [1,1,1,1,1,1,0,1,0,0])) (canon 0 (C164kp.loop 9)) (C164k0 n) k (C164s9 v60 v58 v0 v59 b0_0 b0_2 b0_3 b0_4 b1_0 b1_2 b1_3 b1_4 b2)) v60 v58 v0 v59 b0_0 b0_2 b0_3 b0_4 b1_0 b1_2 b1_3 b1_4 b2) (by kernel_rfl) ?_
  have e:=congr (congrArg (fun h18 g=>C164_t9 n h18 g v60 v58 v0 v59 b0_0 b0_2 b0_3 b0_4 b1_0 b1_2 b1_3 b1_4 b2) ((funext fun k'=>funext fun v96=>funext fun v94n=>funext fun v58=>funext fun v0=>funext fun v59=>funext fun v60=>funext fun v95=>funext fun b0_0=>funext fun b0_2=>funext fun b0_3=>funext fun b0_4=>funext fun b1_0=>funext fun b1_1=>funext fun b1_2=>funext fun b1_3=>funext fun b1_4=>funext fun b1_5=>funext fun b1_6=>funext fun b1_7=>funext fun b1_8=>funext fun b2=>funext fun b3_0=>funext fun b3_2=>funext fun b3_3=>funext fun b3_4=>funext fun b4=>C164_l18_eq n (fun s=>iter (interp (C164cs n) ty 131 0 n C164kp (codeAt C164c [1,1,1,1,1,1,0,1,0,0])) (canon 0 (C164kp.loop 9)) (C164k0 n) k s) k' v96 v94n v58 v0 v59 v60 v95 b0_0 b0_2 b0_3 b0_4 b1_0 b1_1 b1_2 b1_3 b1_4 b1_5 b1_6 b1_7 b1_8 b2 b3_0 b3_2 b3_3 b3_4 b4).trans (congrArg (fun z=>C164_l18 n z) (funext fun v60=>funext fun v58=>funext fun v0=>funext fun v59=>funext fun b0_0=>funext fun b0_2=>funext fun b0_3=>funext fun b0_4=>funext fun b1_0=>funext fun b1_2=>funext fun b1_3=>funext fun b1_4=>funext fun b2=>C164_l9_eq n k v60 v58 v0 v59 b0_0 b0_2 b0_3 b0_4 b1_0 b1_2 b1_3 b1_4 b2)))) (funext fun v60=>funext fun v58=>funext fun v0=>funext fun v59=>funext fun b0_0=>funext fun b0_2=>funext fun b0_3=>funext fun b0_4=>funext fun b1_0=>funext fun b1_2=>funext fun b1_3=>funext fun b1_4=>funext fun b2=>C164_l9_eq n k v60 v58 v0 v59 b0_0 b0_2 b0_3 b0_4 b1_0 b1_2 b1_3 b1_4 b2)
  exact e
theorem C164_eq (n:Nat) (a0:ByteArray):Z702 (C164cs n) ty 131 n C164kp C164c Go.Proofs.Tryz.f7.results.toList C164rs C164sp C164bs (a0,()) ()=C164 n a0:=by
 refine Eq.trans (b:=C164_t n (fun k v60 v58 v0 v59 b0_0 b0_2 b0_3 b0_4 b1_0 b1_2 b1_3 b1_4 b2=>iter (interp (C164cs n) ty 131 0 n C164kp (codeAt C164c [1,1,1,1,1,1,0,1,0,0])) (canon 0 (C164kp.loop 9)) (C164k0 n) k (C164s9 v60 v58 v0 v59 b0_0 b0_2 b0_3 b0_4 b1_0 b1_2 b1_3 b1_4 b2)) a0) (by kernel_rfl) ?_
 have e:=congrArg (fun h9=>C164_t n h9 a0) (funext fun k=>funext fun v60=>funext fun v58=>funext fun v0=>funext fun v59=>funext fun b0_0=>funext fun b0_2=>funext fun b0_3=>funext fun b0_4=>funext fun b1_0=>funext fun b1_2=>funext fun b1_3=>funext fun b1_4=>funext fun b2=>C164_l9_eq n k v60 v58 v0 v59 b0_0 b0_2 b0_3 b0_4 b1_0 b1_2 b1_3 b1_4 b2)
 exact e
theorem C164_ok (n:Nat):FunOk P (C164F n) :=
 Z465 (C:=[C405F n,C292F n,C364F n,C426F n,C226F n,C366F n,C121F n,C169F n]) (N:=131) (kp:=C164kp) (c:=C164c) (n:=n) (G:=fun x y=>C164 n x.1) follows (AllOk.mem (⟨C405_ok n,⟨C292_ok n,⟨C364_ok n,⟨C426_ok n,⟨C226_ok n,⟨C366_ok n,⟨C121_ok n,⟨C169_ok n,trivial⟩⟩⟩⟩⟩⟩⟩⟩:AllOk P ([C405F n,C292F n,C364F n,C426F n,C226F n,C366F n,C121F n,C169F n]))) (by kernel_rfl:P.funcs[7]?=some Go.Proofs.Tryz.f7) (by kernel_rfl) (by kernel_rfl) (by kernel_rfl)
  (fun x y=>C164_eq n x.1) (fun _ _=>Z489 (fun _=>rfl) _) (fun _ _ _ _=>rfl)
abbrev C53sp:List Sp:=[.ref 0,.v true (.pair (.int .i64) (.pair (.list tO) (.pair .bool tF))),.v false (.list tF)]
abbrev C53bs:List (Bs×Bool):=[(.var 77 .bool,true)]
abbrev C53rs:List (Bool×List Rp):=[(false,[.new  tF])]
noncomputable def C53kp:Keep:={ loop:=fun id=>match id with | 3=>([0,17,7,2,15,16],[]) | 7=>([25,10,9,0,23,2,15,16,17,7,24],[]) | _=>([],[]),join:=fun id=>match id with | _=>none }
noncomputable def C53c:Code:=bodyOf Go.Proofs.Tryz.f53
noncomputable def C53F (n:Nat):Fun:={ id:=53,sp:=C53sp,bs:=C53bs,rs:=C53rs,f:=fun x y=>C53 n x.2.1 x.2.2.1 y.1 }
noncomputable abbrev C53cs (n:Nat):List Fun:=[C430F n,C236F n,C238F n]
abbrev C53s7 (v25:Int) (v23:List (Int×Int)) (v2:List (Int×Int)) (v15:List OB9) (v16:Int) (v17:Int) (v24:Int) (b0:Bool) (b1_0:Int) (b1_1:Int) (b2_0:Int) (b2_1:Int) (b2_2:Int) (b2_3:Int) (b2_4:Int) (b2_5:Int) (b2_6:Int) (b2_7:Int) (b2_8:Int) (b3:List (Int×Int)):St:={ env:=[(25,.one (.sc (.int .i64 v25))),(10,.one (.ref 1 0 0 0 0 0)),(9,.one (.ref 2 0 0 0 0 0)),(0,.one (.ref 0 0 0 0 0 0)),(23,.one (.list true tF v23)),(2,.one (.list true tF v2)),(15,.one (.list true tO v15)),(16,.one (.sc (.int .i64 v16))),(17,.one (.sc (.int .i64 v17))),(7,.one (.slice 3 0 none)),(24,.one (.sc (.int .i64 v24)))],bx:=[(0,.var 77 [.sc (.bool b0)]),(1,.var 26 [.sc (.int .i64 b1_0),.sc (.int .i64 b1_1)]),(2,.var 52 [.sc (.int .i8 b2_0),.sc (.int .i8 b2_1),.sc (.int .i8 b2_2),.sc (.int .i8 b2_3),.sc (.int .i8 b2_4),.sc (.int .i8 b2_5),.sc (.int .i64 b2_6),.sc (.int .i64 b2_7),.sc (.int .i64 b2_8)]),(3,.row 0 tF b3)],nx:=4 }
abbrev C53s3 (v17:Int) (v2:List (Int×Int)) (v15:List OB9) (v16:Int) (b0:Bool) (b1:List (Int×Int)):St:={ env:=[(0,.one (.ref 0 0 0 0 0 0)),(17,.one (.sc (.int .i64 v17))),(7,.one (.slice 1 0 none)),(2,.one (.list true tF v2)),(15,.one (.list true tO v15)),(16,.one (.sc (.int .i64 v16)))],bx:=[(0,.var 77 [.sc (.bool b0)]),(1,.row 0 tF b1)],nx:=2 }
noncomputable abbrev C53k0 (n:Nat):=kAt (C53cs n) ty 54 1 n C53kp C53c [1,1,0,1,0] [] (ending ty 1 Go.Proofs.Tryz.f53.results.toList C53rs C53bs)
theorem C53_l7_eq (n:Nat) (G3:St→Option ((((List (Int×Int))×(Unit))×(Unit))×((Bool)×(Unit)))):∀ (k:Nat) (v25:Int) (v23:List (Int×Int)) (v2:List (Int×Int)) (v15:List OB9) (v16:Int) (v17:Int) (v24:Int) (b0:Bool) (b1_0:Int) (b1_1:Int) (b2_0:Int) (b2_1:Int) (b2_2:Int) (b2_3:Int) (b2_4:Int) (b2_5:Int) (b2_6:Int) (b2_7:Int) (b2_8:Int) (b3:List (Int×Int)),iter (interp (C53cs n) ty 54 1 n C53kp (codeAt C53c [1,1,0,1,0,0,1,1,0,0,1,1,0,1,0,0])) (canon 1 (C53kp.loop 7)) (kAt (C53cs n) ty 54 1 n C53kp C53c [1,1,0,1,0,0,1,1,0,0,1,1,0,1,0] [G3] (ending ty 1 Go.Proofs.Tryz.f53.results.toList C53rs C53bs)) k (C53s7 v25 v23 v2 v15 v16 v17 v24 b0 b1_0 b1_1 b2_0 b2_1 b2_2 b2_3 b2_4 b2_5 b2_6 b2_7 b2_8 b3)=C53_l7 n (fun v17 v2 v15 v16 b0 b1=>G3 (C53s3 v17 v2 v15 v16 b0 b1)) k v25 v23 v2 v15 v16 v17 v24 b0 b1_0 b1_1 b2_0 b2_1 b2_2 b2_3 b2_4 b2_5 b2_6 b2_7 b2_8 b3
 | 0,_,_,_,_,_,_,_,_,_,_,_,_,_,_,_,_,_,_,_,_=>by kernel_rfl
 | k+1,v25,v23,v2,v15,v16,v17,v24,b0,b1_0,b1_1,b2_0,b2_1,b2_2,b2_3,b2_4,b2_5,b2_6,b2_7,b2_8,b3=>by
  refine Eq.trans (b:=C53_t7 n (fun v17 v2 v15 v16 b0 b1=>G3 (C53s3 v17 v2 v15 v16 b0 b1)) (fun v25 v23 v2 v15 v16 v17 v24 b0 b1_0 b1_1 b2_0 b2_1 b2_2 b2_3 b2_4 b2_5 b2_6 b2_7 b2_8 b3=>iter (interp (C53cs n) ty 54 1 n C53kp (codeAt C53c [1,1,0,1,0,0,1,1,0,0,1,1,0,1,0,0])) (canon 1 (C53kp.loop 7)) (kAt (C53cs n) ty 54 1 n C53kp C53c [1,1,0,1,0,0,1,1,0,0,1,1,0,1,0] [G3] (ending ty 1 Go.Proofs.Tryz.f53.results.toList C53rs C53bs)) k (C53s7 v25 v23 v2 v15 v16 v17 v24 b0 b1_0 b1_1 b2_0 b2_1 b2_2 b2_3 b2_4 b2_5 b2_6 b2_7 b2_8 b3)) v25 v23 v2 v15 v16 v17 v24 b0 b1_0 b1_1 b2_0 b2_1 b2_2 b2_3 b2_4 b2_5 b2_6 b2_7 b2_8 b3) (by kernel_rfl) ?_
  have e:=congrArg (fun g=>C53_t7 n (fun v17 v2 v15 v16 b0 b1=>G3 (C53s3 v17 v2 v15 v16 b0 b1)) g v25 v23 v2 v15 v16 v17 v24 b0 b1_0 b1_1 b2_0 b2_1 b2_2 b2_3 b2_4 b2_5 b2_6 b2_7 b2_8 b3) (funext fun v25=>funext fun v23=>funext fun v2=>funext fun v15=>funext fun v16=>funext fun v17=>funext fun v24=>funext fun b0=>funext fun b1_0=>funext fun b1_1=>funext fun b2_0=>funext fun b2_1=>funext fun b2_2=>funext fun b2_3=>funext fun b2_4=>funext fun b2_5=>funext fun b2_6=>funext fun b2_7=>funext fun b2_8=>funext fun b3=>C53_l7_eq n G3 k v25 v23 v2 v15 v16 v17 v24 b0 b1_0 b1_1 b2_0 b2_1 b2_2 b2_3 b2_4 b2_5 b2_6 b2_7 b2_8 b3)
  exact e
theorem C53_l3_eq (n:Nat):∀ (k:Nat) (v17:Int) (v2:List (Int×Int)) (v15:List OB9) (v16:Int) (b0:Bool) (b1:List (Int×Int)),iter (interp (C53cs n) ty 54 1 n C53kp (codeAt C53c [1,1,0,1,0,0])) (canon 1 (C53kp.loop 3)) (C53k0 n) k (C53s3 v17 v2 v15 v16 b0 b1)=C53_l3 n k v17 v2 v15 v16 b0 b1
 | 0,_,_,_,_,_,_=>by kernel_rfl
 | k+1,v17,v2,v15,v16,b0,b1=>by
  refine Eq.trans (b:=C53_t3 n (fun k' v25 v23 v2 v15 v16 v17 v24 b0 b1_0 b1_1 b2_0 b2_1 b2_2 b2_3 b2_4 b2_5 b2_6 b2_7 b2_8 b3=>iter (interp (C53cs n) ty 54 1 n C53kp (codeAt C53c [1,1,0,1,0,0,1,1,0,0,1,1,0,1,0,0])) (canon 1 (C53kp.loop 7)) (kAt (C53cs n) ty 54 1 n C53kp C53c [1,1,0,1,0,0,1,1,0,0,1,1,0,1,0] [(fun s=>iter (interp (C53cs n) ty 54 1 n C53kp (codeAt C53c [1,1,0,1,0,0])) (canon 1 (C53kp.loop 3)) (C53k0 n) k s)] (ending ty 1 Go.Proofs.Tryz.f53.results.toList C53rs C53bs)) k' (C53s7 v25 v23 v2 v15 v16 v17 v24 b0 b1_0 b1_1 b2_0 b2_1 b2_2 b2_3 b2_4 b2_5 b2_6 b2_7 b2_8 b3)) (fun v17 v2 v15 v16 b0 b1=>iter (interp (C53cs n) ty 54 1 n C53kp (codeAt C53c [1,1,0,1,0,0])) (canon 1 (C53kp.loop 3)) (C53k0 n) k (C53s3 v17 v2 v15 v16 b0 b1)) v17 v2 v15 v16 b0 b1) (by kernel_rfl) ?_
  have e:=congr (congrArg (fun h7 g=>C53_t3 n h7 g v17 v2 v15 v16 b0 b1) ((funext fun k'=>funext fun v25=>funext fun v23=>funext fun v2=>funext fun v15=>funext fun v16=>funext fun v17=>funext fun v24=>funext fun b0=>funext fun b1_0=>funext fun b1_1=>funext fun b2_0=>funext fun b2_1=>funext fun b2_2=>funext fun b2_3=>funext fun b2_4=>funext fun b2_5=>funext fun b2_6=>funext fun b2_7=>funext fun b2_8=>funext fun b3=>C53_l7_eq n (fun s=>iter (interp (C53cs n) ty 54 1 n C53kp (codeAt C53c [1,1,0,1,0,0])) (canon 1 (C53kp.loop 3)) (C53k0 n) k s) k' v25 v23 v2 v15 v16 v17 v24 b0 b1_0 b1_1 b2_0 b2_1 b2_2 b2_3 b2_4 b2_5 b2_6 b2_7 b2_8 b3).trans (congrArg (fun z=>C53_l7 n z) (funext fun v17=>funext fun v2=>funext fun v15=>funext fun v16=>funext fun b0=>funext fun b1=>C53_l3_eq n k v17 v2 v15 v16 b0 b1)))) (funext fun v17=>funext fun v2=>funext fun v15=>funext fun v16=>funext fun b0=>funext fun b1=>C53_l3_eq n k v17 v2 v15 v16 b0 b1)
  exact e
theorem C53_eq (n:Nat) (a1:(Int)×((List OB9)×((Bool)×(Int×Int)))) (a2:List (Int×Int)) (b0:Bool):Z702 (C53cs n) ty 54 n C53kp C53c Go.Proofs.Tryz.f53.results.toList C53rs C53sp C53bs ((),(a1,(a2,()))) (b0,())=C53 n a1 a2 b0:=by
 refine Eq.trans (b:=C53_t n (fun k v17 v2 v15 v16 b0 b1=>iter (interp (C53cs n) ty 54 1 n C53kp (codeAt C53c [1,1,0,1,0,0])) (canon 1 (C53kp.loop 3)) (C53k0 n) k (C53s3 v17 v2 v15 v16 b0 b1)) a1 a2 b0) (by kernel_rfl) ?_
 have e:=congrArg (fun h3=>C53_t n h3 a1 a2 b0) (funext fun k=>funext fun v17=>funext fun v2=>funext fun v15=>funext fun v16=>funext fun b0=>funext fun b1=>C53_l3_eq n k v17 v2 v15 v16 b0 b1)
 exact e
theorem C53_ok (n:Nat):FunOk P (C53F n) :=
 Z465 (C:=[C430F n,C236F n,C238F n]) (N:=54) (kp:=C53kp) (c:=C53c) (n:=n) (G:=fun x y=>C53 n x.2.1 x.2.2.1 y.1) follows (AllOk.mem (⟨C430_ok n,⟨C236_ok n,⟨C238_ok n,trivial⟩⟩⟩:AllOk P ([C430F n,C236F n,C238F n]))) (by kernel_rfl:P.funcs[53]?=some Go.Proofs.Tryz.f53) (by kernel_rfl) (by kernel_rfl) (by kernel_rfl)
  (fun x y=>C53_eq n x.2.1 x.2.2.1 y.1) (fun _ _=>Z489 (fun _=>rfl) _) (fun _ _ _ _=>rfl)
abbrev C91sp:List Sp:=[.v true (.pair (.int .i64) (.pair (.list tO) (.pair .bool tF))),.v false (.list tF)]
abbrev C91bs:List (Bs×Bool):=[]
abbrev C91rs:List (Bool×List Rp):=[(false,[.new  tF]),(false,[.v false (.int .i64)])]
noncomputable def C91kp:Keep:={ loop:=fun id=>match id with | _=>([],[]),join:=fun id=>match id with | _=>none }
noncomputable def C91c:Code:=bodyOf Go.Proofs.Tryz.f24
noncomputable def C91F (n:Nat):Fun:={ id:=24,sp:=C91sp,bs:=C91bs,rs:=C91rs,f:=fun x y=>C91 n x.1 x.2.1 }
theorem C91_eq (n:Nat) (a0:(Int)×((List OB9)×((Bool)×(Int×Int)))) (a1:List (Int×Int)):Z702 ([C123F n,C53F n]) ty 26 n C91kp C91c Go.Proofs.Tryz.f24.results.toList C91rs C91sp C91bs (a0,(a1,())) ()=C91 n a0 a1:=by
 refine Eq.trans (b:=C91_t n a0 a1) (by kernel_rfl) ?_
 rfl
theorem C91_ok (n:Nat):FunOk P (C91F n) :=
 Z465 (C:=[C123F n,C53F n]) (N:=26) (kp:=C91kp) (c:=C91c) (n:=n) (G:=fun x y=>C91 n x.1 x.2.1) follows (AllOk.mem (⟨C123_ok n,⟨C53_ok n,trivial⟩⟩:AllOk P ([C123F n,C53F n]))) (by kernel_rfl:P.funcs[24]?=some Go.Proofs.Tryz.f24) (by kernel_rfl) (by kernel_rfl) (by kernel_rfl)
  (fun x y=>C91_eq n x.1 x.2.1) (fun _ _=>Z489 (fun _=>rfl) _) (fun _ _ _ _=>rfl)
abbrev C26sp:List Sp:=[.v false (.list tO),.v false (.list tO)]
abbrev C26bs:List (Bs×Bool):=[]
abbrev C26rs:List (Bool×List Rp):=[(false,[.v false .bool])]
noncomputable def C26kp:Keep:={ loop:=fun id=>match id with | 4=>([13,1,0,12],[]) | _=>([],[]),join:=fun id=>match id with | _=>none }
noncomputable def C26c:Code:=bodyOf Go.Proofs.Tryz.f46
noncomputable def C26F (n:Nat):Fun:={ id:=46,sp:=C26sp,bs:=C26bs,rs:=C26rs,f:=fun x y=>C26 n x.1 x.2.1 }
abbrev C26s4 (v13:Int) (v1:List OB9) (v0:List OB9) (v12:Int):St:={ env:=[(13,.one (.sc (.int .i64 v13))),(1,.one (.list true tO v1)),(0,.one (.list true tO v0)),(12,.one (.sc (.int .i64 v12)))],bx:=[],nx:=0 }
noncomputable abbrev C26k0 (n:Nat):=kAt ([]) ty 26 0 n C26kp C26c [1,1,0,1,0] [] (ending ty 0 Go.Proofs.Tryz.f46.results.toList C26rs C26bs)
theorem C26_l4_eq (n:Nat):∀ (k:Nat) (v13:Int) (v1:List OB9) (v0:List OB9) (v12:Int),iter (interp ([]) ty 26 0 n C26kp (codeAt C26c [1,1,0,1,0,0])) (canon 0 (C26kp.loop 4)) (C26k0 n) k (C26s4 v13 v1 v0 v12)=C26_l4 n k v13 v1 v0 v12
 | 0,_,_,_,_=>by kernel_rfl
 | k+1,v13,v1,v0,v12=>by
  refine Eq.trans (b:=C26_t4 n (fun v13 v1 v0 v12=>iter (interp ([]) ty 26 0 n C26kp (codeAt C26c [1,1,0,1,0,0])) (canon 0 (C26kp.loop 4)) (C26k0 n) k (C26s4 v13 v1 v0 v12)) v13 v1 v0 v12) (by kernel_rfl) ?_
  have e:=congrArg (fun g=>C26_t4 n g v13 v1 v0 v12) (funext fun v13=>funext fun v1=>funext fun v0=>funext fun v12=>C26_l4_eq n k v13 v1 v0 v12)
  exact e
theorem C26_eq (n:Nat) (a0:List OB9) (a1:List OB9):Z702 ([]) ty 26 n C26kp C26c Go.Proofs.Tryz.f46.results.toList C26rs C26sp C26bs (a0,(a1,())) ()=C26 n a0 a1:=by
 refine Eq.trans (b:=C26_t n (fun k v13 v1 v0 v12=>iter (interp ([]) ty 26 0 n C26kp (codeAt C26c [1,1,0,1,0,0])) (canon 0 (C26kp.loop 4)) (C26k0 n) k (C26s4 v13 v1 v0 v12)) a0 a1) (by kernel_rfl) ?_
 have e:=congrArg (fun h4=>C26_t n h4 a0 a1) (funext fun k=>funext fun v13=>funext fun v1=>funext fun v0=>funext fun v12=>C26_l4_eq n k v13 v1 v0 v12)
 exact e
theorem C26_ok (n:Nat):FunOk P (C26F n) :=
 Z465 (C:=[]) (N:=26) (kp:=C26kp) (c:=C26c) (n:=n) (G:=fun x y=>C26 n x.1 x.2.1) follows (AllOk.mem (trivial:AllOk P ([]))) (by kernel_rfl:P.funcs[46]?=some Go.Proofs.Tryz.f46) (by kernel_rfl) (by kernel_rfl) (by kernel_rfl)
  (fun x y=>C26_eq n x.1 x.2.1) (fun _ _=>Z489 (fun _=>rfl) _) (fun _ _ _ _=>rfl)
abbrev C166sp:List Sp:=[.v true (.pair (.int .i64) (.pair (.list tO) (.pair .bool tF))),.v true (.pair (.int .i64) (.pair (.list tO) (.pair .bool tF)))]
abbrev C166bs:List (Bs×Bool):=[]
abbrev C166rs:List (Bool×List Rp):=[(false,[.v false .bool])]
noncomputable def C166kp:Keep:={ loop:=fun id=>match id with | _=>([],[]),join:=fun id=>match id with | _=>none }
noncomputable def C166c:Code:=bodyOf Go.Proofs.Tryz.f14
noncomputable def C166F (n:Nat):Fun:={ id:=14,sp:=C166sp,bs:=C166bs,rs:=C166rs,f:=fun x y=>C166 n x.1 x.2.1 }
theorem C166_eq (n:Nat) (a0:(Int)×((List OB9)×((Bool)×(Int×Int)))) (a1:(Int)×((List OB9)×((Bool)×(Int×Int)))):Z702 ([C26F n]) ty 31 n C166kp C166c Go.Proofs.Tryz.f14.results.toList C166rs C166sp C166bs (a0,(a1,())) ()=C166 n a0 a1:=by
 refine Eq.trans (b:=C166_t n a0 a1) (by kernel_rfl) ?_
 rfl
theorem C166_ok (n:Nat):FunOk P (C166F n) :=
 Z465 (C:=[C26F n]) (N:=31) (kp:=C166kp) (c:=C166c) (n:=n) (G:=fun x y=>C166 n x.1 x.2.1) follows (AllOk.mem (⟨C26_ok n,trivial⟩:AllOk P ([C26F n]))) (by kernel_rfl:P.funcs[14]?=some Go.Proofs.Tryz.f14) (by kernel_rfl) (by kernel_rfl) (by kernel_rfl)
  (fun x y=>C166_eq n x.1 x.2.1) (fun _ _=>Z489 (fun _=>rfl) _) (fun _ _ _ _=>rfl)
abbrev C237sp:List Sp:=[.ref 0,.v true tF]
abbrev C237bs:List (Bs×Bool):=[(.var 77 .bool,true)]
abbrev C237rs:List (Bool×List Rp):=[(true,[.v false tF]),(false,[.v false (.int .i64)])]
noncomputable def C237kp:Keep:={ loop:=fun id=>match id with | _=>([],[]),join:=fun id=>match id with | _=>none }
noncomputable def C237c:Code:=bodyOf Go.Proofs.Tryz.f56
noncomputable def C237F (n:Nat):Fun:={ id:=56,sp:=C237sp,bs:=C237bs,rs:=C237rs,f:=fun x y=>C237 n x.2.1 y.1 }
theorem C237_eq (n:Nat) (a1:(Int)×(Int)) (b0:Bool):Z702 ([]) ty 12 n C237kp C237c Go.Proofs.Tryz.f56.results.toList C237rs C237sp C237bs ((),(a1,())) (b0,())=C237 n a1 b0:=by
 refine Eq.trans (b:=C237_t n a1 b0) (by kernel_rfl) ?_
 rfl
theorem C237_ok (n:Nat):FunOk P (C237F n) :=
 Z465 (C:=[]) (N:=12) (kp:=C237kp) (c:=C237c) (n:=n) (G:=fun x y=>C237 n x.2.1 y.1) follows (AllOk.mem (trivial:AllOk P ([]))) (by kernel_rfl:P.funcs[56]?=some Go.Proofs.Tryz.f56) (by kernel_rfl) (by kernel_rfl) (by kernel_rfl)
  (fun x y=>C237_eq n x.2.1 y.1) (fun _ _=>Z489 (fun _=>rfl) _) (fun _ _ _ _=>rfl)
abbrev C168sp:List Sp:=[.v true (.pair (.int .i64) (.pair (.list tO) (.pair .bool tF))),.v false (.list tF)]
abbrev C168bs:List (Bs×Bool):=[]
abbrev C168rs:List (Bool×List Rp):=[(true,[.v false tF]),(false,[.v false (.int .i64)])]
noncomputable def C168kp:Keep:={ loop:=fun id=>match id with | 6=>([26,8,2,7,24,4,25],[]) | _=>([],[]),join:=fun id=>match id with | _=>none }
noncomputable def C168c:Code:=bodyOf Go.Proofs.Tryz.f18
noncomputable def C168F (n:Nat):Fun:={ id:=18,sp:=C168sp,bs:=C168bs,rs:=C168rs,f:=fun x y=>C168 n x.1 x.2.1 }
noncomputable abbrev C168cs (n:Nat):List Fun:=[C123F n,C426F n,C53F n,C236F n,C430F n,C234F n,C237F n]
abbrev C168s6 (v26:Int) (v25:Int) (b0_0:Int) (b0_1:Int) (b1_0:Int) (b1_1:List OB9) (b1_2:Bool) (b1_3:Int) (b1_4:Int) (b2:Bool) (b3:List (Int×Int)) (b4_0:Int) (b4_1:Int):St:={ env:=[(26,.one (.sc (.int .i64 v26))),(8,.one (.ref 0 0 0 0 0 0)),(2,.one (.ref 1 0 0 0 0 0)),(7,.one (.ref 2 0 0 0 0 0)),(24,.one (.slice 3 0 none)),(4,.one (.ref 4 0 0 0 0 0)),(25,.one (.sc (.int .i64 v25)))],bx:=[(0,.var 26 [.sc (.int .i64 b0_0),.sc (.int .i64 b0_1)]),(1,.var 28 [.sc (.int .i64 b1_0),.list true tO b1_1,.sc (.bool b1_2),.sc (.int .i64 b1_3),.sc (.int .i64 b1_4)]),(2,.var 77 [.sc (.bool b2)]),(3,.row 0 tF b3),(4,.var 26 [.sc (.int .i64 b4_0),.sc (.int .i64 b4_1)])],nx:=5 }
noncomputable abbrev C168k0 (n:Nat):=kAt (C168cs n) ty 53 0 n C168kp C168c [1,1,1,0,1,0] [] (ending ty 0 Go.Proofs.Tryz.f18.results.toList C168rs C168bs)
theorem C168_l6_eq (n:Nat):∀ (k:Nat) (v26:Int) (v25:Int) (b0_0:Int) (b0_1:Int) (b1_0:Int) (b1_1:List OB9) (b1_2:Bool) (b1_3:Int) (b1_4:Int) (b2:Bool) (b3:List (Int×Int)) (b4_0:Int) (b4_1:Int),iter (interp (C168cs n) ty 53 0 n C168kp (codeAt C168c [1,1,1,0,1,0,0])) (canon 0 (C168kp.loop 6)) (C168k0 n) k (C168s6 v26 v25 b0_0 b0_1 b1_0 b1_1 b1_2 b1_3 b1_4 b2 b3 b4_0 b4_1)=C168_l6 n k v26 v25 b0_0 b0_1 b1_0 b1_1 b1_2 b1_3 b1_4 b2 b3 b4_0 b4_1
 | 0,_,_,_,_,_,_,_,_,_,_,_,_,_=>by kernel_rfl
 | k+1,v26,v25,b0_0,b0_1,b1_0,b1_1,b1_2,b1_3,b1_4,b2,b3,b4_0,b4_1=>by
  refine Eq.trans (b:=C168_t6 n (fun v26 v25 b0_0 b0_1 b1_0 b1_1 b1_2 b1_3 b1_4 b2 b3 b4_0 b4_1=>iter (interp (C168cs n) ty 53 0 n C168kp (codeAt C168c [1,1,1,0,1,0,0])) (canon 0 (C168kp.loop 6)) (C168k0 n) k (C168s6 v26 v25 b0_0 b0_1 b1_0 b1_1 b1_2 b1_3 b1_4 b2 b3 b4_0 b4_1)) v26 v25 b0_0 b0_1 b1_0 b1_1 b1_2 b1_3 b1_4 b2 b3 b4_0 b4_1) (by kernel_rfl) ?_
  have e:=congrArg (fun g=>C168_t6 n g v26 v25 b0_0 b0_1 b1_0 b1_1 b1_2 b1_3 b1_4 b2 b3 b4_0 b4_1) (funext fun v26=>funext fun v25=>funext fun b0_0=>funext fun b0_1=>funext fun b1_0=>funext fun b1_1=>funext fun b1_2=>funext fun b1_3=>funext fun b1_4=>funext fun b2=>funext fun b3=>funext fun b4_0=>funext fun b4_1=>C168_l6_eq n k v26 v25 b0_0 b0_1 b1_0 b1_1 b1_2 b1_3 b1_4 b2 b3 b4_0 b4_1)
  exact e
theorem C168_eq (n:Nat) (a0:(Int)×((List OB9)×((Bool)×(Int×Int)))) (a1:List (Int×Int)):Z702 (C168cs n) ty 53 n C168kp C168c Go.Proofs.Tryz.f18.results.toList C168rs C168sp C168bs (a0,(a1,())) ()=C168 n a0 a1:=by
 refine Eq.trans (b:=C168_t n (fun k v26 v25 b0_0 b0_1 b1_0 b1_1 b1_2 b1_3 b1_4 b2 b3 b4_0 b4_1=>iter (interp (C168cs n) ty 53 0 n C168kp (codeAt C168c [1,1,1,0,1,0,0])) (canon 0 (C168kp.loop 6)) (C168k0 n) k (C168s6 v26 v25 b0_0 b0_1 b1_0 b1_1 b1_2 b1_3 b1_4 b2 b3 b4_0 b4_1)) a0 a1) (by kernel_rfl) ?_
 have e:=congrArg (fun h6=>C168_t n h6 a0 a1) (funext fun k=>funext fun v26=>funext fun v25=>funext fun b0_0=>funext fun b0_1=>funext fun b1_0=>funext fun b1_1=>funext fun b1_2=>funext fun b1_3=>funext fun b1_4=>funext fun b2=>funext fun b3=>funext fun b4_0=>funext fun b4_1=>C168_l6_eq n k v26 v25 b0_0 b0_1 b1_0 b1_1 b1_2 b1_3 b1_4 b2 b3 b4_0 b4_1)
 exact e
theorem C168_ok (n:Nat):FunOk P (C168F n) :=
 Z465 (C:=[C123F n,C426F n,C53F n,C236F n,C430F n,C234F n,C237F n]) (N:=53) (kp:=C168kp) (c:=C168c) (n:=n) (G:=fun x y=>C168 n x.1 x.2.1) follows (AllOk.mem (⟨C123_ok n,⟨C426_ok n,⟨C53_ok n,⟨C236_ok n,⟨C430_ok n,⟨C234_ok n,⟨C237_ok n,trivial⟩⟩⟩⟩⟩⟩⟩:AllOk P ([C123F n,C426F n,C53F n,C236F n,C430F n,C234F n,C237F n]))) (by kernel_rfl:P.funcs[18]?=some Go.Proofs.Tryz.f18) (by kernel_rfl) (by kernel_rfl) (by kernel_rfl)
  (fun x y=>C168_eq n x.1 x.2.1) (fun _ _=>Z489 (fun _=>rfl) _) (fun _ _ _ _=>rfl)
abbrev C409sp:List Sp:=[.v false (.list (.int .u8))]
abbrev C409bs:List (Bs×Bool):=[]
abbrev C409rs:List (Bool×List Rp):=[(false,[.v false .bool])]
noncomputable def C409kp:Keep:={ loop:=fun id=>match id with | _=>([],[]),join:=fun id=>match id with | _=>none }
noncomputable def C409c:Code:=bodyOf Go.Proofs.Tryz.f4
noncomputable def C409F (n:Nat):Fun:={ id:=4,sp:=C409sp,bs:=C409bs,rs:=C409rs,f:=fun x y=>C409 n x.1 }
theorem C409_eq (n:Nat) (a0:List (Int)):Z702 ([]) ty 6 n C409kp C409c Go.Proofs.Tryz.f4.results.toList C409rs C409sp C409bs (a0,()) ()=C409 n a0:=by
 refine Eq.trans (b:=C409_t n a0) (by kernel_rfl) ?_
 rfl
theorem C409_ok (n:Nat):FunOk P (C409F n) :=
 Z465 (C:=[]) (N:=6) (kp:=C409kp) (c:=C409c) (n:=n) (G:=fun x y=>C409 n x.1) follows (AllOk.mem (trivial:AllOk P ([]))) (by kernel_rfl:P.funcs[4]?=some Go.Proofs.Tryz.f4) (by kernel_rfl) (by kernel_rfl) (by kernel_rfl)
  (fun x y=>C409_eq n x.1) (fun _ _=>Z489 (fun _=>rfl) _) (fun _ _ _ _=>rfl)
abbrev C390sp:List Sp:=[.v true tF,.v true tF]
abbrev C390bs:List (Bs×Bool):=[]
abbrev C390rs:List (Bool×List Rp):=[(false,[.v false (.int .i64)])]
noncomputable def C390kp:Keep:={ loop:=fun id=>match id with | _=>([],[]),join:=fun id=>match id with | _=>none }
noncomputable def C390c:Code:=bodyOf Go.Proofs.Tryz.f88
noncomputable def C390F (n:Nat):Fun:={ id:=88,sp:=C390sp,bs:=C390bs,rs:=C390rs,f:=fun x y=>C390 n x.1 x.2.1 }
theorem C390_eq (n:Nat) (a0:(Int)×(Int)) (a1:(Int)×(Int)):Z702 ([]) ty 25 n C390kp C390c Go.Proofs.Tryz.f88.results.toList C390rs C390sp C390bs (a0,(a1,())) ()=C390 n a0 a1:=by
 refine Eq.trans (b:=C390_t n a0 a1) (by kernel_rfl) ?_
 rfl
theorem C390_ok (n:Nat):FunOk P (C390F n) :=
 Z465 (C:=[]) (N:=25) (kp:=C390kp) (c:=C390c) (n:=n) (G:=fun x y=>C390 n x.1 x.2.1) follows (AllOk.mem (trivial:AllOk P ([]))) (by kernel_rfl:P.funcs[88]?=some Go.Proofs.Tryz.f88) (by kernel_rfl) (by kernel_rfl) (by kernel_rfl)
  (fun x y=>C390_eq n x.1 x.2.1) (fun _ _=>Z489 (fun _=>rfl) _) (fun _ _ _ _=>rfl)
abbrev C414sp:List Sp:=[.v false (.int .i64),.v false (.int .i64),.v false (.int .i64)]
abbrev C414bs:List (Bs×Bool):=[]
abbrev C414rs:List (Bool×List Rp):=[(false,[.v false .bool])]
noncomputable def C414kp:Keep:={ loop:=fun id=>match id with | _=>([],[]),join:=fun id=>match id with | _=>none }
noncomputable def C414c:Code:=bodyOf Go.Proofs.Tryz.f103
noncomputable def C414F (n:Nat):Fun:={ id:=103,sp:=C414sp,bs:=C414bs,rs:=C414rs,f:=fun x y=>C414 n x.1 x.2.1 x.2.2.1 }
theorem C414_eq (n:Nat) (a0:Int) (a1:Int) (a2:Int):Z702 ([]) ty 15 n C414kp C414c Go.Proofs.Tryz.f103.results.toList C414rs C414sp C414bs (a0,(a1,(a2,()))) ()=C414 n a0 a1 a2:=by
 refine Eq.trans (b:=C414_t n a0 a1 a2) (by kernel_rfl) ?_
 rfl
theorem C414_ok (n:Nat):FunOk P (C414F n) :=
 Z465 (C:=[]) (N:=15) (kp:=C414kp) (c:=C414c) (n:=n) (G:=fun x y=>C414 n x.1 x.2.1 x.2.2.1) follows (AllOk.mem (trivial:AllOk P ([]))) (by kernel_rfl:P.funcs[103]?=some Go.Proofs.Tryz.f103) (by kernel_rfl) (by kernel_rfl) (by kernel_rfl)
  (fun x y=>C414_eq n x.1 x.2.1 x.2.2.1) (fun _ _=>Z489 (fun _=>rfl) _) (fun _ _ _ _=>rfl)
abbrev C388sp:List Sp:=[.v false (.int .i64)]
abbrev C388bs:List (Bs×Bool):=[]
abbrev C388rs:List (Bool×List Rp):=[(false,[.v false (.int .i64)])]
noncomputable def C388kp:Keep:={ loop:=fun id=>match id with | _=>([],[]),join:=fun id=>match id with | _=>none }
noncomputable def C388c:Code:=bodyOf Go.Proofs.Tryz.f92
noncomputable def C388F (n:Nat):Fun:={ id:=92,sp:=C388sp,bs:=C388bs,rs:=C388rs,f:=fun x y=>C388 n x.1 }
theorem C388_eq (n:Nat) (a0:Int):Z702 ([]) ty 8 n C388kp C388c Go.Proofs.Tryz.f92.results.toList C388rs C388sp C388bs (a0,()) ()=C388 n a0:=by
 refine Eq.trans (b:=C388_t n a0) (by kernel_rfl) ?_
 rfl
theorem C388_ok (n:Nat):FunOk P (C388F n) :=
 Z465 (C:=[]) (N:=8) (kp:=C388kp) (c:=C388c) (n:=n) (G:=fun x y=>C388 n x.1) follows (AllOk.mem (trivial:AllOk P ([]))) (by kernel_rfl:P.funcs[92]?=some Go.Proofs.Tryz.f92) (by kernel_rfl) (by kernel_rfl) (by kernel_rfl)
  (fun x y=>C388_eq n x.1) (fun _ _=>Z489 (fun _=>rfl) _) (fun _ _ _ _=>rfl)
abbrev C392sp:List Sp:=[.v false (.int .i64),.v false (.int .i64)]
abbrev C392bs:List (Bs×Bool):=[]
abbrev C392rs:List (Bool×List Rp):=[(false,[.v false (.int .i64)])]
noncomputable def C392kp:Keep:={ loop:=fun id=>match id with | 1=>([1,0],[]) | _=>([],[]),join:=fun id=>match id with | _=>none }
noncomputable def C392c:Code:=bodyOf Go.Proofs.Tryz.f91
noncomputable def C392F (n:Nat):Fun:={ id:=91,sp:=C392sp,bs:=C392bs,rs:=C392rs,f:=fun x y=>C392 n x.1 x.2.1 }
abbrev C392s1 (v1:Int) (v0:Int):St:={ env:=[(1,.one (.sc (.int .i64 v1))),(0,.one (.sc (.int .i64 v0)))],bx:=[],nx:=0 }
noncomputable abbrev C392k0 (n:Nat):=kAt ([]) ty 14 0 n C392kp C392c [1,0,0] [] (ending ty 0 Go.Proofs.Tryz.f91.results.toList C392rs C392bs)
theorem C392_l1_eq (n:Nat):∀ (k:Nat) (v1:Int) (v0:Int),iter (interp ([]) ty 14 0 n C392kp (codeAt C392c [1,0,0,0])) (canon 0 (C392kp.loop 1)) (C392k0 n) k (C392s1 v1 v0)=C392_l1 n k v1 v0
 | 0,_,_=>by kernel_rfl
 | k+1,v1,v0=>by
  refine Eq.trans (b:=C392_t1 n (fun v1 v0=>iter (interp ([]) ty 14 0 n C392kp (codeAt C392c [1,0,0,0])) (canon 0 (C392kp.loop 1)) (C392k0 n) k (C392s1 v1 v0)) v1 v0) (by kernel_rfl) ?_
  have e:=congrArg (fun g=>C392_t1 n g v1 v0) (funext fun v1=>funext fun v0=>C392_l1_eq n k v1 v0)
  exact e
theorem C392_eq (n:Nat) (a0:Int) (a1:Int):Z702 ([]) ty 14 n C392kp C392c Go.Proofs.Tryz.f91.results.toList C392rs C392sp C392bs (a0,(a1,())) ()=C392 n a0 a1:=by
 refine Eq.trans (b:=C392_t n (fun k v1 v0=>iter (interp ([]) ty 14 0 n C392kp (codeAt C392c [1,0,0,0])) (canon 0 (C392kp.loop 1)) (C392k0 n) k (C392s1 v1 v0)) a0 a1) (by kernel_rfl) ?_
 have e:=congrArg (fun h1=>C392_t n h1 a0 a1) (funext fun k=>funext fun v1=>funext fun v0=>C392_l1_eq n k v1 v0)
 exact e
theorem C392_ok (n:Nat):FunOk P (C392F n) :=
 Z465 (C:=[]) (N:=14) (kp:=C392kp) (c:=C392c) (n:=n) (G:=fun x y=>C392 n x.1 x.2.1) follows (AllOk.mem (trivial:AllOk P ([]))) (by kernel_rfl:P.funcs[91]?=some Go.Proofs.Tryz.f91) (by kernel_rfl) (by kernel_rfl) (by kernel_rfl)
  (fun x y=>C392_eq n x.1 x.2.1) (fun _ _=>Z489 (fun _=>rfl) _) (fun _ _ _ _=>rfl)
abbrev C415sp:List Sp:=[.v true tF]
abbrev C415bs:List (Bs×Bool):=[]
abbrev C415rs:List (Bool×List Rp):=[(false,[.v false .bool])]
noncomputable def C415kp:Keep:={ loop:=fun id=>match id with | _=>([],[]),join:=fun id=>match id with | _=>none }
noncomputable def C415c:Code:=bodyOf Go.Proofs.Tryz.f86
noncomputable def C415F (n:Nat):Fun:={ id:=86,sp:=C415sp,bs:=C415bs,rs:=C415rs,f:=fun x y=>C415 n x.1 }
theorem C415_eq (n:Nat) (a0:(Int)×(Int)):Z702 ([C414F n,C388F n,C392F n]) ty 20 n C415kp C415c Go.Proofs.Tryz.f86.results.toList C415rs C415sp C415bs (a0,()) ()=C415 n a0:=by
 refine Eq.trans (b:=C415_t n a0) (by kernel_rfl) ?_
 rfl
theorem C415_ok (n:Nat):FunOk P (C415F n) :=
 Z465 (C:=[C414F n,C388F n,C392F n]) (N:=20) (kp:=C415kp) (c:=C415c) (n:=n) (G:=fun x y=>C415 n x.1) follows (AllOk.mem (⟨C414_ok n,⟨C388_ok n,⟨C392_ok n,trivial⟩⟩⟩:AllOk P ([C414F n,C388F n,C392F n]))) (by kernel_rfl:P.funcs[86]?=some Go.Proofs.Tryz.f86) (by kernel_rfl) (by kernel_rfl) (by kernel_rfl)
  (fun x y=>C415_eq n x.1) (fun _ _=>Z489 (fun _=>rfl) _) (fun _ _ _ _=>rfl)
abbrev C397sp:List Sp:=[.v true tF,.v true tF]
abbrev C397bs:List (Bs×Bool):=[]
abbrev C397rs:List (Bool×List Rp):=[(false,[.v false (.int .i64)])]
noncomputable def C397kp:Keep:={ loop:=fun id=>match id with | _=>([],[]),join:=fun id=>match id with | _=>none }
noncomputable def C397c:Code:=bodyOf Go.Proofs.Tryz.f59
noncomputable def C397F (n:Nat):Fun:={ id:=59,sp:=C397sp,bs:=C397bs,rs:=C397rs,f:=fun x y=>C397 n x.1 x.2.1 }
theorem C397_eq (n:Nat) (a0:(Int)×(Int)) (a1:(Int)×(Int)):Z702 ([C415F n]) ty 13 n C397kp C397c Go.Proofs.Tryz.f59.results.toList C397rs C397sp C397bs (a0,(a1,())) ()=C397 n a0 a1:=by
 refine Eq.trans (b:=C397_t n a0 a1) (by kernel_rfl) ?_
 rfl
theorem C397_ok (n:Nat):FunOk P (C397F n) :=
 Z465 (C:=[C415F n]) (N:=13) (kp:=C397kp) (c:=C397c) (n:=n) (G:=fun x y=>C397 n x.1 x.2.1) follows (AllOk.mem (⟨C415_ok n,trivial⟩:AllOk P ([C415F n]))) (by kernel_rfl:P.funcs[59]?=some Go.Proofs.Tryz.f59) (by kernel_rfl) (by kernel_rfl) (by kernel_rfl)
  (fun x y=>C397_eq n x.1 x.2.1) (fun _ _=>Z489 (fun _=>rfl) _) (fun _ _ _ _=>rfl)
abbrev C78sp:List Sp:=[.v true tF,.v true tF]
abbrev C78bs:List (Bs×Bool):=[]
abbrev C78rs:List (Bool×List Rp):=[(false,[.v false (.int .i64)]),(false,[.v false (.int .i64)])]
noncomputable def C78kp:Keep:={ loop:=fun id=>match id with | _=>([],[]),join:=fun id=>match id with | _=>none }
noncomputable def C78c:Code:=bodyOf Go.Proofs.Tryz.f62
noncomputable def C78F (n:Nat):Fun:={ id:=62,sp:=C78sp,bs:=C78bs,rs:=C78rs,f:=fun x y=>C78 n x.1 x.2.1 }
theorem C78_eq (n:Nat) (a0:(Int)×(Int)) (a1:(Int)×(Int)):Z702 ([C397F n,C390F n]) ty 16 n C78kp C78c Go.Proofs.Tryz.f62.results.toList C78rs C78sp C78bs (a0,(a1,())) ()=C78 n a0 a1:=by
 refine Eq.trans (b:=C78_t n a0 a1) (by kernel_rfl) ?_
 rfl
theorem C78_ok (n:Nat):FunOk P (C78F n) :=
 Z465 (C:=[C397F n,C390F n]) (N:=16) (kp:=C78kp) (c:=C78c) (n:=n) (G:=fun x y=>C78 n x.1 x.2.1) follows (AllOk.mem (⟨C397_ok n,⟨C390_ok n,trivial⟩⟩:AllOk P ([C397F n,C390F n]))) (by kernel_rfl:P.funcs[62]?=some Go.Proofs.Tryz.f62) (by kernel_rfl) (by kernel_rfl) (by kernel_rfl)
  (fun x y=>C78_eq n x.1 x.2.1) (fun _ _=>Z489 (fun _=>rfl) _) (fun _ _ _ _=>rfl)
abbrev C372sp:List Sp:=[.v true tF,.v true tF]
abbrev C372bs:List (Bs×Bool):=[]
abbrev C372rs:List (Bool×List Rp):=[(false,[.v false .bool])]
noncomputable def C372kp:Keep:={ loop:=fun id=>match id with | _=>([],[]),join:=fun id=>match id with | _=>none }
noncomputable def C372c:Code:=bodyOf Go.Proofs.Tryz.f22
noncomputable def C372F (n:Nat):Fun:={ id:=22,sp:=C372sp,bs:=C372bs,rs:=C372rs,f:=fun x y=>C372 n x.1 x.2.1 }
theorem C372_eq (n:Nat) (a0:(Int)×(Int)) (a1:(Int)×(Int)):Z702 ([C78F n]) ty 19 n C372kp C372c Go.Proofs.Tryz.f22.results.toList C372rs C372sp C372bs (a0,(a1,())) ()=C372 n a0 a1:=by
 refine Eq.trans (b:=C372_t n a0 a1) (by kernel_rfl) ?_
 rfl
theorem C372_ok (n:Nat):FunOk P (C372F n) :=
 Z465 (C:=[C78F n]) (N:=19) (kp:=C372kp) (c:=C372c) (n:=n) (G:=fun x y=>C372 n x.1 x.2.1) follows (AllOk.mem (⟨C78_ok n,trivial⟩:AllOk P ([C78F n]))) (by kernel_rfl:P.funcs[22]?=some Go.Proofs.Tryz.f22) (by kernel_rfl) (by kernel_rfl) (by kernel_rfl)
  (fun x y=>C372_eq n x.1 x.2.1) (fun _ _=>Z489 (fun _=>rfl) _) (fun _ _ _ _=>rfl)
abbrev C146sp:List Sp:=[.v false (.int .i64),.v false (.int .i64)]
abbrev C146bs:List (Bs×Bool):=[]
abbrev C146rs:List (Bool×List Rp):=[(true,[.v false tF]),(false,[.v false (.int .i64)])]
noncomputable def C146kp:Keep:={ loop:=fun id=>match id with | _=>([],[]),join:=fun id=>match id with | _=>none }
noncomputable def C146c:Code:=bodyOf Go.Proofs.Tryz.f69
noncomputable def C146F (n:Nat):Fun:={ id:=69,sp:=C146sp,bs:=C146bs,rs:=C146rs,f:=fun x y=>C146 n x.1 x.2.1 }
theorem C146_eq (n:Nat) (a0:Int) (a1:Int):Z702 ([C388F n,C392F n,C415F n]) ty 33 n C146kp C146c Go.Proofs.Tryz.f69.results.toList C146rs C146sp C146bs (a0,(a1,())) ()=C146 n a0 a1:=by
 refine Eq.trans (b:=C146_t n a0 a1) (by kernel_rfl) ?_
 rfl
theorem C146_ok (n:Nat):FunOk P (C146F n) :=
 Z465 (C:=[C388F n,C392F n,C415F n]) (N:=33) (kp:=C146kp) (c:=C146c) (n:=n) (G:=fun x y=>C146 n x.1 x.2.1) follows (AllOk.mem (⟨C388_ok n,⟨C392_ok n,⟨C415_ok n,trivial⟩⟩⟩:AllOk P ([C388F n,C392F n,C415F n]))) (by kernel_rfl:P.funcs[69]?=some Go.Proofs.Tryz.f69) (by kernel_rfl) (by kernel_rfl) (by kernel_rfl)
  (fun x y=>C146_eq n x.1 x.2.1) (fun _ _=>Z489 (fun _=>rfl) _) (fun _ _ _ _=>rfl)
abbrev C389sp:List Sp:=[.v true tF,.v true tF]
abbrev C389bs:List (Bs×Bool):=[]
abbrev C389rs:List (Bool×List Rp):=[(true,[.v false tF]),(false,[.v false (.int .i64)])]
noncomputable def C389kp:Keep:={ loop:=fun id=>match id with | _=>([],[]),join:=fun id=>match id with | _=>none }
noncomputable def C389c:Code:=bodyOf Go.Proofs.Tryz.f61
noncomputable def C389F (n:Nat):Fun:={ id:=61,sp:=C389sp,bs:=C389bs,rs:=C389rs,f:=fun x y=>C389 n x.1 x.2.1 }
theorem C389_eq (n:Nat) (a0:(Int)×(Int)) (a1:(Int)×(Int)):Z702 ([C146F n]) ty 25 n C389kp C389c Go.Proofs.Tryz.f61.results.toList C389rs C389sp C389bs (a0,(a1,())) ()=C389 n a0 a1:=by
 refine Eq.trans (b:=C389_t n a0 a1) (by kernel_rfl) ?_
 rfl
theorem C389_ok (n:Nat):FunOk P (C389F n) :=
 Z465 (C:=[C146F n]) (N:=25) (kp:=C389kp) (c:=C389c) (n:=n) (G:=fun x y=>C389 n x.1 x.2.1) follows (AllOk.mem (⟨C146_ok n,trivial⟩:AllOk P ([C146F n]))) (by kernel_rfl:P.funcs[61]?=some Go.Proofs.Tryz.f61) (by kernel_rfl) (by kernel_rfl) (by kernel_rfl)
  (fun x y=>C389_eq n x.1 x.2.1) (fun _ _=>Z489 (fun _=>rfl) _) (fun _ _ _ _=>rfl)
abbrev C264sp:List Sp:=[.v true tF,.v true tF]
abbrev C264bs:List (Bs×Bool):=[]
abbrev C264rs:List (Bool×List Rp):=[(true,[.v false tF]),(false,[.v false (.int .i64)])]
noncomputable def C264kp:Keep:={ loop:=fun id=>match id with | _=>([],[]),join:=fun id=>match id with | _=>none }
noncomputable def C264c:Code:=bodyOf Go.Proofs.Tryz.f21
noncomputable def C264F (n:Nat):Fun:={ id:=21,sp:=C264sp,bs:=C264bs,rs:=C264rs,f:=fun x y=>C264 n x.1 x.2.1 }
theorem C264_eq (n:Nat) (a0:(Int)×(Int)) (a1:(Int)×(Int)):Z702 ([C397F n,C389F n]) ty 19 n C264kp C264c Go.Proofs.Tryz.f21.results.toList C264rs C264sp C264bs (a0,(a1,())) ()=C264 n a0 a1:=by
 refine Eq.trans (b:=C264_t n a0 a1) (by kernel_rfl) ?_
 rfl
theorem C264_ok (n:Nat):FunOk P (C264F n) :=
 Z465 (C:=[C397F n,C389F n]) (N:=19) (kp:=C264kp) (c:=C264c) (n:=n) (G:=fun x y=>C264 n x.1 x.2.1) follows (AllOk.mem (⟨C397_ok n,⟨C389_ok n,trivial⟩⟩:AllOk P ([C397F n,C389F n]))) (by kernel_rfl:P.funcs[21]?=some Go.Proofs.Tryz.f21) (by kernel_rfl) (by kernel_rfl) (by kernel_rfl)
  (fun x y=>C264_eq n x.1 x.2.1) (fun _ _=>Z489 (fun _=>rfl) _) (fun _ _ _ _=>rfl)
abbrev C393sp:List Sp:=[.v true tF,.v true tF]
abbrev C393bs:List (Bs×Bool):=[]
abbrev C393rs:List (Bool×List Rp):=[(true,[.v false tF]),(false,[.v false (.int .i64)])]
noncomputable def C393kp:Keep:={ loop:=fun id=>match id with | _=>([],[]),join:=fun id=>match id with | _=>none }
noncomputable def C393c:Code:=bodyOf Go.Proofs.Tryz.f105
noncomputable def C393F (n:Nat):Fun:={ id:=105,sp:=C393sp,bs:=C393bs,rs:=C393rs,f:=fun x y=>C393 n x.1 x.2.1 }
theorem C393_eq (n:Nat) (a0:(Int)×(Int)) (a1:(Int)×(Int)):Z702 ([C146F n]) ty 19 n C393kp C393c Go.Proofs.Tryz.f105.results.toList C393rs C393sp C393bs (a0,(a1,())) ()=C393 n a0 a1:=by
 refine Eq.trans (b:=C393_t n a0 a1) (by kernel_rfl) ?_
 rfl
theorem C393_ok (n:Nat):FunOk P (C393F n) :=
 Z465 (C:=[C146F n]) (N:=19) (kp:=C393kp) (c:=C393c) (n:=n) (G:=fun x y=>C393 n x.1 x.2.1) follows (AllOk.mem (⟨C146_ok n,trivial⟩:AllOk P ([C146F n]))) (by kernel_rfl:P.funcs[105]?=some Go.Proofs.Tryz.f105) (by kernel_rfl) (by kernel_rfl) (by kernel_rfl)
  (fun x y=>C393_eq n x.1 x.2.1) (fun _ _=>Z489 (fun _=>rfl) _) (fun _ _ _ _=>rfl)
abbrev C275sp:List Sp:=[.v false (.int .i64)]
abbrev C275bs:List (Bs×Bool):=[]
abbrev C275rs:List (Bool×List Rp):=[(true,[.v false tF])]
noncomputable def C275kp:Keep:={ loop:=fun id=>match id with | _=>([],[]),join:=fun id=>match id with | _=>none }
noncomputable def C275c:Code:=bodyOf Go.Proofs.Tryz.f66
noncomputable def C275F (n:Nat):Fun:={ id:=66,sp:=C275sp,bs:=C275bs,rs:=C275rs,f:=fun x y=>C275 n x.1 }
theorem C275_eq (n:Nat) (a0:Int):Z702 ([]) ty 5 n C275kp C275c Go.Proofs.Tryz.f66.results.toList C275rs C275sp C275bs (a0,()) ()=C275 n a0:=by
 refine Eq.trans (b:=C275_t n a0) (by kernel_rfl) ?_
 rfl
theorem C275_ok (n:Nat):FunOk P (C275F n) :=
 Z465 (C:=[]) (N:=5) (kp:=C275kp) (c:=C275c) (n:=n) (G:=fun x y=>C275 n x.1) follows (AllOk.mem (trivial:AllOk P ([]))) (by kernel_rfl:P.funcs[66]?=some Go.Proofs.Tryz.f66) (by kernel_rfl) (by kernel_rfl) (by kernel_rfl)
  (fun x y=>C275_eq n x.1) (fun _ _=>Z489 (fun _=>rfl) _) (fun _ _ _ _=>rfl)
abbrev C216sp:List Sp:=[.ref 0]
abbrev C216bs:List (Bs×Bool):=[(.var 28 (.pair (.int .i64) (.pair (.list tO) (.pair .bool tF))),true)]
abbrev C216rs:List (Bool×List Rp):=[(false,[.new  (.list tF)]),(false,[.new  tF]),(false,[.v false (.int .i64)])]
noncomputable def C216kp:Keep:={ loop:=fun id=>match id with | 4=>([0,7,6,5],[]) | 8=>([9,0,7,8,6,5],[]) | 12=>([11,9,0,7,10,6,5,8],[]) | 18=>([13,12,0,7,6,5,8],[]) | 34=>([19,18,0,6,5],[]) | _=>([],[]),join:=fun id=>match id with | _=>none }
noncomputable def C216c:Code:=bodyOf Go.Proofs.Tryz.f80
noncomputable def C216F (n:Nat):Fun:={ id:=80,sp:=C216sp,bs:=C216bs,rs:=C216rs,f:=fun x y=>C216 n y.1 }
noncomputable abbrev C216cs (n:Nat):List Fun:=[C275F n,C393F n,C389F n]
abbrev C216s34 (v19:Int) (b0_0:Int) (b0_1:List OB9) (b0_2:Bool) (b0_3:Int) (b0_4:Int) (b1:List (Int×Int)) (b2:List (Int×Int)) (b3:List (List (Int×Int))):St:={ env:=[(19,.one (.sc (.int .i64 v19))),(18,.one (.slice 1 0 none)),(0,.one (.ref 0 0 0 0 0 0)),(6,.one (.slice 2 0 none)),(5,.one (.slice 3 0 none))],bx:=[(0,.var 28 [.sc (.int .i64 b0_0),.list true tO b0_1,.sc (.bool b0_2),.sc (.int .i64 b0_3),.sc (.int .i64 b0_4)]),(1,.row 0 tF b1),(2,.row 0 tF b2),(3,.row 0 (.list tF) b3)],nx:=4 }
abbrev C216s18 (v13:Int) (v7:Int) (b0_0:Int) (b0_1:List OB9) (b0_2:Bool) (b0_3:Int) (b0_4:Int) (b1_0:Int) (b1_1:Int) (b2:List (Int×Int)) (b3:List (List (Int×Int))) (b4:List (Int×Int)):St:={ env:=[(13,.one (.sc (.int .i64 v13))),(12,.one (.ref 1 0 0 0 0 0)),(0,.one (.ref 0 0 0 0 0 0)),(7,.one (.sc (.int .i64 v7))),(6,.one (.slice 2 0 none)),(5,.one (.slice 3 0 none)),(8,.one (.slice 4 0 none))],bx:=[(0,.var 28 [.sc (.int .i64 b0_0),.list true tO b0_1,.sc (.bool b0_2),.sc (.int .i64 b0_3),.sc (.int .i64 b0_4)]),(1,.var 26 [.sc (.int .i64 b1_0),.sc (.int .i64 b1_1)]),(2,.row 0 tF b2),(3,.row 0 (.list tF) b3),(4,.row 0 tF b4)],nx:=5 }
abbrev C216s12 (v11:Int) (v9:Int) (v7:Int) (v10:Int) (b0_0:Int) (b0_1:List OB9) (b0_2:Bool) (b0_3:Int) (b0_4:Int) (b1:List (Int×Int)) (b2:List (List (Int×Int))) (b3:List (Int×Int)):St:={ env:=[(11,.one (.sc (.int .i64 v11))),(9,.one (.sc (.int .i64 v9))),(0,.one (.ref 0 0 0 0 0 0)),(7,.one (.sc (.int .i64 v7))),(10,.one (.sc (.int .i64 v10))),(6,.one (.slice 1 0 none)),(5,.one (.slice 2 0 none)),(8,.one (.slice 3 0 none))],bx:=[(0,.var 28 [.sc (.int .i64 b0_0),.list true tO b0_1,.sc (.bool b0_2),.sc (.int .i64 b0_3),.sc (.int .i64 b0_4)]),(1,.row 0 tF b1),(2,.row 0 (.list tF) b2),(3,.row 0 tF b3)],nx:=4 }
abbrev C216s8 (v9:Int) (v7:Int) (b0_0:Int) (b0_1:List OB9) (b0_2:Bool) (b0_3:Int) (b0_4:Int) (b1:List (Int×Int)) (b2:List (Int×Int)) (b3:List (List (Int×Int))):St:={ env:=[(9,.one (.sc (.int .i64 v9))),(0,.one (.ref 0 0 0 0 0 0)),(7,.one (.sc (.int .i64 v7))),(8,.one (.slice 1 0 none)),(6,.one (.slice 2 0 none)),(5,.one (.slice 3 0 none))],bx:=[(0,.var 28 [.sc (.int .i64 b0_0),.list true tO b0_1,.sc (.bool b0_2),.sc (.int .i64 b0_3),.sc (.int .i64 b0_4)]),(1,.row 0 tF b1),(2,.row 0 tF b2),(3,.row 0 (.list tF) b3)],nx:=4 }
abbrev C216s4 (v7:Int) (b0_0:Int) (b0_1:List OB9) (b0_2:Bool) (b0_3:Int) (b0_4:Int) (b1:List (Int×Int)) (b2:List (List (Int×Int))):St:={ env:=[(0,.one (.ref 0 0 0 0 0 0)),(7,.one (.sc (.int .i64 v7))),(6,.one (.slice 1 0 none)),(5,.one (.slice 2 0 none))],bx:=[(0,.var 28 [.sc (.int .i64 b0_0),.list true tO b0_1,.sc (.bool b0_2),.sc (.int .i64 b0_3),.sc (.int .i64 b0_4)]),(1,.row 0 tF b1),(2,.row 0 (.list tF) b2)],nx:=3 }
noncomputable abbrev C216k0 (n:Nat):=kAt (C216cs n) ty 196 1 n C216kp C216c [1,1,1,1,0,1,0,1,0,1,0] [] (ending ty 1 Go.Proofs.Tryz.f80.results.toList C216rs C216bs)
noncomputable abbrev C216k1 (n:Nat):=kAt (C216cs n) ty 196 1 n C216kp C216c [1,1,1,0,1,0] [] (ending ty 1 Go.Proofs.Tryz.f80.results.toList C216rs C216bs)
theorem C216_l34_eq (n:Nat):∀ (k:Nat) (v19:Int) (b0_0:Int) (b0_1:List OB9) (b0_2:Bool) (b0_3:Int) (b0_4:Int) (b1:List (Int×Int)) (b2:List (Int×Int)) (b3:List (List (Int×Int))),iter (interp (C216cs n) ty 196 1 n C216kp (codeAt C216c [1,1,1,1,0,1,0,1,0,1,0,0])) (canon 1 (C216kp.loop 34)) (C216k0 n) k (C216s34 v19 b0_0 b0_1 b0_2 b0_3 b0_4 b1 b2 b3)=C216_l34 n k v19 b0_0 b0_1 b0_2 b0_3 b0_4 b1 b2 b3
 | 0,_,_,_,_,_,_,_,_,_=>by kernel_rfl
 | k+1,v19,b0_0,b0_1,b0_2,b0_3,b0_4,b1,b2,b3=>by
  refine Eq.trans (b:=C216_t34 n (fun v19 b0_0 b0_1 b0_2 b0_3 b0_4 b1 b2 b3=>iter (interp (C216cs n) ty 196 1 n C216kp (codeAt C216c [1,1,1,1,0,1,0,1,0,1,0,0])) (canon 1 (C216kp.loop 34)) (C216k0 n) k (C216s34 v19 b0_0 b0_1 b0_2 b0_3 b0_4 b1 b2 b3)) v19 b0_0 b0_1 b0_2 b0_3 b0_4 b1 b2 b3) (by kernel_rfl) ?_
  have e:=congrArg (fun g=>C216_t34 n g v19 b0_0 b0_1 b0_2 b0_3 b0_4 b1 b2 b3) (funext fun v19=>funext fun b0_0=>funext fun b0_1=>funext fun b0_2=>funext fun b0_3=>funext fun b0_4=>funext fun b1=>funext fun b2=>funext fun b3=>C216_l34_eq n k v19 b0_0 b0_1 b0_2 b0_3 b0_4 b1 b2 b3)
  exact e
theorem C216_l18_eq (n:Nat) (G4:St→Option ((((List (List (Int×Int)))×(Unit))×(((List (Int×Int))×(Unit))×(((Int)×(Unit))×(Unit))))×(((Int)×((List OB9)×((Bool)×(Int×Int))))×(Unit)))):∀ (k:Nat) (v13:Int) (v7:Int) (b0_0:Int) (b0_1:List OB9) (b0_2:Bool) (b0_3:Int) (b0_4:Int) (b1_0:Int) (b1_1:Int) (b2:List (Int×Int)) (b3:List (List (Int×Int))) (b4:List (Int×Int)),iter (interp (C216cs n) ty 196 1 n C216kp (codeAt C216c [1,1,1,0,1,0,0,1,0,0,1,1,1,0,1,0,0])) (canon 1 (C216kp.loop 18)) (kAt (C216cs n) ty 196 1 n C216kp C216c [1,1,1,0,1,0,0,1,0,0,1,1,1,0,1,0] [G4] (ending ty 1 Go.Proofs.Tryz.f80.results.toList C216rs C216bs)) k (C216s18 v13 v7 b0_0 b0_1 b0_2 b0_3 b0_4 b1_0 b1_1 b2 b3 b4)=C216_l18 n (fun v7 b0_0 b0_1 b0_2 b0_3 b0_4 b1 b2=>G4 (C216s4 v7 b0_0 b0_1 b0_2 b0_3 b0_4 b1 b2)) k v13 v7 b0_0 b0_1 b0_2 b0_3 b0_4 b1_0 b1_1 b2 b3 b4
 | 0,_,_,_,_,_,_,_,_,_,_,_,_=>by kernel_rfl
 | k+1,v13,v7,b0_0,b0_1,b0_2,b0_3,b0_4,b1_0,b1_1,b2,b3,b4=>by
  refine Eq.trans (b:=C216_t18 n (fun v7 b0_0 b0_1 b0_2 b0_3 b0_4 b1 b2=>G4 (C216s4 v7 b0_0 b0_1 b0_2 b0_3 b0_4 b1 b2)) (fun v13 v7 b0_0 b0_1 b0_2 b0_3 b0_4 b1_0 b1_1 b2 b3 b4=>iter (interp (C216cs n) ty 196 1 n C216kp (codeAt C216c [1,1,1,0,1,0,0,1,0,0,1,1,1,0,1,0,0])) (canon 1 (C216kp.loop 18)) (kAt (C216cs n) ty 196 1 n C216kp C216c [1,1,1,0,1,0,0,1,0,0,1,1,1,0,1,0] [G4] (ending ty 1 Go.Proofs.Tryz.f80.results.toList C216rs C216bs)) k (C216s18 v13 v7 b0_0 b0_1 b0_2 b0_3 b0_4 b1_0 b1_1 b2 b3 b4)) v13 v7 b0_0 b0_1 b0_2 b0_3 b0_4 b1_0 b1_1 b2 b3 b4) (by kernel_rfl) ?_
  have e:=congrArg (fun g=>C216_t18 n (fun v7 b0_0 b0_1 b0_2 b0_3 b0_4 b1 b2=>G4 (C216s4 v7 b0_0 b0_1 b0_2 b0_3 b0_4 b1 b2)) g v13 v7 b0_0 b0_1 b0_2 b0_3 b0_4 b1_0 b1_1 b2 b3 b4) (funext fun v13=>funext fun v7=>funext fun b0_0=>funext fun b0_1=>funext fun b0_2=>funext fun b0_3=>funext fun b0_4=>funext fun b1_0=>funext fun b1_1=>funext fun b2=>funext fun b3=>funext fun b4=>C216_l18_eq n G4 k v13 v7 b0_0 b0_1 b0_2 b0_3 b0_4 b1_0 b1_1 b2 b3 b4)
  exact e
theorem C216_l12_eq (n:Nat) (G4:St→Option ((((List (List (Int×Int)))×(Unit))×(((List (Int×Int))×(Unit))×(((Int)×(Unit))×(Unit))))×(((Int)×((List OB9)×((Bool)×(Int×Int))))×(Unit)))) (G8:St→Option ((((List (List (Int×Int)))×(Unit))×(((List (Int×Int))×(Unit))×(((Int)×(Unit))×(Unit))))×(((Int)×((List OB9)×((Bool)×(Int×Int))))×(Unit)))):∀ (k:Nat) (v11:Int) (v9:Int) (v7:Int) (v10:Int) (b0_0:Int) (b0_1:List OB9) (b0_2:Bool) (b0_3:Int) (b0_4:Int) (b1:List (Int×Int)) (b2:List (List (Int×Int))) (b3:List (Int×Int)),iter (interp (C216cs n) ty 196 1 n C216kp (codeAt C216c [1,1,1,0,1,0,0,1,0,0,1,0,1,0,0,1,0,0,1,0,1,0,0])) (canon 1 (C216kp.loop 12)) (kAt (C216cs n) ty 196 1 n C216kp C216c [1,1,1,0,1,0,0,1,0,0,1,0,1,0,0,1,0,0,1,0,1,0] [G4,G8] (ending ty 1 Go.Proofs.Tryz.f80.results.toList C216rs C216bs)) k (C216s12 v11 v9 v7 v10 b0_0 b0_1 b0_2 b0_3 b0_4 b1 b2 b3)=C216_l12 n (fun v7 b0_0 b0_1 b0_2 b0_3 b0_4 b1 b2=>G4 (C216s4 v7 b0_0 b0_1 b0_2 b0_3 b0_4 b1 b2)) (fun v9 v7 b0_0 b0_1 b0_2 b0_3 b0_4 b1 b2 b3=>G8 (C216s8 v9 v7 b0_0 b0_1 b0_2 b0_3 b0_4 b1 b2 b3)) k v11 v9 v7 v10 b0_0 b0_1 b0_2 b0_3 b0_4 b1 b2 b3
 | 0,_,_,_,_,_,_,_,_,_,_,_,_=>by kernel_rfl
 | k+1,v11,v9,v7,v10,b0_0,b0_1,b0_2,b0_3,b0_4,b1,b2,b3=>by
  refine Eq.trans (b:=C216_t12 n (fun v7 b0_0 b0_1 b0_2 b0_3 b0_4 b1 b2=>G4 (C216s4 v7 b0_0 b0_1 b0_2 b0_3 b0_4 b1 b2)) (fun v9 v7 b0_0 b0_1 b0_2 b0_3 b0_4 b1 b2 b3=>G8 (C216s8 v9 v7 b0_0 b0_1 b0_2 b0_3 b0_4 b1 b2 b3)) (fun v11 v9 v7 v10 b0_0 b0_1 b0_2 b0_3 b0_4 b1 b2 b3=>iter (interp (C216cs n) ty 196 1 n C216kp (codeAt C216c [1,1,1,0,1,0,0,1,0,0,1,0,1,0,0,1,0,0,1,0,1,0,0])) (canon 1 (C216kp.loop 12)) (kAt (C216cs n) ty 196 1 n C216kp C216c [1,1,1,0,1,0,0,1,0,0,1,0,1,0,0,1,0,0,1,0,1,0] [G4,G8] (ending ty 1 Go.Proofs.Tryz.f80.results.toList C216rs C216bs)) k (C216s12 v11 v9 v7 v10 b0_0 b0_1 b0_2 b0_3 b0_4 b1 b2 b3)) v11 v9 v7 v10 b0_0 b0_1 b0_2 b0_3 b0_4 b1 b2 b3) (by kernel_rfl) ?_
  have e:=congrArg (fun g=>C216_t12 n (fun v7 b0_0 b0_1 b0_2 b0_3 b0_4 b1 b2=>G4 (C216s4 v7 b0_0 b0_1 b0_2 b0_3 b0_4 b1 b2)) (fun v9 v7 b0_0 b0_1 b0_2 b0_3 b0_4 b1 b2 b3=>G8 (C216s8 v9 v7 b0_0 b0_1 b0_2 b0_3 b0_4 b1 b2 b3)) g v11 v9 v7 v10 b0_0 b0_1 b0_2 b0_3 b0_4 b1 b2 b3) (funext fun v11=>funext fun v9=>funext fun v7=>funext fun v10=>funext fun b0_0=>funext fun b0_1=>funext fun b0_2=>funext fun b0_3=>funext fun b0_4=>funext fun b1=>funext fun b2=>funext fun b3=>C216_l12_eq n G4 G8 k v11 v9 v7 v10 b0_0 b0_1 b0_2 b0_3 b0_4 b1 b2 b3)
  exact e
theorem C216_l8_eq (n:Nat) (G4:St→Option ((((List (List (Int×Int)))×(Unit))×(((List (Int×Int))×(Unit))×(((Int)×(Unit))×(Unit))))×(((Int)×((List OB9)×((Bool)×(Int×Int))))×(Unit)))):∀ (k:Nat) (v9:Int) (v7:Int) (b0_0:Int) (b0_1:List OB9) (b0_2:Bool) (b0_3:Int) (b0_4:Int) (b1:List (Int×Int)) (b2:List (Int×Int)) (b3:List (List (Int×Int))),iter (interp (C216cs n) ty 196 1 n C216kp (codeAt C216c [1,1,1,0,1,0,0,1,0,0,1,0,1,0,0])) (canon 1 (C216kp.loop 8)) (kAt (C216cs n) ty 196 1 n C216kp C216c [1,1,1,0,1,0,0,1,0,0,1,0,1,0] [G4] (ending ty 1 Go.Proofs.Tryz.f80.results.toList C216rs C216bs)) k (C216s8 v9 v7 b0_0 b0_1 b0_2 b0_3 b0_4 b1 b2 b3)=C216_l8 n (fun v7 b0_0 b0_1 b0_2 b0_3 b0_4 b1 b2=>G4 (C216s4 v7 b0_0 b0_1 b0_2 b0_3 b0_4 b1 b2)) k v9 v7 b0_0 b0_1 b0_2 b0_3 b0_4 b1 b2 b3
 | 0,_,_,_,_,_,_,_,_,_,_=>by kernel_rfl
 | k+1,v9,v7,b0_0,b0_1,b0_2,b0_3,b0_4,b1,b2,b3=>by
  refine Eq.trans (b:=C216_t8 n (fun k' v11 v9 v7 v10 b0_0 b0_1 b0_2 b0_3 b0_4 b1 b2 b3=>iter (interp (C216cs n) ty 196 1 n C216kp (codeAt C216c [1,1,1,0,1,0,0,1,0,0,1,0,1,0,0,1,0,0,1,0,1,0,0])) (canon 1 (C216kp.loop 12)) (kAt (C216cs n) ty 196 1 n C216kp C216c [1,1,1,0,1,0,0,1,0,0,1,0,1,0,0,1,0,0,1,0,1,0] [G4,(fun s=>iter (interp (C216cs n) ty 196 1 n C216kp (codeAt C216c [1,1,1,0,1,0,0,1,0,0,1,0,1,0,0])) (canon 1 (C216kp.loop 8)) (kAt (C216cs n) ty 196 1 n C216kp C216c [1,1,1,0,1,0,0,1,0,0,1,0,1,0] [G4] (ending ty 1 Go.Proofs.Tryz.f80.results.toList C216rs C216bs)) k s)] (ending ty 1 Go.Proofs.Tryz.f80.results.toList C216rs C216bs)) k' (C216s12 v11 v9 v7 v10 b0_0 b0_1 b0_2 b0_3 b0_4 b1 b2 b3)) (fun k' v13 v7 b0_0 b0_1 b0_2 b0_3 b0_4 b1_0 b1_1 b2 b3 b4=>iter (interp (C216cs n) ty 196 1 n C216kp (codeAt C216c [1,1,1,0,1,0,0,1,0,0,1,1,1,0,1,0,0])) (canon 1 (C216kp.loop 18)) (kAt (C216cs n) ty 196 1 n C216kp C216c [1,1,1,0,1,0,0,1,0,0,1,1,1,0,1,0] [G4] (ending ty 1 Go.Proofs.Tryz.f80.results.toList C216rs C216bs)) k' (C216s18 v13 v7 b0_0 b0_1 b0_2 b0_3 b0_4 b1_0 b1_1 b2 b3 b4)) (fun v7 b0_0 b0_1 b0_2 b0_3 b0_4 b1 b2=>G4 (C216s4 v7 b0_0 b0_1 b0_2 b0_3 b0_4 b1 b2)) (fun v9 v7 b0_0 b0_1 b0_2 b0_3 b0_4 b1 b2 b3=>iter (interp (C216cs n) ty 196 1 n C216kp (codeAt C216c [1,1,1,0,1,0,0,1,0,0,1,0,1,0,0])) (canon 1 (C216kp.loop 8)) (kAt (C216cs n) ty 196 1 n C216kp C216c [1,1,1,0,1,0,0,1,0,0,1,0,1,0] [G4] (ending ty 1 Go.Proofs.Tryz.f80.results.toList C216rs C216bs)) k (C216s8 v9 v7 b0_0 b0_1 b0_2 b0_3 b0_4 b1 b2 b3)) v9 v7 b0_0 b0_1 b0_2 b0_3 b0_4 b1 b2 b3) (by kernel_rfl) ?_
  have e:=congr (congr (congrArg (fun h12 h18 g=>C216_t8 n h12 h18 (fun v7 b0_0 b0_1 b0_2 b0_3 b0_4 b1 b2=>G4 (C216s4 v7 b0_0 b0_1 b0_2 b0_3 b0_4 b1 b2)) g v9 v7 b0_0 b0_1 b0_2 b0_3 b0_4 b1 b2 b3) ((funext fun k'=>funext fun v11=>funext fun v9=>funext fun v7=>funext fun v10=>funext fun b0_0=>funext fun b0_1=>funext fun b0_2=>funext fun b0_3=>funext fun b0_4=>funext fun b1=>funext fun b2=>funext fun b3=>C216_l12_eq n G4 (fun s=>iter (interp (C216cs n) ty 196 1 n C216kp (codeAt C216c [1,1,1,0,1,0,0,1,0,0,1,0,1,0,0])) (canon 1 (C216kp.loop 8)) (kAt (C216cs n) ty 196 1 n C216kp C216c [1,1,1,0,1,0,0,1,0,0,1,0,1,0] [G4] (ending ty 1 Go.Proofs.Tryz.f80.results.toList C216rs C216bs)) k s) k' v11 v9 v7 v10 b0_0 b0_1 b0_2 b0_3 b0_4 b1 b2 b3).trans (congrArg (fun z=>C216_l12 n (fun v7 b0_0 b0_1 b0_2 b0_3 b0_4 b1 b2=>G4 (C216s4 v7 b0_0 b0_1 b0_2 b0_3 b0_4 b1 b2)) z) (funext fun v9=>funext fun v7=>funext fun b0_0=>funext fun b0_1=>funext fun b0_2=>funext fun b0_3=>funext fun b0_4=>funext fun b1=>funext fun b2=>funext fun b3=>C216_l8_eq n G4 k v9 v7 b0_0 b0_1 b0_2 b0_3 b0_4 b1 b2 b3)))) (funext fun k'=>funext fun v13=>funext fun v7=>funext fun b0_0=>funext fun b0_1=>funext fun b0_2=>funext fun b0_3=>funext fun b0_4=>funext fun b1_0=>funext fun b1_1=>funext fun b2=>funext fun b3=>funext fun b4=>C216_l18_eq n G4 k' v13 v7 b0_0 b0_1 b0_2 b0_3 b0_4 b1_0 b1_1 b2 b3 b4)) (funext fun v9=>funext fun v7=>funext fun b0_0=>funext fun b0_1=>funext fun b0_2=>funext fun b0_3=>funext fun b0_4=>funext fun b1=>funext fun b2=>funext fun b3=>C216_l8_eq n G4 k v9 v7 b0_0 b0_1 b0_2 b0_3 b0_4 b1 b2 b3)
  exact e
theorem C216_l4_eq (n:Nat):∀ (k:Nat) (v7:Int) (b0_0:Int) (b0_1:List OB9) (b0_2:Bool) (b0_3:Int) (b0_4:Int) (b1:List (Int×Int)) (b2:List (List (Int×Int))),iter (interp (C216cs n) ty 196 1 n C216kp (codeAt C216c [1,1,1,0,1,0,0])) (canon 1 (C216kp.loop 4)) (C216k1 n) k (C216s4 v7 b0_0 b0_1 b0_2 b0_3 b0_4 b1 b2)=C216_l4 n k v7 b0_0 b0_1 b0_2 b0_3 b0_4 b1 b2
 | 0,_,_,_,_,_,_,_,_=>by kernel_rfl
 | k+1,v7,b0_0,b0_1,b0_2,b0_3,b0_4,b1,b2=>by
  refine Eq.trans (b:=C216_t4 n (fun k' v9 v7 b0_0 b0_1 b0_2 b0_3 b0_4 b1 b2 b3=>iter (interp (C216cs n) ty 196 1 n C216kp (codeAt C216c [1,1,1,0,1,0,0,1,0,0,1,0,1,0,0])) (canon 1 (C216kp.loop 8)) (kAt (C216cs n) ty 196 1 n C216kp C216c [1,1,1,0,1,0,0,1,0,0,1,0,1,0] [(fun s=>iter (interp (C216cs n) ty 196 1 n C216kp (codeAt C216c [1,1,1,0,1,0,0])) (canon 1 (C216kp.loop 4)) (C216k1 n) k s)] (ending ty 1 Go.Proofs.Tryz.f80.results.toList C216rs C216bs)) k' (C216s8 v9 v7 b0_0 b0_1 b0_2 b0_3 b0_4 b1 b2 b3)) (fun k' v19 b0_0 b0_1 b0_2 b0_3 b0_4 b1 b2 b3=>iter (interp (C216cs n) ty 196 1 n C216kp (codeAt C216c [1,1,1,1,0,1,0,1,0,1,0,0])) (canon 1 (C216kp.loop 34)) (C216k0 n) k' (C216s34 v19 b0_0 b0_1 b0_2 b0_3 b0_4 b1 b2 b3)) (fun v7 b0_0 b0_1 b0_2 b0_3 b0_4 b1 b2=>iter (interp (C216cs n) ty 196 1 n C216kp (codeAt C216c [1,1,1,0,1,0,0])) (canon 1 (C216kp.loop 4)) (C216k1 n) k (C216s4 v7 b0_0 b0_1 b0_2 b0_3 b0_4 b1 b2)) v7 b0_0 b0_1 b0_2 b0_3 b0_4 b1 b2) (by kernel_rfl) ?_
  have e:=congr (congr (congrArg (fun h8 h34 g=>C216_t4 n h8 h34 g v7 b0_0 b0_1 b0_2 b0_3 b0_4 b1 b2) ((funext fun k'=>funext fun v9=>funext fun v7=>funext fun b0_0=>funext fun b0_1=>funext fun b0_2=>funext fun b0_3=>funext fun b0_4=>funext fun b1=>funext fun b2=>funext fun b3=>C216_l8_eq n (fun s=>iter (interp (C216cs n) ty 196 1 n C216kp (codeAt C216c [1,1,1,0,1,0,0])) (canon 1 (C216kp.loop 4)) (C216k1 n) k s) k' v9 v7 b0_0 b0_1 b0_2 b0_3 b0_4 b1 b2 b3).trans (congrArg (fun z=>C216_l8 n z) (funext fun v7=>funext fun b0_0=>funext fun b0_1=>funext fun b0_2=>funext fun b0_3=>funext fun b0_4=>funext fun b1=>funext fun b2=>C216_l4_eq n k v7 b0_0 b0_1 b0_2 b0_3 b0_4 b1 b2)))) (funext fun k'=>funext fun v19=>funext fun b0_0=>funext fun b0_1=>funext fun b0_2=>funext fun b0_3=>funext fun b0_4=>funext fun b1=>funext fun b2=>funext fun b3=>C216_l34_eq n k' v19 b0_0 b0_1 b0_2 b0_3 b0_4 b1 b2 b3)) (funext fun v7=>funext fun b0_0=>funext fun b0_1=>funext fun b0_2=>funext fun b0_3=>funext fun b0_4=>funext fun b1=>funext fun b2=>C216_l4_eq n k v7 b0_0 b0_1 b0_2 b0_3 b0_4 b1 b2)
  exact e
theorem C111q (n:Nat) (b0:(Int)×((List OB9)×((Bool)×(Int×Int)))):Z702 (C216cs n) ty 196 n C216kp C216c Go.Proofs.Tryz.f80.results.toList C216rs C216sp C216bs ((),()) (b0,())=C216 n b0:=by
 refine Eq.trans (b:=C216_t n (fun k v7 b0_0 b0_1 b0_2 b0_3 b0_4 b1 b2=>iter (interp (C216cs n) ty 196 1 n C216kp (codeAt C216c [1,1,1,0,1,0,0])) (canon 1 (C216kp.loop 4)) (C216k1 n) k (C216s4 v7 b0_0 b0_1 b0_2 b0_3 b0_4 b1 b2)) b0) (by kernel_rfl) ?_
 have e:=congrArg (fun h4=>C216_t n h4 b0) (funext fun k=>funext fun v7=>funext fun b0_0=>funext fun b0_1=>funext fun b0_2=>funext fun b0_3=>funext fun b0_4=>funext fun b1=>funext fun b2=>C216_l4_eq n k v7 b0_0 b0_1 b0_2 b0_3 b0_4 b1 b2)
 exact e
theorem C216_ok (n:Nat):FunOk P (C216F n) :=
 Z465 (C:=[C275F n,C393F n,C389F n]) (N:=196) (kp:=C216kp) (c:=C216c) (n:=n) (G:=fun x y=>C216 n y.1) follows (AllOk.mem (⟨C275_ok n,⟨C393_ok n,⟨C389_ok n,trivial⟩⟩⟩:AllOk P ([C275F n,C393F n,C389F n]))) (by kernel_rfl:P.funcs[80]?=some Go.Proofs.Tryz.f80) (by kernel_rfl) (by kernel_rfl) (by kernel_rfl)
  (fun x y=>C111q n y.1) (fun _ _=>Z489 (fun _=>rfl) _) (fun _ _ _ _=>rfl)
abbrev C288sp:List Sp:=[.er tO,.v false (.int .i64)]
abbrev C288bs:List (Bs×Bool):=[]
abbrev C288rs:List (Bool×List Rp):=[(false,[.v false .bool])]
noncomputable def C288kp:Keep:={ loop:=fun id=>match id with | 3=>([6,5,1,0],[]) | _=>([],[]),join:=fun id=>match id with | _=>none }
noncomputable def C288c:Code:=bodyOf Go.Proofs.Tryz.f104
noncomputable def C288F (n:Nat):Fun:={ id:=104,sp:=C288sp,bs:=C288bs,rs:=C288rs,f:=fun x y=>C288 n x.1 x.2.1 }
noncomputable abbrev C288cs (n:Nat):List Fun:=[C415F n,C414F n]
abbrev C288s3 (v6:Int) (v5:Bool) (v1:Int) (v0:((Int)×((Int)×((Int)×((Int)×(Int×Int)))))×((Int×Int)×(Int))):St:={ env:=[(6,.one (.sc (.int .i64 v6))),(5,.one (.sc (.bool v5))),(1,.one (.sc (.int .i64 v1))),(0,.one (.eref true tO [v0] 0 0 0 0))],bx:=[],nx:=0 }
noncomputable abbrev C288k0 (n:Nat):=kAt (C288cs n) ty 53 0 n C288kp C288c [1,1,0,1,0] [] (ending ty 0 Go.Proofs.Tryz.f104.results.toList C288rs C288bs)
theorem C288_l3_eq (n:Nat):∀ (k:Nat) (v6:Int) (v5:Bool) (v1:Int) (v0:((Int)×((Int)×((Int)×((Int)×(Int×Int)))))×((Int×Int)×(Int))),iter (interp (C288cs n) ty 53 0 n C288kp (codeAt C288c [1,1,0,1,0,0])) (canon 0 (C288kp.loop 3)) (C288k0 n) k (C288s3 v6 v5 v1 v0)=C288_l3 n k v6 v5 v1 v0
 | 0,_,_,_,_=>by kernel_rfl
 | k+1,v6,v5,v1,v0=>by
  refine Eq.trans (b:=C288_t3 n (fun v6 v5 v1 v0=>iter (interp (C288cs n) ty 53 0 n C288kp (codeAt C288c [1,1,0,1,0,0])) (canon 0 (C288kp.loop 3)) (C288k0 n) k (C288s3 v6 v5 v1 v0)) v6 v5 v1 v0) (by kernel_rfl) ?_
  have e:=congrArg (fun g=>C288_t3 n g v6 v5 v1 v0) (funext fun v6=>funext fun v5=>funext fun v1=>funext fun v0=>C288_l3_eq n k v6 v5 v1 v0)
  exact e
theorem C288_eq (n:Nat) (a0:((Int)×((Int)×((Int)×((Int)×(Int×Int)))))×((Int×Int)×(Int))) (a1:Int):Z702 (C288cs n) ty 53 n C288kp C288c Go.Proofs.Tryz.f104.results.toList C288rs C288sp C288bs (a0,(a1,())) ()=C288 n a0 a1:=by
 refine Eq.trans (b:=C288_t n (fun k v6 v5 v1 v0=>iter (interp (C288cs n) ty 53 0 n C288kp (codeAt C288c [1,1,0,1,0,0])) (canon 0 (C288kp.loop 3)) (C288k0 n) k (C288s3 v6 v5 v1 v0)) a0 a1) (by kernel_rfl) ?_
 have e:=congrArg (fun h3=>C288_t n h3 a0 a1) (funext fun k=>funext fun v6=>funext fun v5=>funext fun v1=>funext fun v0=>C288_l3_eq n k v6 v5 v1 v0)
 exact e
theorem C288_ok (n:Nat):FunOk P (C288F n) :=
 Z465 (C:=[C415F n,C414F n]) (N:=53) (kp:=C288kp) (c:=C288c) (n:=n) (G:=fun x y=>C288 n x.1 x.2.1) follows (AllOk.mem (⟨C415_ok n,⟨C414_ok n,trivial⟩⟩:AllOk P ([C415F n,C414F n]))) (by kernel_rfl:P.funcs[104]?=some Go.Proofs.Tryz.f104) (by kernel_rfl) (by kernel_rfl) (by kernel_rfl)
  (fun x y=>C288_eq n x.1 x.2.1) (fun _ _=>Z489 (fun _=>rfl) _) (fun _ _ _ _=>rfl)
end Go.Abs
