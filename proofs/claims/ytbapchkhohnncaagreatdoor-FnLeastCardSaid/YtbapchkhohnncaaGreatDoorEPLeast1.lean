import Derived.Test.YtbapchkhohnncaaGreatDoorEPLeast0
import Derived.KernelRfl
set_option linter.unusedSimpArgs false
set_option linter.unusedSectionVars false
set_option linter.unusedVariables false
namespace Go.Abs
open Go.Proofs
set_option maxRecDepth 100000
abbrev C418sp:List Sp:=[.ref 0]
abbrev C418bs:List (Bs×Bool):=[(.var 28 (.pair (.int .i64) (.pair (.list tO) (.pair .bool tF))),true)]
abbrev C418rs:List (Bool×List Rp):=[(false,[.v false .bool])]
noncomputable def C418kp:Keep:={ loop:=fun id=>match id with | 4=>([3,0],[]) | _=>([],[]),join:=fun id=>match id with | _=>none }
noncomputable def C418c:Code:=bodyOf Go.Proofs.Tryz.f79
noncomputable def C418F (n:Nat):Fun:={ id:=79,sp:=C418sp,bs:=C418bs,rs:=C418rs,f:=fun x y=>C418 n y.1 }
noncomputable abbrev C418cs (n:Nat):List Fun:=[C414F n,C415F n,C288F n]
abbrev C418s4 (v3:Int) (b0_0:Int) (b0_1:List OB9) (b0_2:Bool) (b0_3:Int) (b0_4:Int):St:={ env:=[(3,.one (.sc (.int .i64 v3))),(0,.one (.ref 0 0 0 0 0 0))],bx:=[(0,.var 28 [.sc (.int .i64 b0_0),.list true tO b0_1,.sc (.bool b0_2),.sc (.int .i64 b0_3),.sc (.int .i64 b0_4)])],nx:=1 }
noncomputable abbrev C418k0 (n:Nat):=kAt (C418cs n) ty 62 1 n C418kp C418c [1,1,0,1,0] [] (ending ty 1 Go.Proofs.Tryz.f79.results.toList C418rs C418bs)
theorem C418_l4_eq (n:Nat):∀ (k:Nat) (v3:Int) (b0_0:Int) (b0_1:List OB9) (b0_2:Bool) (b0_3:Int) (b0_4:Int),iter (interp (C418cs n) ty 62 1 n C418kp (codeAt C418c [1,1,0,1,0,0])) (canon 1 (C418kp.loop 4)) (C418k0 n) k (C418s4 v3 b0_0 b0_1 b0_2 b0_3 b0_4)=C418_l4 n k v3 b0_0 b0_1 b0_2 b0_3 b0_4
 | 0,_,_,_,_,_,_=>by kernel_rfl
 | k+1,v3,b0_0,b0_1,b0_2,b0_3,b0_4=>by
  refine Eq.trans (b:=C418_t4 n (fun v3 b0_0 b0_1 b0_2 b0_3 b0_4=>iter (interp (C418cs n) ty 62 1 n C418kp (codeAt C418c [1,1,0,1,0,0])) (canon 1 (C418kp.loop 4)) (C418k0 n) k (C418s4 v3 b0_0 b0_1 b0_2 b0_3 b0_4)) v3 b0_0 b0_1 b0_2 b0_3 b0_4) (by kernel_rfl) ?_
  have e:=congrArg (fun g=>C418_t4 n g v3 b0_0 b0_1 b0_2 b0_3 b0_4) (funext fun v3=>funext fun b0_0=>funext fun b0_1=>funext fun b0_2=>funext fun b0_3=>funext fun b0_4=>C418_l4_eq n k v3 b0_0 b0_1 b0_2 b0_3 b0_4)
  exact e
theorem C348q (n:Nat) (b0:(Int)×((List OB9)×((Bool)×(Int×Int)))):Z702 (C418cs n) ty 62 n C418kp C418c Go.Proofs.Tryz.f79.results.toList C418rs C418sp C418bs ((),()) (b0,())=C418 n b0:=by
 refine Eq.trans (b:=C418_t n (fun k v3 b0_0 b0_1 b0_2 b0_3 b0_4=>iter (interp (C418cs n) ty 62 1 n C418kp (codeAt C418c [1,1,0,1,0,0])) (canon 1 (C418kp.loop 4)) (C418k0 n) k (C418s4 v3 b0_0 b0_1 b0_2 b0_3 b0_4)) b0) (by kernel_rfl) ?_
 have e:=congrArg (fun h4=>C418_t n h4 b0) (funext fun k=>funext fun v3=>funext fun b0_0=>funext fun b0_1=>funext fun b0_2=>funext fun b0_3=>funext fun b0_4=>C418_l4_eq n k v3 b0_0 b0_1 b0_2 b0_3 b0_4)
 exact e
theorem C418_ok (n:Nat):FunOk P (C418F n) :=
 Z465 (C:=[C414F n,C415F n,C288F n]) (N:=62) (kp:=C418kp) (c:=C418c) (n:=n) (G:=fun x y=>C418 n y.1) follows (AllOk.mem (⟨C414_ok n,⟨C415_ok n,⟨C288_ok n,trivial⟩⟩⟩:AllOk P ([C414F n,C415F n,C288F n]))) (by kernel_rfl:P.funcs[79]?=some Go.Proofs.Tryz.f79) (by kernel_rfl) (by kernel_rfl) (by kernel_rfl)
  (fun x y=>C348q n y.1) (fun _ _=>Z489 (fun _=>rfl) _) (fun _ _ _ _=>rfl)
abbrev C269sp:List Sp:=[.v true (.pair (.int .i64) (.pair (.list tO) (.pair .bool tF)))]
abbrev C269bs:List (Bs×Bool):=[]
abbrev C269rs:List (Bool×List Rp):=[(false,[.new  (.list tF)]),(false,[.new  tF]),(false,[.v false (.int .i64)])]
noncomputable def C269kp:Keep:={ loop:=fun id=>match id with | _=>([],[]),join:=fun id=>match id with | _=>none }
noncomputable def C269c:Code:=bodyOf Go.Proofs.Tryz.f39
noncomputable def C269F (n:Nat):Fun:={ id:=39,sp:=C269sp,bs:=C269bs,rs:=C269rs,f:=fun x y=>C269 n x.1 }
theorem C269_eq (n:Nat) (a0:(Int)×((List OB9)×((Bool)×(Int×Int)))):Z702 ([C418F n,C216F n]) ty 13 n C269kp C269c Go.Proofs.Tryz.f39.results.toList C269rs C269sp C269bs (a0,()) ()=C269 n a0:=by
 refine Eq.trans (b:=C269_t n a0) (by kernel_rfl) ?_
 rfl
theorem C269_ok (n:Nat):FunOk P (C269F n) :=
 Z465 (C:=[C418F n,C216F n]) (N:=13) (kp:=C269kp) (c:=C269c) (n:=n) (G:=fun x y=>C269 n x.1) follows (AllOk.mem (⟨C418_ok n,⟨C216_ok n,trivial⟩⟩:AllOk P ([C418F n,C216F n]))) (by kernel_rfl:P.funcs[39]?=some Go.Proofs.Tryz.f39) (by kernel_rfl) (by kernel_rfl) (by kernel_rfl)
  (fun x y=>C269_eq n x.1) (fun _ _=>Z489 (fun _=>rfl) _) (fun _ _ _ _=>rfl)
abbrev C391sp:List Sp:=[.v true tF,.v true tF]
abbrev C391bs:List (Bs×Bool):=[]
abbrev C391rs:List (Bool×List Rp):=[(true,[.v false tF]),(false,[.v false (.int .i64)])]
noncomputable def C391kp:Keep:={ loop:=fun id=>match id with | _=>([],[]),join:=fun id=>match id with | _=>none }
noncomputable def C391c:Code:=bodyOf Go.Proofs.Tryz.f81
noncomputable def C391F (n:Nat):Fun:={ id:=81,sp:=C391sp,bs:=C391bs,rs:=C391rs,f:=fun x y=>C391 n x.1 x.2.1 }
theorem C391_eq (n:Nat) (a0:(Int)×(Int)) (a1:(Int)×(Int)):Z702 ([C146F n]) ty 19 n C391kp C391c Go.Proofs.Tryz.f81.results.toList C391rs C391sp C391bs (a0,(a1,())) ()=C391 n a0 a1:=by
 refine Eq.trans (b:=C391_t n a0 a1) (by kernel_rfl) ?_
 rfl
theorem C391_ok (n:Nat):FunOk P (C391F n) :=
 Z465 (C:=[C146F n]) (N:=19) (kp:=C391kp) (c:=C391c) (n:=n) (G:=fun x y=>C391 n x.1 x.2.1) follows (AllOk.mem (⟨C146_ok n,trivial⟩:AllOk P ([C146F n]))) (by kernel_rfl:P.funcs[81]?=some Go.Proofs.Tryz.f81) (by kernel_rfl) (by kernel_rfl) (by kernel_rfl)
  (fun x y=>C391_eq n x.1 x.2.1) (fun _ _=>Z489 (fun _=>rfl) _) (fun _ _ _ _=>rfl)
abbrev C285sp:List Sp:=[.v false (.list (.list tF)),.v false (.list tF)]
abbrev C285bs:List (Bs×Bool):=[]
abbrev C285rs:List (Bool×List Rp):=[(false,[.nrc 84 [.pool tF,.row tF,.v (.int .i64)]])]
noncomputable def C285kp:Keep:={ loop:=fun id=>match id with | 3=>([6,0,5],[.boxp 0 0 tF]) | _=>([],[]),join:=fun id=>match id with | _=>none }
noncomputable def C285c:Code:=bodyOf Go.Proofs.Tryz.f42
noncomputable def C285F (n:Nat):Fun:={ id:=42,sp:=C285sp,bs:=C285bs,rs:=C285rs,f:=fun x y=>C285 n x.1 x.2.1 }
abbrev C285s3 (v6:Int) (v0:List (List (Int×Int))) (b0_2:Int) (b1p:List Nat) (b1i:List (List (Int×Int))) (b2:List (Int×Int)):St:={ env:=[(6,.one (.sc (.int .i64 v6))),(0,.one (.list true (.list tF) v0)),(5,.one (.ref 0 0 0 0 0 0))],bx:=[(0,.var 84 [.slice 1 0 none,.slice 2 0 none,.sc (.int .i64 b0_2)]),(1,.pool 0 tF b1p b1i),(2,.row 0 tF b2)],nx:=3 }
noncomputable abbrev C285k0 (n:Nat):=kAt ([]) typ 34 0 n C285kp C285c [1,1,0,1,0] [] (ending typ 0 Go.Proofs.Tryz.f42.results.toList C285rs C285bs)
theorem C285_l3_eq (n:Nat):∀ (k:Nat) (v6:Int) (v0:List (List (Int×Int))) (b0_2:Int) (b1p:List Nat) (b1i:List (List (Int×Int))) (b2:List (Int×Int)),iter (interp ([]) typ 34 0 n C285kp (codeAt C285c [1,1,0,1,0,0])) (canon 0 (C285kp.loop 3)) (C285k0 n) k (C285s3 v6 v0 b0_2 b1p b1i b2)=C285_l3 n k v6 v0 b0_2 b1p b1i b2
 | 0,_,_,_,_,_,_=>by kernel_rfl
 | k+1,v6,v0,b0_2,b1p,b1i,b2=>by
  refine Eq.trans (b:=C285_t3 n (fun v6 v0 b0_2 b1p b1i b2=>iter (interp ([]) typ 34 0 n C285kp (codeAt C285c [1,1,0,1,0,0])) (canon 0 (C285kp.loop 3)) (C285k0 n) k (C285s3 v6 v0 b0_2 b1p b1i b2)) v6 v0 b0_2 b1p b1i b2) (by kernel_rfl) ?_
  have e:=congrArg (fun g=>C285_t3 n g v6 v0 b0_2 b1p b1i b2) (funext fun v6=>funext fun v0=>funext fun b0_2=>funext fun b1p=>funext fun b1i=>funext fun b2=>C285_l3_eq n k v6 v0 b0_2 b1p b1i b2)
  exact e
theorem C285_eq (n:Nat) (a0:List (List (Int×Int))) (a1:List (Int×Int)):Z702 ([]) typ 34 n C285kp C285c Go.Proofs.Tryz.f42.results.toList C285rs C285sp C285bs (a0,(a1,())) ()=C285 n a0 a1:=by
 refine Eq.trans (b:=C285_t n (fun k v6 v0 b0_2 b1p b1i b2=>iter (interp ([]) typ 34 0 n C285kp (codeAt C285c [1,1,0,1,0,0])) (canon 0 (C285kp.loop 3)) (C285k0 n) k (C285s3 v6 v0 b0_2 b1p b1i b2)) a0 a1) (by kernel_rfl) ?_
 have e:=congrArg (fun h3=>C285_t n h3 a0 a1) (funext fun k=>funext fun v6=>funext fun v0=>funext fun b0_2=>funext fun b1p=>funext fun b1i=>funext fun b2=>C285_l3_eq n k v6 v0 b0_2 b1p b1i b2)
 exact e
theorem C285_ok (n:Nat):FunOk P (C285F n) :=
 Z308 (C:=[]) (N:=34) (kp:=C285kp) (c:=C285c) (n:=n) (G:=fun x y=>C285 n x.1 x.2.1) follows (AllOk.mem (trivial:AllOk P ([]))) (by kernel_rfl:P.funcs[42]?=some Go.Proofs.Tryz.f42) (by kernel_rfl) (by kernel_rfl) (by kernel_rfl)
  (fun x y=>C285_eq n x.1 x.2.1) (fun _ _=>Z489 (fun _=>rfl) _) (fun _ _ _ _=>rfl)
abbrev C394sp:List Sp:=[.v true tF]
abbrev C394bs:List (Bs×Bool):=[]
abbrev C394rs:List (Bool×List Rp):=[(true,[.v false tF])]
noncomputable def C394kp:Keep:={ loop:=fun id=>match id with | _=>([],[]),join:=fun id=>match id with | _=>none }
noncomputable def C394c:Code:=bodyOf Go.Proofs.Tryz.f87
noncomputable def C394F (n:Nat):Fun:={ id:=87,sp:=C394sp,bs:=C394bs,rs:=C394rs,f:=fun x y=>C394 n x.1 }
theorem C394_eq (n:Nat) (a0:(Int)×(Int)):Z702 ([]) ty 9 n C394kp C394c Go.Proofs.Tryz.f87.results.toList C394rs C394sp C394bs (a0,()) ()=C394 n a0:=by
 refine Eq.trans (b:=C394_t n a0) (by kernel_rfl) ?_
 rfl
theorem C394_ok (n:Nat):FunOk P (C394F n) :=
 Z465 (C:=[]) (N:=9) (kp:=C394kp) (c:=C394c) (n:=n) (G:=fun x y=>C394 n x.1) follows (AllOk.mem (trivial:AllOk P ([]))) (by kernel_rfl:P.funcs[87]?=some Go.Proofs.Tryz.f87) (by kernel_rfl) (by kernel_rfl) (by kernel_rfl)
  (fun x y=>C394_eq n x.1) (fun _ _=>Z489 (fun _=>rfl) _) (fun _ _ _ _=>rfl)
abbrev C395sp:List Sp:=[.v true tF,.v true tF]
abbrev C395bs:List (Bs×Bool):=[]
abbrev C395rs:List (Bool×List Rp):=[(true,[.v false tF]),(false,[.v false (.int .i64)])]
noncomputable def C395kp:Keep:={ loop:=fun id=>match id with | _=>([],[]),join:=fun id=>match id with | _=>none }
noncomputable def C395c:Code:=bodyOf Go.Proofs.Tryz.f60
noncomputable def C395F (n:Nat):Fun:={ id:=60,sp:=C395sp,bs:=C395bs,rs:=C395rs,f:=fun x y=>C395 n x.1 x.2.1 }
theorem C395_eq (n:Nat) (a0:(Int)×(Int)) (a1:(Int)×(Int)):Z702 ([C394F n,C389F n]) ty 12 n C395kp C395c Go.Proofs.Tryz.f60.results.toList C395rs C395sp C395bs (a0,(a1,())) ()=C395 n a0 a1:=by
 refine Eq.trans (b:=C395_t n a0 a1) (by kernel_rfl) ?_
 rfl
theorem C395_ok (n:Nat):FunOk P (C395F n) :=
 Z465 (C:=[C394F n,C389F n]) (N:=12) (kp:=C395kp) (c:=C395c) (n:=n) (G:=fun x y=>C395 n x.1 x.2.1) follows (AllOk.mem (⟨C394_ok n,⟨C389_ok n,trivial⟩⟩:AllOk P ([C394F n,C389F n]))) (by kernel_rfl:P.funcs[60]?=some Go.Proofs.Tryz.f60) (by kernel_rfl) (by kernel_rfl) (by kernel_rfl)
  (fun x y=>C395_eq n x.1 x.2.1) (fun _ _=>Z489 (fun _=>rfl) _) (fun _ _ _ _=>rfl)
abbrev C347sp:List Sp:=[.v true tF,.v true tF,.v true tF]
abbrev C347bs:List (Bs×Bool):=[]
abbrev C347rs:List (Bool×List Rp):=[(true,[.v false tF]),(false,[.v false (.int .i64)])]
noncomputable def C347kp:Keep:={ loop:=fun id=>match id with | _=>([],[]),join:=fun id=>match id with | _=>none }
noncomputable def C347c:Code:=bodyOf Go.Proofs.Tryz.f82
noncomputable def C347F (n:Nat):Fun:={ id:=82,sp:=C347sp,bs:=C347bs,rs:=C347rs,f:=fun x y=>C347 n x.1 x.2.1 x.2.2.1 }
theorem C347_eq (n:Nat) (a0:(Int)×(Int)) (a1:(Int)×(Int)) (a2:(Int)×(Int)):Z702 ([C393F n,C395F n]) ty 25 n C347kp C347c Go.Proofs.Tryz.f82.results.toList C347rs C347sp C347bs (a0,(a1,(a2,()))) ()=C347 n a0 a1 a2:=by
 refine Eq.trans (b:=C347_t n a0 a1 a2) (by kernel_rfl) ?_
 rfl
theorem C347_ok (n:Nat):FunOk P (C347F n) :=
 Z465 (C:=[C393F n,C395F n]) (N:=25) (kp:=C347kp) (c:=C347c) (n:=n) (G:=fun x y=>C347 n x.1 x.2.1 x.2.2.1) follows (AllOk.mem (⟨C393_ok n,⟨C395_ok n,trivial⟩⟩:AllOk P ([C393F n,C395F n]))) (by kernel_rfl:P.funcs[82]?=some Go.Proofs.Tryz.f82) (by kernel_rfl) (by kernel_rfl) (by kernel_rfl)
  (fun x y=>C347_eq n x.1 x.2.1 x.2.2.1) (fun _ _=>Z489 (fun _=>rfl) _) (fun _ _ _ _=>rfl)
abbrev C49sp:List Sp:=[.ref 0,.v false (.int .i64),.v false (.int .i64)]
abbrev C49bs:List (Bs×Bool):=[(.rc 84 [.sl 1,.sl 2,.v (.int .i64)],true),(.pool tF,true),(.row tF,true)]
abbrev C49rs:List (Bool×List Rp):=[]
noncomputable def C49kp:Keep:={ loop:=fun id=>match id with | 1=>([6,0,1,2],[]) | 7=>([9,0,6,1,7,2],[]) | _=>([],[]),join:=fun id=>match id with | _=>none }
noncomputable def C49c:Code:=bodyOf Go.Proofs.Tryz.f45
noncomputable def C49F (n:Nat):Fun:={ id:=45,sp:=C49sp,bs:=C49bs,rs:=C49rs,f:=fun x y=>C49 n x.2.1 x.2.2.1 y.1 y.2.1 y.2.2.1 }
noncomputable abbrev C49cs (n:Nat):List Fun:=[C391F n,C347F n]
abbrev C49s7 (v9:Int) (v6:Int) (v1:Int) (v2:Int) (b0_2:Int) (b1p:List Nat) (b1i:List (List (Int×Int))) (b2:List (Int×Int)) (b3_0:Int) (b3_1:Int):St:={ env:=[(9,.one (.sc (.int .i64 v9))),(0,.one (.ref 0 0 0 0 0 0)),(6,.one (.sc (.int .i64 v6))),(1,.one (.sc (.int .i64 v1))),(7,.one (.ref 3 0 0 0 0 0)),(2,.one (.sc (.int .i64 v2)))],bx:=[(0,.var 84 [.slice 1 0 none,.slice 2 0 none,.sc (.int .i64 b0_2)]),(1,.pool 0 tF b1p b1i),(2,.row 0 tF b2),(3,.var 26 [.sc (.int .i64 b3_0),.sc (.int .i64 b3_1)])],nx:=4 }
abbrev C49s1 (v6:Int) (v1:Int) (v2:Int) (b0_2:Int) (b1p:List Nat) (b1i:List (List (Int×Int))) (b2:List (Int×Int)):St:={ env:=[(6,.one (.sc (.int .i64 v6))),(0,.one (.ref 0 0 0 0 0 0)),(1,.one (.sc (.int .i64 v1))),(2,.one (.sc (.int .i64 v2)))],bx:=[(0,.var 84 [.slice 1 0 none,.slice 2 0 none,.sc (.int .i64 b0_2)]),(1,.pool 0 tF b1p b1i),(2,.row 0 tF b2)],nx:=3 }
noncomputable abbrev C49k0 (n:Nat):=kAt (C49cs n) typ 166 3 n C49kp C49c [1,0] [] (ending typ 3 Go.Proofs.Tryz.f45.results.toList C49rs C49bs)
theorem C49_l7_eq (n:Nat) (G1:St→Option ((Unit)×(((Int)×(Unit))×(((List Nat)×(List (List (Int×Int))))×((List (Int×Int))×(Unit)))))):∀ (k:Nat) (v9:Int) (v6:Int) (v1:Int) (v2:Int) (b0_2:Int) (b1p:List Nat) (b1i:List (List (Int×Int))) (b2:List (Int×Int)) (b3_0:Int) (b3_1:Int),iter (interp (C49cs n) typ 166 3 n C49kp (codeAt C49c [1,0,0,1,0,0,1,1,1,0,1,0,0])) (canon 3 (C49kp.loop 7)) (kAt (C49cs n) typ 166 3 n C49kp C49c [1,0,0,1,0,0,1,1,1,0,1,0] [G1] (ending typ 3 Go.Proofs.Tryz.f45.results.toList C49rs C49bs)) k (C49s7 v9 v6 v1 v2 b0_2 b1p b1i b2 b3_0 b3_1)=C49_l7 n (fun v6 v1 v2 b0_2 b1p b1i b2=>G1 (C49s1 v6 v1 v2 b0_2 b1p b1i b2)) k v9 v6 v1 v2 b0_2 b1p b1i b2 b3_0 b3_1
 | 0,_,_,_,_,_,_,_,_,_,_=>by kernel_rfl
 | k+1,v9,v6,v1,v2,b0_2,b1p,b1i,b2,b3_0,b3_1=>by
  refine Eq.trans (b:=C49_t7 n (fun v6 v1 v2 b0_2 b1p b1i b2=>G1 (C49s1 v6 v1 v2 b0_2 b1p b1i b2)) (fun v9 v6 v1 v2 b0_2 b1p b1i b2 b3_0 b3_1=>iter (interp (C49cs n) typ 166 3 n C49kp (codeAt C49c [1,0,0,1,0,0,1,1,1,0,1,0,0])) (canon 3 (C49kp.loop 7)) (kAt (C49cs n) typ 166 3 n C49kp C49c [1,0,0,1,0,0,1,1,1,0,1,0] [G1] (ending typ 3 Go.Proofs.Tryz.f45.results.toList C49rs C49bs)) k (C49s7 v9 v6 v1 v2 b0_2 b1p b1i b2 b3_0 b3_1)) v9 v6 v1 v2 b0_2 b1p b1i b2 b3_0 b3_1) (by kernel_rfl) ?_
  have e:=congrArg (fun g=>C49_t7 n (fun v6 v1 v2 b0_2 b1p b1i b2=>G1 (C49s1 v6 v1 v2 b0_2 b1p b1i b2)) g v9 v6 v1 v2 b0_2 b1p b1i b2 b3_0 b3_1) (funext fun v9=>funext fun v6=>funext fun v1=>funext fun v2=>funext fun b0_2=>funext fun b1p=>funext fun b1i=>funext fun b2=>funext fun b3_0=>funext fun b3_1=>C49_l7_eq n G1 k v9 v6 v1 v2 b0_2 b1p b1i b2 b3_0 b3_1)
  exact e
theorem C49_l1_eq (n:Nat):∀ (k:Nat) (v6:Int) (v1:Int) (v2:Int) (b0_2:Int) (b1p:List Nat) (b1i:List (List (Int×Int))) (b2:List (Int×Int)),iter (interp (C49cs n) typ 166 3 n C49kp (codeAt C49c [1,0,0])) (canon 3 (C49kp.loop 1)) (C49k0 n) k (C49s1 v6 v1 v2 b0_2 b1p b1i b2)=C49_l1 n k v6 v1 v2 b0_2 b1p b1i b2
 | 0,_,_,_,_,_,_,_=>by kernel_rfl
 | k+1,v6,v1,v2,b0_2,b1p,b1i,b2=>by
  refine Eq.trans (b:=C49_t1 n (fun k' v9 v6 v1 v2 b0_2 b1p b1i b2 b3_0 b3_1=>iter (interp (C49cs n) typ 166 3 n C49kp (codeAt C49c [1,0,0,1,0,0,1,1,1,0,1,0,0])) (canon 3 (C49kp.loop 7)) (kAt (C49cs n) typ 166 3 n C49kp C49c [1,0,0,1,0,0,1,1,1,0,1,0] [(fun s=>iter (interp (C49cs n) typ 166 3 n C49kp (codeAt C49c [1,0,0])) (canon 3 (C49kp.loop 1)) (C49k0 n) k s)] (ending typ 3 Go.Proofs.Tryz.f45.results.toList C49rs C49bs)) k' (C49s7 v9 v6 v1 v2 b0_2 b1p b1i b2 b3_0 b3_1)) (fun v6 v1 v2 b0_2 b1p b1i b2=>iter (interp (C49cs n) typ 166 3 n C49kp (codeAt C49c [1,0,0])) (canon 3 (C49kp.loop 1)) (C49k0 n) k (C49s1 v6 v1 v2 b0_2 b1p b1i b2)) v6 v1 v2 b0_2 b1p b1i b2) (by kernel_rfl) ?_
  have e:=congr (congrArg (fun h7 g=>C49_t1 n h7 g v6 v1 v2 b0_2 b1p b1i b2) ((funext fun k'=>funext fun v9=>funext fun v6=>funext fun v1=>funext fun v2=>funext fun b0_2=>funext fun b1p=>funext fun b1i=>funext fun b2=>funext fun b3_0=>funext fun b3_1=>C49_l7_eq n (fun s=>iter (interp (C49cs n) typ 166 3 n C49kp (codeAt C49c [1,0,0])) (canon 3 (C49kp.loop 1)) (C49k0 n) k s) k' v9 v6 v1 v2 b0_2 b1p b1i b2 b3_0 b3_1).trans (congrArg (fun z=>C49_l7 n z) (funext fun v6=>funext fun v1=>funext fun v2=>funext fun b0_2=>funext fun b1p=>funext fun b1i=>funext fun b2=>C49_l1_eq n k v6 v1 v2 b0_2 b1p b1i b2)))) (funext fun v6=>funext fun v1=>funext fun v2=>funext fun b0_2=>funext fun b1p=>funext fun b1i=>funext fun b2=>C49_l1_eq n k v6 v1 v2 b0_2 b1p b1i b2)
  exact e
theorem C49_eq (n:Nat) (a1:Int) (a2:Int) (b0:(Int)×(Unit)) (b1:(List Nat)×(List (List (Int×Int)))) (b2:List (Int×Int)):Z702 (C49cs n) typ 166 n C49kp C49c Go.Proofs.Tryz.f45.results.toList C49rs C49sp C49bs ((),(a1,(a2,()))) (b0,(b1,(b2,())))=C49 n a1 a2 b0 b1 b2:=by
 refine Eq.trans (b:=C49_t n (fun k v6 v1 v2 b0_2 b1p b1i b2=>iter (interp (C49cs n) typ 166 3 n C49kp (codeAt C49c [1,0,0])) (canon 3 (C49kp.loop 1)) (C49k0 n) k (C49s1 v6 v1 v2 b0_2 b1p b1i b2)) a1 a2 b0 b1 b2) (by kernel_rfl) ?_
 have e:=congrArg (fun h1=>C49_t n h1 a1 a2 b0 b1 b2) (funext fun k=>funext fun v6=>funext fun v1=>funext fun v2=>funext fun b0_2=>funext fun b1p=>funext fun b1i=>funext fun b2=>C49_l1_eq n k v6 v1 v2 b0_2 b1p b1i b2)
 exact e
theorem C49_ok (n:Nat):FunOk P (C49F n) :=
 Z308 (C:=[C391F n,C347F n]) (N:=166) (kp:=C49kp) (c:=C49c) (n:=n) (G:=fun x y=>C49 n x.2.1 x.2.2.1 y.1 y.2.1 y.2.2.1) follows (AllOk.mem (⟨C391_ok n,⟨C347_ok n,trivial⟩⟩:AllOk P ([C391F n,C347F n]))) (by kernel_rfl:P.funcs[45]?=some Go.Proofs.Tryz.f45) (by kernel_rfl) (by kernel_rfl) (by kernel_rfl)
  (fun x y=>C49_eq n x.2.1 x.2.2.1 y.1 y.2.1 y.2.2.1) (fun _ _=>Z489 (fun _=>rfl) _) (fun _ _ _ _=>rfl)
abbrev C56sp:List Sp:=[.ref 0,.v false (.int .i64),.v false (.int .i64)]
abbrev C56bs:List (Bs×Bool):=[(.rc 84 [.sl 1,.sl 2,.v (.int .i64)],true),(.pool tF,true),(.row tF,true)]
abbrev C56rs:List (Bool×List Rp):=[(false,[.v false (.int .i64)])]
noncomputable def C56kp:Keep:={ loop:=fun id=>match id with | 2=>([7,2,0],[]) | _=>([],[]),join:=fun id=>match id with | _=>none }
noncomputable def C56c:Code:=bodyOf Go.Proofs.Tryz.f43
noncomputable def C56F (n:Nat):Fun:={ id:=43,sp:=C56sp,bs:=C56bs,rs:=C56rs,f:=fun x y=>C56 n x.2.1 x.2.2.1 y.1 y.2.1 y.2.2.1 }
abbrev C56s2 (v7:Int) (v2:Int) (b0_2:Int) (b1p:List Nat) (b1i:List (List (Int×Int))) (b2:List (Int×Int)):St:={ env:=[(7,.one (.sc (.int .i64 v7))),(2,.one (.sc (.int .i64 v2))),(0,.one (.ref 0 0 0 0 0 0))],bx:=[(0,.var 84 [.slice 1 0 none,.slice 2 0 none,.sc (.int .i64 b0_2)]),(1,.pool 0 tF b1p b1i),(2,.row 0 tF b2)],nx:=3 }
noncomputable abbrev C56k0 (n:Nat):=kAt ([]) typ 31 3 n C56kp C56c [1,0,1,0] [] (ending typ 3 Go.Proofs.Tryz.f43.results.toList C56rs C56bs)
theorem C56_l2_eq (n:Nat):∀ (k:Nat) (v7:Int) (v2:Int) (b0_2:Int) (b1p:List Nat) (b1i:List (List (Int×Int))) (b2:List (Int×Int)),iter (interp ([]) typ 31 3 n C56kp (codeAt C56c [1,0,1,0,0])) (canon 3 (C56kp.loop 2)) (C56k0 n) k (C56s2 v7 v2 b0_2 b1p b1i b2)=C56_l2 n k v7 v2 b0_2 b1p b1i b2
 | 0,_,_,_,_,_,_=>by kernel_rfl
 | k+1,v7,v2,b0_2,b1p,b1i,b2=>by
  refine Eq.trans (b:=C56_t2 n (fun v7 v2 b0_2 b1p b1i b2=>iter (interp ([]) typ 31 3 n C56kp (codeAt C56c [1,0,1,0,0])) (canon 3 (C56kp.loop 2)) (C56k0 n) k (C56s2 v7 v2 b0_2 b1p b1i b2)) v7 v2 b0_2 b1p b1i b2) (by kernel_rfl) ?_
  have e:=congrArg (fun g=>C56_t2 n g v7 v2 b0_2 b1p b1i b2) (funext fun v7=>funext fun v2=>funext fun b0_2=>funext fun b1p=>funext fun b1i=>funext fun b2=>C56_l2_eq n k v7 v2 b0_2 b1p b1i b2)
  exact e
theorem C56_eq (n:Nat) (a1:Int) (a2:Int) (b0:(Int)×(Unit)) (b1:(List Nat)×(List (List (Int×Int)))) (b2:List (Int×Int)):Z702 ([]) typ 31 n C56kp C56c Go.Proofs.Tryz.f43.results.toList C56rs C56sp C56bs ((),(a1,(a2,()))) (b0,(b1,(b2,())))=C56 n a1 a2 b0 b1 b2:=by
 refine Eq.trans (b:=C56_t n (fun k v7 v2 b0_2 b1p b1i b2=>iter (interp ([]) typ 31 3 n C56kp (codeAt C56c [1,0,1,0,0])) (canon 3 (C56kp.loop 2)) (C56k0 n) k (C56s2 v7 v2 b0_2 b1p b1i b2)) a1 a2 b0 b1 b2) (by kernel_rfl) ?_
 have e:=congrArg (fun h2=>C56_t n h2 a1 a2 b0 b1 b2) (funext fun k=>funext fun v7=>funext fun v2=>funext fun b0_2=>funext fun b1p=>funext fun b1i=>funext fun b2=>C56_l2_eq n k v7 v2 b0_2 b1p b1i b2)
 exact e
theorem C56_ok (n:Nat):FunOk P (C56F n) :=
 Z308 (C:=[]) (N:=31) (kp:=C56kp) (c:=C56c) (n:=n) (G:=fun x y=>C56 n x.2.1 x.2.2.1 y.1 y.2.1 y.2.2.1) follows (AllOk.mem (trivial:AllOk P ([]))) (by kernel_rfl:P.funcs[43]?=some Go.Proofs.Tryz.f43) (by kernel_rfl) (by kernel_rfl) (by kernel_rfl)
  (fun x y=>C56_eq n x.2.1 x.2.2.1 y.1 y.2.1 y.2.2.1) (fun _ _=>Z489 (fun _=>rfl) _) (fun _ _ _ _=>rfl)
abbrev C57sp:List Sp:=[.ref 0,.v false (.int .i64),.v false (.int .i64)]
abbrev C57bs:List (Bs×Bool):=[(.rc 84 [.sl 1,.sl 2,.v (.int .i64)],true),(.pool tF,true),(.row tF,true)]
abbrev C57rs:List (Bool×List Rp):=[]
noncomputable def C57kp:Keep:={ loop:=fun id=>match id with | _=>([],[]),join:=fun id=>match id with | _=>none }
noncomputable def C57c:Code:=bodyOf Go.Proofs.Tryz.f44
noncomputable def C57F (n:Nat):Fun:={ id:=44,sp:=C57sp,bs:=C57bs,rs:=C57rs,f:=fun x y=>C57 n x.2.1 x.2.2.1 y.1 y.2.1 y.2.2.1 }
theorem C57_eq (n:Nat) (a1:Int) (a2:Int) (b0:(Int)×(Unit)) (b1:(List Nat)×(List (List (Int×Int)))) (b2:List (Int×Int)):Z702 ([]) typ 62 n C57kp C57c Go.Proofs.Tryz.f44.results.toList C57rs C57sp C57bs ((),(a1,(a2,()))) (b0,(b1,(b2,())))=C57 n a1 a2 b0 b1 b2:=by
 refine Eq.trans (b:=C57_t n a1 a2 b0 b1 b2) (by kernel_rfl) ?_
 rfl
theorem C57_ok (n:Nat):FunOk P (C57F n) :=
 Z308 (C:=[]) (N:=62) (kp:=C57kp) (c:=C57c) (n:=n) (G:=fun x y=>C57 n x.2.1 x.2.2.1 y.1 y.2.1 y.2.2.1) follows (AllOk.mem (trivial:AllOk P ([]))) (by kernel_rfl:P.funcs[44]?=some Go.Proofs.Tryz.f44) (by kernel_rfl) (by kernel_rfl) (by kernel_rfl)
  (fun x y=>C57_eq n x.2.1 x.2.2.1 y.1 y.2.1 y.2.2.1) (fun _ _=>Z489 (fun _=>rfl) _) (fun _ _ _ _=>rfl)
abbrev C290sp:List Sp:=[.v false (.list (.list tF)),.v false (.list tF)]
abbrev C290bs:List (Bs×Bool):=[]
abbrev C290rs:List (Bool×List Rp):=[(false,[.new  tF]),(false,[.v false (.int .i64)])]
noncomputable def C290kp:Keep:={ loop:=fun id=>match id with | 3=>([6,7,0],[]) | 14=>([10,9,6,0],[]) | _=>([],[]),join:=fun id=>match id with | _=>none }
noncomputable def C290c:Code:=bodyOf Go.Proofs.Tryz.f40
noncomputable def C290F (n:Nat):Fun:={ id:=40,sp:=C290sp,bs:=C290bs,rs:=C290rs,f:=fun x y=>C290 n x.1 x.2.1 }
noncomputable abbrev C290cs (n:Nat):List Fun:=[C285F n,C56F n,C57F n,C49F n,C391F n]
abbrev C290s14 (v10:Int) (v0:List (List (Int×Int))) (b0:List (Int×Int)) (b1_2:Int) (b2p:List Nat) (b2i:List (List (Int×Int))) (b3:List (Int×Int)):St:={ env:=[(10,.one (.sc (.int .i64 v10))),(9,.one (.slice 0 0 none)),(6,.one (.ref 1 0 0 0 0 0)),(0,.one (.list true (.list tF) v0))],bx:=[(0,.row 0 tF b0),(1,.var 84 [.slice 2 0 none,.slice 3 0 none,.sc (.int .i64 b1_2)]),(2,.pool 0 tF b2p b2i),(3,.row 0 tF b3)],nx:=4 }
abbrev C290s3 (v7:Int) (v0:List (List (Int×Int))) (b0_2:Int) (b1p:List Nat) (b1i:List (List (Int×Int))) (b2:List (Int×Int)):St:={ env:=[(6,.one (.ref 0 0 0 0 0 0)),(7,.one (.sc (.int .i64 v7))),(0,.one (.list true (.list tF) v0))],bx:=[(0,.var 84 [.slice 1 0 none,.slice 2 0 none,.sc (.int .i64 b0_2)]),(1,.pool 0 tF b1p b1i),(2,.row 0 tF b2)],nx:=3 }
noncomputable abbrev C290k0 (n:Nat):=kAt (C290cs n) typ 84 0 n C290kp C290c [1,1,1,1,0,1,0] [] (ending typ 0 Go.Proofs.Tryz.f40.results.toList C290rs C290bs)
noncomputable abbrev C290k1 (n:Nat):=kAt (C290cs n) typ 84 0 n C290kp C290c [1,1,0,1,0] [] (ending typ 0 Go.Proofs.Tryz.f40.results.toList C290rs C290bs)
theorem C290_l14_eq (n:Nat):∀ (k:Nat) (v10:Int) (v0:List (List (Int×Int))) (b0:List (Int×Int)) (b1_2:Int) (b2p:List Nat) (b2i:List (List (Int×Int))) (b3:List (Int×Int)),iter (interp (C290cs n) typ 84 0 n C290kp (codeAt C290c [1,1,1,1,0,1,0,0])) (canon 0 (C290kp.loop 14)) (C290k0 n) k (C290s14 v10 v0 b0 b1_2 b2p b2i b3)=C290_l14 n k v10 v0 b0 b1_2 b2p b2i b3
 | 0,_,_,_,_,_,_,_=>by kernel_rfl
 | k+1,v10,v0,b0,b1_2,b2p,b2i,b3=>by
  refine Eq.trans (b:=C290_t14 n (fun v10 v0 b0 b1_2 b2p b2i b3=>iter (interp (C290cs n) typ 84 0 n C290kp (codeAt C290c [1,1,1,1,0,1,0,0])) (canon 0 (C290kp.loop 14)) (C290k0 n) k (C290s14 v10 v0 b0 b1_2 b2p b2i b3)) v10 v0 b0 b1_2 b2p b2i b3) (by kernel_rfl) ?_
  have e:=congrArg (fun g=>C290_t14 n g v10 v0 b0 b1_2 b2p b2i b3) (funext fun v10=>funext fun v0=>funext fun b0=>funext fun b1_2=>funext fun b2p=>funext fun b2i=>funext fun b3=>C290_l14_eq n k v10 v0 b0 b1_2 b2p b2i b3)
  exact e
theorem C290_l3_eq (n:Nat):∀ (k:Nat) (v7:Int) (v0:List (List (Int×Int))) (b0_2:Int) (b1p:List Nat) (b1i:List (List (Int×Int))) (b2:List (Int×Int)),iter (interp (C290cs n) typ 84 0 n C290kp (codeAt C290c [1,1,0,1,0,0])) (canon 0 (C290kp.loop 3)) (C290k1 n) k (C290s3 v7 v0 b0_2 b1p b1i b2)=C290_l3 n k v7 v0 b0_2 b1p b1i b2
 | 0,_,_,_,_,_,_=>by kernel_rfl
 | k+1,v7,v0,b0_2,b1p,b1i,b2=>by
  refine Eq.trans (b:=C290_t3 n (fun k' v10 v0 b0 b1_2 b2p b2i b3=>iter (interp (C290cs n) typ 84 0 n C290kp (codeAt C290c [1,1,1,1,0,1,0,0])) (canon 0 (C290kp.loop 14)) (C290k0 n) k' (C290s14 v10 v0 b0 b1_2 b2p b2i b3)) (fun v7 v0 b0_2 b1p b1i b2=>iter (interp (C290cs n) typ 84 0 n C290kp (codeAt C290c [1,1,0,1,0,0])) (canon 0 (C290kp.loop 3)) (C290k1 n) k (C290s3 v7 v0 b0_2 b1p b1i b2)) v7 v0 b0_2 b1p b1i b2) (by kernel_rfl) ?_
  have e:=congr (congrArg (fun h14 g=>C290_t3 n h14 g v7 v0 b0_2 b1p b1i b2) (funext fun k'=>funext fun v10=>funext fun v0=>funext fun b0=>funext fun b1_2=>funext fun b2p=>funext fun b2i=>funext fun b3=>C290_l14_eq n k' v10 v0 b0 b1_2 b2p b2i b3)) (funext fun v7=>funext fun v0=>funext fun b0_2=>funext fun b1p=>funext fun b1i=>funext fun b2=>C290_l3_eq n k v7 v0 b0_2 b1p b1i b2)
  exact e
theorem C290_eq (n:Nat) (a0:List (List (Int×Int))) (a1:List (Int×Int)):Z702 (C290cs n) typ 84 n C290kp C290c Go.Proofs.Tryz.f40.results.toList C290rs C290sp C290bs (a0,(a1,())) ()=C290 n a0 a1:=by
 refine Eq.trans (b:=C290_t n (fun k v7 v0 b0_2 b1p b1i b2=>iter (interp (C290cs n) typ 84 0 n C290kp (codeAt C290c [1,1,0,1,0,0])) (canon 0 (C290kp.loop 3)) (C290k1 n) k (C290s3 v7 v0 b0_2 b1p b1i b2)) a0 a1) (by kernel_rfl) ?_
 have e:=congrArg (fun h3=>C290_t n h3 a0 a1) (funext fun k=>funext fun v7=>funext fun v0=>funext fun b0_2=>funext fun b1p=>funext fun b1i=>funext fun b2=>C290_l3_eq n k v7 v0 b0_2 b1p b1i b2)
 exact e
theorem C290_ok (n:Nat):FunOk P (C290F n) :=
 Z308 (C:=[C285F n,C56F n,C57F n,C49F n,C391F n]) (N:=84) (kp:=C290kp) (c:=C290c) (n:=n) (G:=fun x y=>C290 n x.1 x.2.1) follows (AllOk.mem (⟨C285_ok n,⟨C56_ok n,⟨C57_ok n,⟨C49_ok n,⟨C391_ok n,trivial⟩⟩⟩⟩⟩:AllOk P ([C285F n,C56F n,C57F n,C49F n,C391F n]))) (by kernel_rfl:P.funcs[40]?=some Go.Proofs.Tryz.f40) (by kernel_rfl) (by kernel_rfl) (by kernel_rfl)
  (fun x y=>C290_eq n x.1 x.2.1) (fun _ _=>Z489 (fun _=>rfl) _) (fun _ _ _ _=>rfl)
abbrev C65sp:List Sp:=[.v true (.pair (.int .i64) (.pair (.list tO) (.pair .bool tF)))]
abbrev C65bs:List (Bs×Bool):=[]
abbrev C65rs:List (Bool×List Rp):=[(false,[.new  tF]),(false,[.v false (.int .i64)])]
noncomputable def C65kp:Keep:={ loop:=fun id=>match id with | _=>([],[]),join:=fun id=>match id with | _=>none }
noncomputable def C65c:Code:=bodyOf Go.Proofs.Tryz.f10
noncomputable def C65F (n:Nat):Fun:={ id:=10,sp:=C65sp,bs:=C65bs,rs:=C65rs,f:=fun x y=>C65 n x.1 }
theorem C65_eq (n:Nat) (a0:(Int)×((List OB9)×((Bool)×(Int×Int)))):Z702 ([C269F n,C290F n]) ty 35 n C65kp C65c Go.Proofs.Tryz.f10.results.toList C65rs C65sp C65bs (a0,()) ()=C65 n a0:=by
 refine Eq.trans (b:=C65_t n a0) (by kernel_rfl) ?_
 rfl
theorem C65_ok (n:Nat):FunOk P (C65F n) :=
 Z465 (C:=[C269F n,C290F n]) (N:=35) (kp:=C65kp) (c:=C65c) (n:=n) (G:=fun x y=>C65 n x.1) follows (AllOk.mem (⟨C269_ok n,⟨C290_ok n,trivial⟩⟩:AllOk P ([C269F n,C290F n]))) (by kernel_rfl:P.funcs[10]?=some Go.Proofs.Tryz.f10) (by kernel_rfl) (by kernel_rfl) (by kernel_rfl)
  (fun x y=>C65_eq n x.1) (fun _ _=>Z489 (fun _=>rfl) _) (fun _ _ _ _=>rfl)
abbrev C381sp:List Sp:=[.v true (.pair (.int .i64) (.pair (.list tO) (.pair .bool tF)))]
abbrev C381bs:List (Bs×Bool):=[]
abbrev C381rs:List (Bool×List Rp):=[(false,[.v false (.int .i64)]),(false,[.v false (.int .i64)])]
noncomputable def C381kp:Keep:={ loop:=fun id=>match id with | 8=>([10,8,7,9,4],[]) | _=>([],[]),join:=fun id=>match id with | _=>none }
noncomputable def C381c:Code:=bodyOf Go.Proofs.Tryz.f12
noncomputable def C381F (n:Nat):Fun:={ id:=12,sp:=C381sp,bs:=C381bs,rs:=C381rs,f:=fun x y=>C381 n x.1 }
noncomputable abbrev C381cs (n:Nat):List Fun:=[C269F n,C285F n,C56F n,C57F n,C49F n]
abbrev C381s8 (v10:Int) (v8:Int) (v9:Int) (b0_2:Int) (b1:List (List (Int×Int))) (b2p:List Nat) (b2i:List (List (Int×Int))) (b3:List (Int×Int)):St:={ env:=[(10,.one (.sc (.int .i64 v10))),(8,.one (.sc (.int .i64 v8))),(7,.one (.ref 0 0 0 0 0 0)),(9,.one (.sc (.int .i64 v9))),(4,.one (.slice 1 0 none))],bx:=[(0,.var 84 [.slice 2 0 none,.slice 3 0 none,.sc (.int .i64 b0_2)]),(1,.row 0 (.list tF) b1),(2,.pool 0 tF b2p b2i),(3,.row 0 tF b3)],nx:=4 }
noncomputable abbrev C381k0 (n:Nat):=kAt (C381cs n) typ 58 0 n C381kp C381c [1,1,1,1,1,1,0,1,0] [] (ending typ 0 Go.Proofs.Tryz.f12.results.toList C381rs C381bs)
theorem C381_l8_eq (n:Nat):∀ (k:Nat) (v10:Int) (v8:Int) (v9:Int) (b0_2:Int) (b1:List (List (Int×Int))) (b2p:List Nat) (b2i:List (List (Int×Int))) (b3:List (Int×Int)),iter (interp (C381cs n) typ 58 0 n C381kp (codeAt C381c [1,1,1,1,1,1,0,1,0,0])) (canon 0 (C381kp.loop 8)) (C381k0 n) k (C381s8 v10 v8 v9 b0_2 b1 b2p b2i b3)=C381_l8 n k v10 v8 v9 b0_2 b1 b2p b2i b3
 | 0,_,_,_,_,_,_,_,_=>by kernel_rfl
 | k+1,v10,v8,v9,b0_2,b1,b2p,b2i,b3=>by
  refine Eq.trans (b:=C381_t8 n (fun v10 v8 v9 b0_2 b1 b2p b2i b3=>iter (interp (C381cs n) typ 58 0 n C381kp (codeAt C381c [1,1,1,1,1,1,0,1,0,0])) (canon 0 (C381kp.loop 8)) (C381k0 n) k (C381s8 v10 v8 v9 b0_2 b1 b2p b2i b3)) v10 v8 v9 b0_2 b1 b2p b2i b3) (by kernel_rfl) ?_
  have e:=congrArg (fun g=>C381_t8 n g v10 v8 v9 b0_2 b1 b2p b2i b3) (funext fun v10=>funext fun v8=>funext fun v9=>funext fun b0_2=>funext fun b1=>funext fun b2p=>funext fun b2i=>funext fun b3=>C381_l8_eq n k v10 v8 v9 b0_2 b1 b2p b2i b3)
  exact e
theorem C381_eq (n:Nat) (a0:(Int)×((List OB9)×((Bool)×(Int×Int)))):Z702 (C381cs n) typ 58 n C381kp C381c Go.Proofs.Tryz.f12.results.toList C381rs C381sp C381bs (a0,()) ()=C381 n a0:=by
 refine Eq.trans (b:=C381_t n (fun k v10 v8 v9 b0_2 b1 b2p b2i b3=>iter (interp (C381cs n) typ 58 0 n C381kp (codeAt C381c [1,1,1,1,1,1,0,1,0,0])) (canon 0 (C381kp.loop 8)) (C381k0 n) k (C381s8 v10 v8 v9 b0_2 b1 b2p b2i b3)) a0) (by kernel_rfl) ?_
 have e:=congrArg (fun h8=>C381_t n h8 a0) (funext fun k=>funext fun v10=>funext fun v8=>funext fun v9=>funext fun b0_2=>funext fun b1=>funext fun b2p=>funext fun b2i=>funext fun b3=>C381_l8_eq n k v10 v8 v9 b0_2 b1 b2p b2i b3)
 exact e
theorem C381_ok (n:Nat):FunOk P (C381F n) :=
 Z308 (C:=[C269F n,C285F n,C56F n,C57F n,C49F n]) (N:=58) (kp:=C381kp) (c:=C381c) (n:=n) (G:=fun x y=>C381 n x.1) follows (AllOk.mem (⟨C269_ok n,⟨C285_ok n,⟨C56_ok n,⟨C57_ok n,⟨C49_ok n,trivial⟩⟩⟩⟩⟩:AllOk P ([C269F n,C285F n,C56F n,C57F n,C49F n]))) (by kernel_rfl:P.funcs[12]?=some Go.Proofs.Tryz.f12) (by kernel_rfl) (by kernel_rfl) (by kernel_rfl)
  (fun x y=>C381_eq n x.1) (fun _ _=>Z489 (fun _=>rfl) _) (fun _ _ _ _=>rfl)
abbrev C329sp:List Sp:=[.v false (.list (.int .u8))]
abbrev C329bs:List (Bs×Bool):=[]
abbrev C329rs:List (Bool×List Rp):=[(false,[.nvar 108 (.pair (.list (.int .u8)) (.pair (.int .i64) (.int .u64)))])]
noncomputable def C329kp:Keep:={ loop:=fun id=>match id with | _=>([],[]),join:=fun id=>match id with | _=>none }
noncomputable def C329c:Code:=bodyOf Go.Proofs.Tryz.f26
noncomputable def C329F (n:Nat):Fun:={ id:=26,sp:=C329sp,bs:=C329bs,rs:=C329rs,f:=fun x y=>C329 n x.1 }
theorem C329_eq (n:Nat) (a0:List (Int)):Z702 ([]) ty 6 n C329kp C329c Go.Proofs.Tryz.f26.results.toList C329rs C329sp C329bs (a0,()) ()=C329 n a0:=by
 refine Eq.trans (b:=C329_t n a0) (by kernel_rfl) ?_
 rfl
theorem C329_ok (n:Nat):FunOk P (C329F n) :=
 Z465 (C:=[]) (N:=6) (kp:=C329kp) (c:=C329c) (n:=n) (G:=fun x y=>C329 n x.1) follows (AllOk.mem (trivial:AllOk P ([]))) (by kernel_rfl:P.funcs[26]?=some Go.Proofs.Tryz.f26) (by kernel_rfl) (by kernel_rfl) (by kernel_rfl)
  (fun x y=>C329_eq n x.1) (fun _ _=>Z489 (fun _=>rfl) _) (fun _ _ _ _=>rfl)
abbrev C107sp:List Sp:=[.ref 0]
abbrev C107bs:List (Bs×Bool):=[(.var 108 (.pair (.list (.int .u8)) (.pair (.int .i64) (.int .u64))),true)]
abbrev C107rs:List (Bool×List Rp):=[(false,[.v false (.int .i64)])]
noncomputable def C107kp:Keep:={ loop:=fun id=>match id with | _=>([],[]),join:=fun id=>match id with | _=>none }
noncomputable def C107c:Code:=bodyOf Go.Proofs.Tryz.f90
noncomputable def C107F (n:Nat):Fun:={ id:=90,sp:=C107sp,bs:=C107bs,rs:=C107rs,f:=fun x y=>C107 n y.1 }
theorem C107_eq (n:Nat) (b0:(List (Int))×(Int×Int)):Z702 ([]) ty 62 n C107kp C107c Go.Proofs.Tryz.f90.results.toList C107rs C107sp C107bs ((),()) (b0,())=C107 n b0:=by
 refine Eq.trans (b:=C107_t n b0) (by kernel_rfl) ?_
 rfl
theorem C107_ok (n:Nat):FunOk P (C107F n) :=
 Z465 (C:=[]) (N:=62) (kp:=C107kp) (c:=C107c) (n:=n) (G:=fun x y=>C107 n y.1) follows (AllOk.mem (trivial:AllOk P ([]))) (by kernel_rfl:P.funcs[90]?=some Go.Proofs.Tryz.f90) (by kernel_rfl) (by kernel_rfl) (by kernel_rfl)
  (fun x y=>C107_eq n y.1) (fun _ _=>Z489 (fun _=>rfl) _) (fun _ _ _ _=>rfl)
abbrev C108sp:List Sp:=[.ref 0,.v false (.int .i64)]
abbrev C108bs:List (Bs×Bool):=[(.var 108 (.pair (.list (.int .u8)) (.pair (.int .i64) (.int .u64))),true)]
abbrev C108rs:List (Bool×List Rp):=[(false,[.v false (.int .i64)])]
noncomputable def C108kp:Keep:={ loop:=fun id=>match id with | _=>([],[]),join:=fun id=>match id with | _=>none }
noncomputable def C108c:Code:=bodyOf Go.Proofs.Tryz.f65
noncomputable def C108F (n:Nat):Fun:={ id:=65,sp:=C108sp,bs:=C108bs,rs:=C108rs,f:=fun x y=>C108 n x.2.1 y.1 }
theorem C108_eq (n:Nat) (a1:Int) (b0:(List (Int))×(Int×Int)):Z702 ([C107F n]) ty 20 n C108kp C108c Go.Proofs.Tryz.f65.results.toList C108rs C108sp C108bs ((),(a1,())) (b0,())=C108 n a1 b0:=by
 refine Eq.trans (b:=C108_t n a1 b0) (by kernel_rfl) ?_
 rfl
theorem C108_ok (n:Nat):FunOk P (C108F n) :=
 Z465 (C:=[C107F n]) (N:=20) (kp:=C108kp) (c:=C108c) (n:=n) (G:=fun x y=>C108 n x.2.1 y.1) follows (AllOk.mem (⟨C107_ok n,trivial⟩:AllOk P ([C107F n]))) (by kernel_rfl:P.funcs[65]?=some Go.Proofs.Tryz.f65) (by kernel_rfl) (by kernel_rfl) (by kernel_rfl)
  (fun x y=>C108_eq n x.2.1 y.1) (fun _ _=>Z489 (fun _=>rfl) _) (fun _ _ _ _=>rfl)
abbrev C81sp:List Sp:=[.ref 0,.sl 1]
abbrev C81bs:List (Bs×Bool):=[(.var 108 (.pair (.list (.int .u8)) (.pair (.int .i64) (.int .u64))),true),(.row  (.int .i64),true)]
abbrev C81rs:List (Bool×List Rp):=[(false,[.v false (.int .i64)])]
noncomputable def C81kp:Keep:={ loop:=fun id=>match id with | _=>([],[]),join:=fun id=>match id with | _=>none }
noncomputable def C81c:Code:=bodyOf Go.Proofs.Tryz.f68
noncomputable def C81F (n:Nat):Fun:={ id:=68,sp:=C81sp,bs:=C81bs,rs:=C81rs,f:=fun x y=>C81 n y.1 y.2.1 }
theorem C81_eq (n:Nat) (b0:(List (Int))×(Int×Int)) (b1:List (Int)):Z702 ([C108F n]) ty 12 n C81kp C81c Go.Proofs.Tryz.f68.results.toList C81rs C81sp C81bs ((),((),())) (b0,(b1,()))=C81 n b0 b1:=by
 refine Eq.trans (b:=C81_t n b0 b1) (by kernel_rfl) ?_
 rfl
theorem C81_ok (n:Nat):FunOk P (C81F n) :=
 Z465 (C:=[C108F n]) (N:=12) (kp:=C81kp) (c:=C81c) (n:=n) (G:=fun x y=>C81 n y.1 y.2.1) follows (AllOk.mem (⟨C108_ok n,trivial⟩:AllOk P ([C108F n]))) (by kernel_rfl:P.funcs[68]?=some Go.Proofs.Tryz.f68) (by kernel_rfl) (by kernel_rfl) (by kernel_rfl)
  (fun x y=>C81_eq n y.1 y.2.1) (fun _ _=>Z489 (fun _=>rfl) _) (fun _ _ _ _=>rfl)
abbrev C289sp:List Sp:=[.ref 0]
abbrev C289bs:List (Bs×Bool):=[(.var 108 (.pair (.list (.int .u8)) (.pair (.int .i64) (.int .u64))),true)]
abbrev C289rs:List (Bool×List Rp):=[(true,[.v false tF])]
noncomputable def C289kp:Keep:={ loop:=fun id=>match id with | _=>([],[]),join:=fun id=>match id with | _=>none }
noncomputable def C289c:Code:=bodyOf Go.Proofs.Tryz.f27
noncomputable def C289F (n:Nat):Fun:={ id:=27,sp:=C289sp,bs:=C289bs,rs:=C289rs,f:=fun x y=>C289 n y.1 }
theorem C155q (n:Nat) (b0:(List (Int))×(Int×Int)):Z702 ([C108F n,C81F n,C146F n]) ty 16 n C289kp C289c Go.Proofs.Tryz.f27.results.toList C289rs C289sp C289bs ((),()) (b0,())=C289 n b0:=by
 refine Eq.trans (b:=C289_t n b0) (by kernel_rfl) ?_
 rfl
theorem C289_ok (n:Nat):FunOk P (C289F n) :=
 Z465 (C:=[C108F n,C81F n,C146F n]) (N:=16) (kp:=C289kp) (c:=C289c) (n:=n) (G:=fun x y=>C289 n y.1) follows (AllOk.mem (⟨C108_ok n,⟨C81_ok n,⟨C146_ok n,trivial⟩⟩⟩:AllOk P ([C108F n,C81F n,C146F n]))) (by kernel_rfl:P.funcs[27]?=some Go.Proofs.Tryz.f27) (by kernel_rfl) (by kernel_rfl) (by kernel_rfl)
  (fun x y=>C155q n y.1) (fun _ _=>Z489 (fun _=>rfl) _) (fun _ _ _ _=>rfl)
abbrev C194sp:List Sp:=[.v false (.list (.int .u8)),.v true (.pair (.int .i64) (.pair (.list tO) (.pair .bool tF)))]
abbrev C194bs:List (Bs×Bool):=[]
abbrev C194rs:List (Bool×List Rp):=[(false,[.new  tF])]
noncomputable def C194kp:Keep:={ loop:=fun id=>match id with | 4=>([7,5,6,3],[]) | _=>([],[]),join:=fun id=>match id with | _=>none }
noncomputable def C194c:Code:=bodyOf Go.Proofs.Tryz.f6
noncomputable def C194F (n:Nat):Fun:={ id:=6,sp:=C194sp,bs:=C194bs,rs:=C194rs,f:=fun x y=>C194 n x.1 x.2.1 }
noncomputable abbrev C194cs (n:Nat):List Fun:=[C329F n,C289F n]
abbrev C194s4 (v7:Int) (b0_0:List (Int)) (b0_1:Int) (b0_2:Int) (b1:List (Int×Int)) (b2_0:Int) (b2_1:List OB9) (b2_2:Bool) (b2_3:Int) (b2_4:Int):St:={ env:=[(7,.one (.sc (.int .i64 v7))),(5,.one (.ref 0 0 0 0 0 0)),(6,.one (.slice 1 0 none)),(3,.one (.ref 2 0 0 0 0 0))],bx:=[(0,.var 108 [.list true (.int .u8) b0_0,.sc (.int .i64 b0_1),.sc (.int .u64 b0_2)]),(1,.row 0 tF b1),(2,.var 28 [.sc (.int .i64 b2_0),.list true tO b2_1,.sc (.bool b2_2),.sc (.int .i64 b2_3),.sc (.int .i64 b2_4)])],nx:=3 }
noncomputable abbrev C194k0 (n:Nat):=kAt (C194cs n) ty 23 0 n C194kp C194c [1,1,1,0,1,0] [] (ending ty 0 Go.Proofs.Tryz.f6.results.toList C194rs C194bs)
theorem C194_l4_eq (n:Nat):∀ (k:Nat) (v7:Int) (b0_0:List (Int)) (b0_1:Int) (b0_2:Int) (b1:List (Int×Int)) (b2_0:Int) (b2_1:List OB9) (b2_2:Bool) (b2_3:Int) (b2_4:Int),iter (interp (C194cs n) ty 23 0 n C194kp (codeAt C194c [1,1,1,0,1,0,0])) (canon 0 (C194kp.loop 4)) (C194k0 n) k (C194s4 v7 b0_0 b0_1 b0_2 b1 b2_0 b2_1 b2_2 b2_3 b2_4)=C194_l4 n k v7 b0_0 b0_1 b0_2 b1 b2_0 b2_1 b2_2 b2_3 b2_4
 | 0,_,_,_,_,_,_,_,_,_,_=>by kernel_rfl
 | k+1,v7,b0_0,b0_1,b0_2,b1,b2_0,b2_1,b2_2,b2_3,b2_4=>by
  refine Eq.trans (b:=C194_t4 n (fun v7 b0_0 b0_1 b0_2 b1 b2_0 b2_1 b2_2 b2_3 b2_4=>iter (interp (C194cs n) ty 23 0 n C194kp (codeAt C194c [1,1,1,0,1,0,0])) (canon 0 (C194kp.loop 4)) (C194k0 n) k (C194s4 v7 b0_0 b0_1 b0_2 b1 b2_0 b2_1 b2_2 b2_3 b2_4)) v7 b0_0 b0_1 b0_2 b1 b2_0 b2_1 b2_2 b2_3 b2_4) (by kernel_rfl) ?_
  have e:=congrArg (fun g=>C194_t4 n g v7 b0_0 b0_1 b0_2 b1 b2_0 b2_1 b2_2 b2_3 b2_4) (funext fun v7=>funext fun b0_0=>funext fun b0_1=>funext fun b0_2=>funext fun b1=>funext fun b2_0=>funext fun b2_1=>funext fun b2_2=>funext fun b2_3=>funext fun b2_4=>C194_l4_eq n k v7 b0_0 b0_1 b0_2 b1 b2_0 b2_1 b2_2 b2_3 b2_4)
  exact e
theorem C194_eq (n:Nat) (a0:List (Int)) (a1:(Int)×((List OB9)×((Bool)×(Int×Int)))):Z702 (C194cs n) ty 23 n C194kp C194c Go.Proofs.Tryz.f6.results.toList C194rs C194sp C194bs (a0,(a1,())) ()=C194 n a0 a1:=by
 refine Eq.trans (b:=C194_t n (fun k v7 b0_0 b0_1 b0_2 b1 b2_0 b2_1 b2_2 b2_3 b2_4=>iter (interp (C194cs n) ty 23 0 n C194kp (codeAt C194c [1,1,1,0,1,0,0])) (canon 0 (C194kp.loop 4)) (C194k0 n) k (C194s4 v7 b0_0 b0_1 b0_2 b1 b2_0 b2_1 b2_2 b2_3 b2_4)) a0 a1) (by kernel_rfl) ?_
 have e:=congrArg (fun h4=>C194_t n h4 a0 a1) (funext fun k=>funext fun v7=>funext fun b0_0=>funext fun b0_1=>funext fun b0_2=>funext fun b1=>funext fun b2_0=>funext fun b2_1=>funext fun b2_2=>funext fun b2_3=>funext fun b2_4=>C194_l4_eq n k v7 b0_0 b0_1 b0_2 b1 b2_0 b2_1 b2_2 b2_3 b2_4)
 exact e
theorem C194_ok (n:Nat):FunOk P (C194F n) :=
 Z465 (C:=[C329F n,C289F n]) (N:=23) (kp:=C194kp) (c:=C194c) (n:=n) (G:=fun x y=>C194 n x.1 x.2.1) follows (AllOk.mem (⟨C329_ok n,⟨C289_ok n,trivial⟩⟩:AllOk P ([C329F n,C289F n]))) (by kernel_rfl:P.funcs[6]?=some Go.Proofs.Tryz.f6) (by kernel_rfl) (by kernel_rfl) (by kernel_rfl)
  (fun x y=>C194_eq n x.1 x.2.1) (fun _ _=>Z489 (fun _=>rfl) _) (fun _ _ _ _=>rfl)
abbrev C144sp:List Sp:=[.ref 0,.v false (.int .i64)]
abbrev C144bs:List (Bs×Bool):=[(.var 108 (.pair (.list (.int .u8)) (.pair (.int .i64) (.int .u64))),true)]
abbrev C144rs:List (Bool×List Rp):=[(false,[.v false .bool])]
noncomputable def C144kp:Keep:={ loop:=fun id=>match id with | _=>([],[]),join:=fun id=>match id with | _=>none }
noncomputable def C144c:Code:=bodyOf Go.Proofs.Tryz.f67
noncomputable def C144F (n:Nat):Fun:={ id:=67,sp:=C144sp,bs:=C144bs,rs:=C144rs,f:=fun x y=>C144 n x.2.1 y.1 }
theorem C144_eq (n:Nat) (a1:Int) (b0:(List (Int))×(Int×Int)):Z702 ([C108F n]) ty 9 n C144kp C144c Go.Proofs.Tryz.f67.results.toList C144rs C144sp C144bs ((),(a1,())) (b0,())=C144 n a1 b0:=by
 refine Eq.trans (b:=C144_t n a1 b0) (by kernel_rfl) ?_
 rfl
theorem C144_ok (n:Nat):FunOk P (C144F n) :=
 Z465 (C:=[C108F n]) (N:=9) (kp:=C144kp) (c:=C144c) (n:=n) (G:=fun x y=>C144 n x.2.1 y.1) follows (AllOk.mem (⟨C108_ok n,trivial⟩:AllOk P ([C108F n]))) (by kernel_rfl:P.funcs[67]?=some Go.Proofs.Tryz.f67) (by kernel_rfl) (by kernel_rfl) (by kernel_rfl)
  (fun x y=>C144_eq n x.2.1 y.1) (fun _ _=>Z489 (fun _=>rfl) _) (fun _ _ _ _=>rfl)
abbrev C286sp:List Sp:=[.ref 0]
abbrev C286bs:List (Bs×Bool):=[(.var 108 (.pair (.list (.int .u8)) (.pair (.int .i64) (.int .u64))),true)]
abbrev C286rs:List (Bool×List Rp):=[(true,[.v false (.pair (.int .i64) (.pair (.list tO) (.pair .bool tF)))])]
noncomputable def C286kp:Keep:={ loop:=fun id=>match id with | 5=>([0,4,3,2],[.box 1 1 tO]) | 9=>([6,5,0,3,2,4],[]) | _=>([],[]),join:=fun id=>match id with | 4=>some ([0,3,2],[]) | _=>none }
noncomputable def C286c:Code:=bodyOf Go.Proofs.Tryz.f25
noncomputable def C286F (n:Nat):Fun:={ id:=25,sp:=C286sp,bs:=C286bs,rs:=C286rs,f:=fun x y=>C286 n y.1 }
noncomputable abbrev C286cs (n:Nat):List Fun:=[C108F n,C275F n,C144F n,C289F n,C81F n]
abbrev C286s9 (v6:Int) (v4:Int) (b0_0:List (Int)) (b0_1:Int) (b0_2:Int) (b1_0:Int) (b1_1:Int) (b1_2:Int) (b1_3:Int) (b1_4:Int) (b1_5:Int) (b1_6:Int) (b1_7:Int) (b1_8:Int) (b2_0:Int) (b2_2:Bool) (b2_3:Int) (b2_4:Int) (b3_0:Int) (b3_2:Bool) (b3_3:Int) (b3_4:Int) (b4:List OB9):St:={ env:=[(6,.one (.sc (.int .i64 v6))),(5,.one (.ref 1 0 0 0 0 0)),(0,.one (.ref 0 0 0 0 0 0)),(3,.one (.ref 2 0 0 0 0 0)),(2,.one (.ref 3 0 0 0 0 0)),(4,.one (.sc (.int .i64 v4)))],bx:=[(0,.var 108 [.list true (.int .u8) b0_0,.sc (.int .i64 b0_1),.sc (.int .u64 b0_2)]),(1,.var 52 [.sc (.int .i8 b1_0),.sc (.int .i8 b1_1),.sc (.int .i8 b1_2),.sc (.int .i8 b1_3),.sc (.int .i8 b1_4),.sc (.int .i8 b1_5),.sc (.int .i64 b1_6),.sc (.int .i64 b1_7),.sc (.int .i64 b1_8)]),(2,.var 28 [.sc (.int .i64 b2_0),.slice 4 0 none,.sc (.bool b2_2),.sc (.int .i64 b2_3),.sc (.int .i64 b2_4)]),(3,.var 28 [.sc (.int .i64 b3_0),.sc (.slice none 0 0),.sc (.bool b3_2),.sc (.int .i64 b3_3),.sc (.int .i64 b3_4)]),(4,.row 0 tO b4)],nx:=5 }
abbrev C286s5 (v4:Int) (b0_0:List (Int)) (b0_1:Int) (b0_2:Int) (b1_0:Int) (b1_2:Bool) (b1_3:Int) (b1_4:Int) (b2_0:Int) (b2_2:Bool) (b2_3:Int) (b2_4:Int) (b3:List OB9):St:={ env:=[(0,.one (.ref 0 0 0 0 0 0)),(4,.one (.sc (.int .i64 v4))),(3,.one (.ref 1 0 0 0 0 0)),(2,.one (.ref 2 0 0 0 0 0))],bx:=[(0,.var 108 [.list true (.int .u8) b0_0,.sc (.int .i64 b0_1),.sc (.int .u64 b0_2)]),(1,.var 28 [.sc (.int .i64 b1_0),.slice 3 0 none,.sc (.bool b1_2),.sc (.int .i64 b1_3),.sc (.int .i64 b1_4)]),(2,.var 28 [.sc (.int .i64 b2_0),.sc (.slice none 0 0),.sc (.bool b2_2),.sc (.int .i64 b2_3),.sc (.int .i64 b2_4)]),(3,.row 0 tO b3)],nx:=4 }
noncomputable abbrev C286k0 (n:Nat):=kAt (C286cs n) ty 57 1 n C286kp C286c [1,1,1,0,1,0] [] (ending ty 1 Go.Proofs.Tryz.f25.results.toList C286rs C286bs)
noncomputable abbrev C286k1 (n:Nat):=kAt (C286cs n) ty 57 1 n C286kp C286c [1,1,1] [] (ending ty 1 Go.Proofs.Tryz.f25.results.toList C286rs C286bs)
theorem C286_l9_eq (n:Nat) (G5:St→Option (((((Int)×((List OB9)×((Bool)×(Int×Int))))×(Unit))×(Unit))×(((List (Int))×(Int×Int))×(Unit)))):∀ (k:Nat) (v6:Int) (v4:Int) (b0_0:List (Int)) (b0_1:Int) (b0_2:Int) (b1_0:Int) (b1_1:Int) (b1_2:Int) (b1_3:Int) (b1_4:Int) (b1_5:Int) (b1_6:Int) (b1_7:Int) (b1_8:Int) (b2_0:Int) (b2_2:Bool) (b2_3:Int) (b2_4:Int) (b3_0:Int) (b3_2:Bool) (b3_3:Int) (b3_4:Int) (b4:List OB9),iter (interp (C286cs n) ty 57 1 n C286kp (codeAt C286c [1,1,1,0,1,0,0,1,0,0,1,0,1,0,0])) (canon 1 (C286kp.loop 9)) (kAt (C286cs n) ty 57 1 n C286kp C286c [1,1,1,0,1,0,0,1,0,0,1,0,1,0] [G5] (ending ty 1 Go.Proofs.Tryz.f25.results.toList C286rs C286bs)) k (C286s9 v6 v4 b0_0 b0_1 b0_2 b1_0 b1_1 b1_2 b1_3 b1_4 b1_5 b1_6 b1_7 b1_8 b2_0 b2_2 b2_3 b2_4 b3_0 b3_2 b3_3 b3_4 b4)=C286_l9 n (fun v4 b0_0 b0_1 b0_2 b1_0 b1_2 b1_3 b1_4 b2_0 b2_2 b2_3 b2_4 b3=>G5 (C286s5 v4 b0_0 b0_1 b0_2 b1_0 b1_2 b1_3 b1_4 b2_0 b2_2 b2_3 b2_4 b3)) k v6 v4 b0_0 b0_1 b0_2 b1_0 b1_1 b1_2 b1_3 b1_4 b1_5 b1_6 b1_7 b1_8 b2_0 b2_2 b2_3 b2_4 b3_0 b3_2 b3_3 b3_4 b4
 | 0,_,_,_,_,_,_,_,_,_,_,_,_,_,_,_,_,_,_,_,_,_,_,_=>by kernel_rfl
 | k+1,v6,v4,b0_0,b0_1,b0_2,b1_0,b1_1,b1_2,b1_3,b1_4,b1_5,b1_6,b1_7,b1_8,b2_0,b2_2,b2_3,b2_4,b3_0,b3_2,b3_3,b3_4,b4=>by
  refine Eq.trans (b:=C286_t9 n (fun v4 b0_0 b0_1 b0_2 b1_0 b1_2 b1_3 b1_4 b2_0 b2_2 b2_3 b2_4 b3=>G5 (C286s5 v4 b0_0 b0_1 b0_2 b1_0 b1_2 b1_3 b1_4 b2_0 b2_2 b2_3 b2_4 b3)) (fun v6 v4 b0_0 b0_1 b0_2 b1_0 b1_1 b1_2 b1_3 b1_4 b1_5 b1_6 b1_7 b1_8 b2_0 b2_2 b2_3 b2_4 b3_0 b3_2 b3_3 b3_4 b4=>iter (interp (C286cs n) ty 57 1 n C286kp (codeAt C286c [1,1,1,0,1,0,0,1,0,0,1,0,1,0,0])) (canon 1 (C286kp.loop 9)) (kAt (C286cs n) ty 57 1 n C286kp C286c [1,1,1,0,1,0,0,1,0,0,1,0,1,0] [G5] (ending ty 1 Go.Proofs.Tryz.f25.results.toList C286rs C286bs)) k (C286s9 v6 v4 b0_0 b0_1 b0_2 b1_0 b1_1 b1_2 b1_3 b1_4 b1_5 b1_6 b1_7 b1_8 b2_0 b2_2 b2_3 b2_4 b3_0 b3_2 b3_3 b3_4 b4)) v6 v4 b0_0 b0_1 b0_2 b1_0 b1_1 b1_2 b1_3 b1_4 b1_5 b1_6 b1_7 b1_8 b2_0 b2_2 b2_3 b2_4 b3_0 b3_2 b3_3 b3_4 b4) (by kernel_rfl) ?_
  have e:=congrArg (fun g=>C286_t9 n (fun v4 b0_0 b0_1 b0_2 b1_0 b1_2 b1_3 b1_4 b2_0 b2_2 b2_3 b2_4 b3=>G5 (C286s5 v4 b0_0 b0_1 b0_2 b1_0 b1_2 b1_3 b1_4 b2_0 b2_2 b2_3 b2_4 b3)) g v6 v4 b0_0 b0_1 b0_2 b1_0 b1_1 b1_2 b1_3 b1_4 b1_5 b1_6 b1_7 b1_8 b2_0 b2_2 b2_3 b2_4 b3_0 b3_2 b3_3 b3_4 b4) (funext fun v6=>funext fun v4=>funext fun b0_0=>funext fun b0_1=>funext fun b0_2=>funext fun b1_0=>funext fun b1_1=>funext fun b1_2=>funext fun b1_3=>funext fun b1_4=>funext fun b1_5=>funext fun b1_6=>funext fun b1_7=>funext fun b1_8=>funext fun b2_0=>funext fun b2_2=>funext fun b2_3=>funext fun b2_4=>funext fun b3_0=>funext fun b3_2=>funext fun b3_3=>funext fun b3_4=>funext fun b4=>C286_l9_eq n G5 k v6 v4 b0_0 b0_1 b0_2 b1_0 b1_1 b1_2 b1_3 b1_4 b1_5 b1_6 b1_7 b1_8 b2_0 b2_2 b2_3 b2_4 b3_0 b3_2 b3_3 b3_4 b4)
  exact e
theorem C286_l5_eq (n:Nat):∀ (k:Nat) (v4:Int) (b0_0:List (Int)) (b0_1:Int) (b0_2:Int) (b1_0:Int) (b1_2:Bool) (b1_3:Int) (b1_4:Int) (b2_0:Int) (b2_2:Bool) (b2_3:Int) (b2_4:Int) (b3:List OB9),iter (interp (C286cs n) ty 57 1 n C286kp (codeAt C286c [1,1,1,0,1,0,0])) (canon 1 (C286kp.loop 5)) (C286k0 n) k (C286s5 v4 b0_0 b0_1 b0_2 b1_0 b1_2 b1_3 b1_4 b2_0 b2_2 b2_3 b2_4 b3)=C286_l5 n k v4 b0_0 b0_1 b0_2 b1_0 b1_2 b1_3 b1_4 b2_0 b2_2 b2_3 b2_4 b3
 | 0,_,_,_,_,_,_,_,_,_,_,_,_,_=>by kernel_rfl
 | k+1,v4,b0_0,b0_1,b0_2,b1_0,b1_2,b1_3,b1_4,b2_0,b2_2,b2_3,b2_4,b3=>by
  refine Eq.trans (b:=C286_t5 n (fun k' v6 v4 b0_0 b0_1 b0_2 b1_0 b1_1 b1_2 b1_3 b1_4 b1_5 b1_6 b1_7 b1_8 b2_0 b2_2 b2_3 b2_4 b3_0 b3_2 b3_3 b3_4 b4=>iter (interp (C286cs n) ty 57 1 n C286kp (codeAt C286c [1,1,1,0,1,0,0,1,0,0,1,0,1,0,0])) (canon 1 (C286kp.loop 9)) (kAt (C286cs n) ty 57 1 n C286kp C286c [1,1,1,0,1,0,0,1,0,0,1,0,1,0] [(fun s=>iter (interp (C286cs n) ty 57 1 n C286kp (codeAt C286c [1,1,1,0,1,0,0])) (canon 1 (C286kp.loop 5)) (C286k0 n) k s)] (ending ty 1 Go.Proofs.Tryz.f25.results.toList C286rs C286bs)) k' (C286s9 v6 v4 b0_0 b0_1 b0_2 b1_0 b1_1 b1_2 b1_3 b1_4 b1_5 b1_6 b1_7 b1_8 b2_0 b2_2 b2_3 b2_4 b3_0 b3_2 b3_3 b3_4 b4)) (fun v4 b0_0 b0_1 b0_2 b1_0 b1_2 b1_3 b1_4 b2_0 b2_2 b2_3 b2_4 b3=>iter (interp (C286cs n) ty 57 1 n C286kp (codeAt C286c [1,1,1,0,1,0,0])) (canon 1 (C286kp.loop 5)) (C286k0 n) k (C286s5 v4 b0_0 b0_1 b0_2 b1_0 b1_2 b1_3 b1_4 b2_0 b2_2 b2_3 b2_4 b3)) v4 b0_0 b0_1 b0_2 b1_0 b1_2 b1_3 b1_4 b2_0 b2_2 b2_3 b2_4 b3) (by kernel_rfl) ?_
  have e:=congr (congrArg (fun h9 g=>C286_t5 n h9 g v4 b0_0 b0_1 b0_2 b1_0 b1_2 b1_3 b1_4 b2_0 b2_2 b2_3 b2_4 b3) ((funext fun k'=>funext fun v6=>funext fun v4=>funext fun b0_0=>funext fun b0_1=>funext fun b0_2=>funext fun b1_0=>funext fun b1_1=>funext fun b1_2=>funext fun b1_3=>funext fun b1_4=>funext fun b1_5=>funext fun b1_6=>funext fun b1_7=>funext fun b1_8=>funext fun b2_0=>funext fun b2_2=>funext fun b2_3=>funext fun b2_4=>funext fun b3_0=>funext fun b3_2=>funext fun b3_3=>funext fun b3_4=>funext fun b4=>C286_l9_eq n (fun s=>iter (interp (C286cs n) ty 57 1 n C286kp (codeAt C286c [1,1,1,0,1,0,0])) (canon 1 (C286kp.loop 5)) (C286k0 n) k s) k' v6 v4 b0_0 b0_1 b0_2 b1_0 b1_1 b1_2 b1_3 b1_4 b1_5 b1_6 b1_7 b1_8 b2_0 b2_2 b2_3 b2_4 b3_0 b3_2 b3_3 b3_4 b4).trans (congrArg (fun z=>C286_l9 n z) (funext fun v4=>funext fun b0_0=>funext fun b0_1=>funext fun b0_2=>funext fun b1_0=>funext fun b1_2=>funext fun b1_3=>funext fun b1_4=>funext fun b2_0=>funext fun b2_2=>funext fun b2_3=>funext fun b2_4=>funext fun b3=>C286_l5_eq n k v4 b0_0 b0_1 b0_2 b1_0 b1_2 b1_3 b1_4 b2_0 b2_2 b2_3 b2_4 b3)))) (funext fun v4=>funext fun b0_0=>funext fun b0_1=>funext fun b0_2=>funext fun b1_0=>funext fun b1_2=>funext fun b1_3=>funext fun b1_4=>funext fun b2_0=>funext fun b2_2=>funext fun b2_3=>funext fun b2_4=>funext fun b3=>C286_l5_eq n k v4 b0_0 b0_1 b0_2 b1_0 b1_2 b1_3 b1_4 b2_0 b2_2 b2_3 b2_4 b3)
  exact e
theorem C286_j4_eq (n:Nat) (b0_0:List (Int)) (b0_1:Int) (b0_2:Int) (b1_0:Int) (b1_2:Bool) (b1_3:Int) (b1_4:Int) (b2_0:Int) (b2_2:Bool) (b2_3:Int) (b2_4:Int):(interp (C286cs n) ty 57 1 n C286kp (codeAt C286c [1,1,1])) { env:=[(0,.one (.ref 0 0 0 0 0 0)),(3,.one (.ref 1 0 0 0 0 0)),(2,.one (.ref 2 0 0 0 0 0))],bx:=[(0,.var 108 [.list true (.int .u8) b0_0,.sc (.int .i64 b0_1),.sc (.int .u64 b0_2)]),(1,.var 28 [.sc (.int .i64 b1_0),.sc (.slice none 0 0),.sc (.bool b1_2),.sc (.int .i64 b1_3),.sc (.int .i64 b1_4)]),(2,.var 28 [.sc (.int .i64 b2_0),.sc (.slice none 0 0),.sc (.bool b2_2),.sc (.int .i64 b2_3),.sc (.int .i64 b2_4)])],nx:=3 } (C286k1 n)=C286_j4 n b0_0 b0_1 b0_2 b1_0 b1_2 b1_3 b1_4 b2_0 b2_2 b2_3 b2_4:=by
 refine Eq.trans (b:=C286_t4 n (fun k' v4 b0_0 b0_1 b0_2 b1_0 b1_2 b1_3 b1_4 b2_0 b2_2 b2_3 b2_4 b3=>iter (interp (C286cs n) ty 57 1 n C286kp (codeAt C286c [1,1,1,0,1,0,0])) (canon 1 (C286kp.loop 5)) (C286k0 n) k' (C286s5 v4 b0_0 b0_1 b0_2 b1_0 b1_2 b1_3 b1_4 b2_0 b2_2 b2_3 b2_4 b3)) b0_0 b0_1 b0_2 b1_0 b1_2 b1_3 b1_4 b2_0 b2_2 b2_3 b2_4) (by kernel_rfl) ?_
 have e:=congrArg (fun h5=>C286_t4 n h5 b0_0 b0_1 b0_2 b1_0 b1_2 b1_3 b1_4 b2_0 b2_2 b2_3 b2_4) (funext fun k'=>funext fun v4=>funext fun b0_0=>funext fun b0_1=>funext fun b0_2=>funext fun b1_0=>funext fun b1_2=>funext fun b1_3=>funext fun b1_4=>funext fun b2_0=>funext fun b2_2=>funext fun b2_3=>funext fun b2_4=>funext fun b3=>C286_l5_eq n k' v4 b0_0 b0_1 b0_2 b1_0 b1_2 b1_3 b1_4 b2_0 b2_2 b2_3 b2_4 b3)
 exact e
theorem C153q (n:Nat) (b0:(List (Int))×(Int×Int)):Z702 (C286cs n) ty 57 n C286kp C286c Go.Proofs.Tryz.f25.results.toList C286rs C286sp C286bs ((),()) (b0,())=C286 n b0:=by
 refine Eq.trans (b:=C286_t n (fun b0_0 b0_1 b0_2 b1_0 b1_2 b1_3 b1_4 b2_0 b2_2 b2_3 b2_4=>(interp (C286cs n) ty 57 1 n C286kp (codeAt C286c [1,1,1])) { env:=[(0,.one (.ref 0 0 0 0 0 0)),(3,.one (.ref 1 0 0 0 0 0)),(2,.one (.ref 2 0 0 0 0 0))],bx:=[(0,.var 108 [.list true (.int .u8) b0_0,.sc (.int .i64 b0_1),.sc (.int .u64 b0_2)]),(1,.var 28 [.sc (.int .i64 b1_0),.sc (.slice none 0 0),.sc (.bool b1_2),.sc (.int .i64 b1_3),.sc (.int .i64 b1_4)]),(2,.var 28 [.sc (.int .i64 b2_0),.sc (.slice none 0 0),.sc (.bool b2_2),.sc (.int .i64 b2_3),.sc (.int .i64 b2_4)])],nx:=3 } (C286k1 n)) b0) (by kernel_rfl) ?_
 have e:=congrArg (fun h4=>C286_t n h4 b0) (funext fun b0_0=>funext fun b0_1=>funext fun b0_2=>funext fun b1_0=>funext fun b1_2=>funext fun b1_3=>funext fun b1_4=>funext fun b2_0=>funext fun b2_2=>funext fun b2_3=>funext fun b2_4=>C286_j4_eq n b0_0 b0_1 b0_2 b1_0 b1_2 b1_3 b1_4 b2_0 b2_2 b2_3 b2_4)
 exact e
theorem C286_ok (n:Nat):FunOk P (C286F n) :=
 Z465 (C:=[C108F n,C275F n,C144F n,C289F n,C81F n]) (N:=57) (kp:=C286kp) (c:=C286c) (n:=n) (G:=fun x y=>C286 n y.1) follows (AllOk.mem (⟨C108_ok n,⟨C275_ok n,⟨C144_ok n,⟨C289_ok n,⟨C81_ok n,trivial⟩⟩⟩⟩⟩:AllOk P ([C108F n,C275F n,C144F n,C289F n,C81F n]))) (by kernel_rfl:P.funcs[25]?=some Go.Proofs.Tryz.f25) (by kernel_rfl) (by kernel_rfl) (by kernel_rfl)
  (fun x y=>C153q n y.1) (fun _ _=>Z489 (fun _=>rfl) _) (fun _ _ _ _=>rfl)
abbrev C325sp:List Sp:=[.v false (.list (.int .u8))]
abbrev C325bs:List (Bs×Bool):=[]
abbrev C325rs:List (Bool×List Rp):=[(true,[.v false (.pair (.int .i64) (.pair (.list tO) (.pair .bool tF)))])]
noncomputable def C325kp:Keep:={ loop:=fun id=>match id with | _=>([],[]),join:=fun id=>match id with | _=>none }
noncomputable def C325c:Code:=bodyOf Go.Proofs.Tryz.f5
noncomputable def C325F (n:Nat):Fun:={ id:=5,sp:=C325sp,bs:=C325bs,rs:=C325rs,f:=fun x y=>C325 n x.1 }
theorem C325_eq (n:Nat) (a0:List (Int)):Z702 ([C329F n,C286F n]) ty 6 n C325kp C325c Go.Proofs.Tryz.f5.results.toList C325rs C325sp C325bs (a0,()) ()=C325 n a0:=by
 refine Eq.trans (b:=C325_t n a0) (by kernel_rfl) ?_
 rfl
theorem C325_ok (n:Nat):FunOk P (C325F n) :=
 Z465 (C:=[C329F n,C286F n]) (N:=6) (kp:=C325kp) (c:=C325c) (n:=n) (G:=fun x y=>C325 n x.1) follows (AllOk.mem (⟨C329_ok n,⟨C286_ok n,trivial⟩⟩:AllOk P ([C329F n,C286F n]))) (by kernel_rfl:P.funcs[5]?=some Go.Proofs.Tryz.f5) (by kernel_rfl) (by kernel_rfl) (by kernel_rfl)
  (fun x y=>C325_eq n x.1) (fun _ _=>Z489 (fun _=>rfl) _) (fun _ _ _ _=>rfl)
abbrev C287sp:List Sp:=[.v false (.list tF)]
abbrev C287bs:List (Bs×Bool):=[]
abbrev C287rs:List (Bool×List Rp):=[(false,[.v false .bool])]
noncomputable def C287kp:Keep:={ loop:=fun id=>match id with | 2=>([3,0],[]) | _=>([],[]),join:=fun id=>match id with | _=>none }
noncomputable def C287c:Code:=bodyOf Go.Proofs.Tryz.f89
noncomputable def C287F (n:Nat):Fun:={ id:=89,sp:=C287sp,bs:=C287bs,rs:=C287rs,f:=fun x y=>C287 n x.1 }
abbrev C287s2 (v3:Int) (v0:List (Int×Int)):St:={ env:=[(3,.one (.sc (.int .i64 v3))),(0,.one (.list true tF v0))],bx:=[],nx:=0 }
noncomputable abbrev C287k0 (n:Nat):=kAt ([C415F n]) ty 16 0 n C287kp C287c [1,0,1,0] [] (ending ty 0 Go.Proofs.Tryz.f89.results.toList C287rs C287bs)
theorem C287_l2_eq (n:Nat):∀ (k:Nat) (v3:Int) (v0:List (Int×Int)),iter (interp ([C415F n]) ty 16 0 n C287kp (codeAt C287c [1,0,1,0,0])) (canon 0 (C287kp.loop 2)) (C287k0 n) k (C287s2 v3 v0)=C287_l2 n k v3 v0
 | 0,_,_=>by kernel_rfl
 | k+1,v3,v0=>by
  refine Eq.trans (b:=C287_t2 n (fun v3 v0=>iter (interp ([C415F n]) ty 16 0 n C287kp (codeAt C287c [1,0,1,0,0])) (canon 0 (C287kp.loop 2)) (C287k0 n) k (C287s2 v3 v0)) v3 v0) (by kernel_rfl) ?_
  have e:=congrArg (fun g=>C287_t2 n g v3 v0) (funext fun v3=>funext fun v0=>C287_l2_eq n k v3 v0)
  exact e
theorem C287_eq (n:Nat) (a0:List (Int×Int)):Z702 ([C415F n]) ty 16 n C287kp C287c Go.Proofs.Tryz.f89.results.toList C287rs C287sp C287bs (a0,()) ()=C287 n a0:=by
 refine Eq.trans (b:=C287_t n (fun k v3 v0=>iter (interp ([C415F n]) ty 16 0 n C287kp (codeAt C287c [1,0,1,0,0])) (canon 0 (C287kp.loop 2)) (C287k0 n) k (C287s2 v3 v0)) a0) (by kernel_rfl) ?_
 have e:=congrArg (fun h2=>C287_t n h2 a0) (funext fun k=>funext fun v3=>funext fun v0=>C287_l2_eq n k v3 v0)
 exact e
theorem C287_ok (n:Nat):FunOk P (C287F n) :=
 Z465 (C:=[C415F n]) (N:=16) (kp:=C287kp) (c:=C287c) (n:=n) (G:=fun x y=>C287 n x.1) follows (AllOk.mem (⟨C415_ok n,trivial⟩:AllOk P ([C415F n]))) (by kernel_rfl:P.funcs[89]?=some Go.Proofs.Tryz.f89) (by kernel_rfl) (by kernel_rfl) (by kernel_rfl)
  (fun x y=>C287_eq n x.1) (fun _ _=>Z489 (fun _=>rfl) _) (fun _ _ _ _=>rfl)
abbrev C284sp:List Sp:=[.ref 0,.v false (.list tF)]
abbrev C284bs:List (Bs×Bool):=[(.var 28 (.pair (.int .i64) (.pair (.list tO) (.pair .bool tF))),true)]
abbrev C284rs:List (Bool×List Rp):=[(false,[.v false (.int .i64)])]
noncomputable def C284kp:Keep:={ loop:=fun id=>match id with | _=>([],[]),join:=fun id=>match id with | _=>none }
noncomputable def C284c:Code:=bodyOf Go.Proofs.Tryz.f63
noncomputable def C284F (n:Nat):Fun:={ id:=63,sp:=C284sp,bs:=C284bs,rs:=C284rs,f:=fun x y=>C284 n x.2.1 y.1 }
theorem C152q (n:Nat) (a1:List (Int×Int)) (b0:(Int)×((List OB9)×((Bool)×(Int×Int)))):Z702 ([C418F n,C287F n]) ty 20 n C284kp C284c Go.Proofs.Tryz.f63.results.toList C284rs C284sp C284bs ((),(a1,())) (b0,())=C284 n a1 b0:=by
 refine Eq.trans (b:=C284_t n a1 b0) (by kernel_rfl) ?_
 rfl
theorem C284_ok (n:Nat):FunOk P (C284F n) :=
 Z465 (C:=[C418F n,C287F n]) (N:=20) (kp:=C284kp) (c:=C284c) (n:=n) (G:=fun x y=>C284 n x.2.1 y.1) follows (AllOk.mem (⟨C418_ok n,⟨C287_ok n,trivial⟩⟩:AllOk P ([C418F n,C287F n]))) (by kernel_rfl:P.funcs[63]?=some Go.Proofs.Tryz.f63) (by kernel_rfl) (by kernel_rfl) (by kernel_rfl)
  (fun x y=>C152q n x.2.1 y.1) (fun _ _=>Z489 (fun _=>rfl) _) (fun _ _ _ _=>rfl)
abbrev C67sp:List Sp:=[.er tO,.v false (.list tF)]
abbrev C67bs:List (Bs×Bool):=[]
abbrev C67rs:List (Bool×List Rp):=[(true,[.v false tF]),(false,[.v false (.int .i64)])]
noncomputable def C67kp:Keep:={ loop:=fun id=>match id with | 3=>([7,4,6,1,0],[]) | _=>([],[]),join:=fun id=>match id with | _=>none }
noncomputable def C67c:Code:=bodyOf Go.Proofs.Tryz.f64
noncomputable def C67F (n:Nat):Fun:={ id:=64,sp:=C67sp,bs:=C67bs,rs:=C67rs,f:=fun x y=>C67 n x.1 x.2.1 }
noncomputable abbrev C67cs (n:Nat):List Fun:=[C275F n,C347F n]
abbrev C67s3 (v7:Int) (v1:List (Int×Int)) (v0:((Int)×((Int)×((Int)×((Int)×(Int×Int)))))×((Int×Int)×(Int))) (b0_0:Int) (b0_1:Int) (b1_0:Int) (b1_1:Int):St:={ env:=[(7,.one (.sc (.int .i64 v7))),(4,.one (.ref 0 0 0 0 0 0)),(6,.one (.ref 1 0 0 0 0 0)),(1,.one (.list true tF v1)),(0,.one (.eref true tO [v0] 0 0 0 0))],bx:=[(0,.var 26 [.sc (.int .i64 b0_0),.sc (.int .i64 b0_1)]),(1,.var 26 [.sc (.int .i64 b1_0),.sc (.int .i64 b1_1)])],nx:=2 }
noncomputable abbrev C67k0 (n:Nat):=kAt (C67cs n) ty 50 0 n C67kp C67c [1,1,0,1,0] [] (ending ty 0 Go.Proofs.Tryz.f64.results.toList C67rs C67bs)
theorem C67_l3_eq (n:Nat):∀ (k:Nat) (v7:Int) (v1:List (Int×Int)) (v0:((Int)×((Int)×((Int)×((Int)×(Int×Int)))))×((Int×Int)×(Int))) (b0_0:Int) (b0_1:Int) (b1_0:Int) (b1_1:Int),iter (interp (C67cs n) ty 50 0 n C67kp (codeAt C67c [1,1,0,1,0,0])) (canon 0 (C67kp.loop 3)) (C67k0 n) k (C67s3 v7 v1 v0 b0_0 b0_1 b1_0 b1_1)=C67_l3 n k v7 v1 v0 b0_0 b0_1 b1_0 b1_1
 | 0,_,_,_,_,_,_,_=>by kernel_rfl
 | k+1,v7,v1,v0,b0_0,b0_1,b1_0,b1_1=>by
  refine Eq.trans (b:=C67_t3 n (fun v7 v1 v0 b0_0 b0_1 b1_0 b1_1=>iter (interp (C67cs n) ty 50 0 n C67kp (codeAt C67c [1,1,0,1,0,0])) (canon 0 (C67kp.loop 3)) (C67k0 n) k (C67s3 v7 v1 v0 b0_0 b0_1 b1_0 b1_1)) v7 v1 v0 b0_0 b0_1 b1_0 b1_1) (by kernel_rfl) ?_
  have e:=congrArg (fun g=>C67_t3 n g v7 v1 v0 b0_0 b0_1 b1_0 b1_1) (funext fun v7=>funext fun v1=>funext fun v0=>funext fun b0_0=>funext fun b0_1=>funext fun b1_0=>funext fun b1_1=>C67_l3_eq n k v7 v1 v0 b0_0 b0_1 b1_0 b1_1)
  exact e
theorem C67_eq (n:Nat) (a0:((Int)×((Int)×((Int)×((Int)×(Int×Int)))))×((Int×Int)×(Int))) (a1:List (Int×Int)):Z702 (C67cs n) ty 50 n C67kp C67c Go.Proofs.Tryz.f64.results.toList C67rs C67sp C67bs (a0,(a1,())) ()=C67 n a0 a1:=by
 refine Eq.trans (b:=C67_t n (fun k v7 v1 v0 b0_0 b0_1 b1_0 b1_1=>iter (interp (C67cs n) ty 50 0 n C67kp (codeAt C67c [1,1,0,1,0,0])) (canon 0 (C67kp.loop 3)) (C67k0 n) k (C67s3 v7 v1 v0 b0_0 b0_1 b1_0 b1_1)) a0 a1) (by kernel_rfl) ?_
 have e:=congrArg (fun h3=>C67_t n h3 a0 a1) (funext fun k=>funext fun v7=>funext fun v1=>funext fun v0=>funext fun b0_0=>funext fun b0_1=>funext fun b1_0=>funext fun b1_1=>C67_l3_eq n k v7 v1 v0 b0_0 b0_1 b1_0 b1_1)
 exact e
theorem C67_ok (n:Nat):FunOk P (C67F n) :=
 Z465 (C:=[C275F n,C347F n]) (N:=50) (kp:=C67kp) (c:=C67c) (n:=n) (G:=fun x y=>C67 n x.1 x.2.1) follows (AllOk.mem (⟨C275_ok n,⟨C347_ok n,trivial⟩⟩:AllOk P ([C275F n,C347F n]))) (by kernel_rfl:P.funcs[64]?=some Go.Proofs.Tryz.f64) (by kernel_rfl) (by kernel_rfl) (by kernel_rfl)
  (fun x y=>C67_eq n x.1 x.2.1) (fun _ _=>Z489 (fun _=>rfl) _) (fun _ _ _ _=>rfl)
abbrev C105sp:List Sp:=[.v true (.pair (.int .i64) (.pair (.list tO) (.pair .bool tF))),.v false (.list tF)]
abbrev C105bs:List (Bs×Bool):=[]
abbrev C105rs:List (Bool×List Rp):=[(false,[.new  tF]),(false,[.v false (.int .i64)])]
noncomputable def C105kp:Keep:={ loop:=fun id=>match id with | 6=>([8,7,1,2],[]) | _=>([],[]),join:=fun id=>match id with | _=>none }
noncomputable def C105c:Code:=bodyOf Go.Proofs.Tryz.f23
noncomputable def C105F (n:Nat):Fun:={ id:=23,sp:=C105sp,bs:=C105bs,rs:=C105rs,f:=fun x y=>C105 n x.1 x.2.1 }
noncomputable abbrev C105cs (n:Nat):List Fun:=[C284F n,C67F n]
abbrev C105s6 (v8:Int) (v1:List (Int×Int)) (b0:List (Int×Int)) (b1_0:Int) (b1_1:List OB9) (b1_2:Bool) (b1_3:Int) (b1_4:Int):St:={ env:=[(8,.one (.sc (.int .i64 v8))),(7,.one (.slice 0 0 none)),(1,.one (.list true tF v1)),(2,.one (.ref 1 0 0 0 0 0))],bx:=[(0,.row 0 tF b0),(1,.var 28 [.sc (.int .i64 b1_0),.list true tO b1_1,.sc (.bool b1_2),.sc (.int .i64 b1_3),.sc (.int .i64 b1_4)])],nx:=2 }
noncomputable abbrev C105k0 (n:Nat):=kAt (C105cs n) ty 43 0 n C105kp C105c [1,1,1,0,1,0] [] (ending ty 0 Go.Proofs.Tryz.f23.results.toList C105rs C105bs)
theorem C105_l6_eq (n:Nat):∀ (k:Nat) (v8:Int) (v1:List (Int×Int)) (b0:List (Int×Int)) (b1_0:Int) (b1_1:List OB9) (b1_2:Bool) (b1_3:Int) (b1_4:Int),iter (interp (C105cs n) ty 43 0 n C105kp (codeAt C105c [1,1,1,0,1,0,0])) (canon 0 (C105kp.loop 6)) (C105k0 n) k (C105s6 v8 v1 b0 b1_0 b1_1 b1_2 b1_3 b1_4)=C105_l6 n k v8 v1 b0 b1_0 b1_1 b1_2 b1_3 b1_4
 | 0,_,_,_,_,_,_,_,_=>by kernel_rfl
 | k+1,v8,v1,b0,b1_0,b1_1,b1_2,b1_3,b1_4=>by
  refine Eq.trans (b:=C105_t6 n (fun v8 v1 b0 b1_0 b1_1 b1_2 b1_3 b1_4=>iter (interp (C105cs n) ty 43 0 n C105kp (codeAt C105c [1,1,1,0,1,0,0])) (canon 0 (C105kp.loop 6)) (C105k0 n) k (C105s6 v8 v1 b0 b1_0 b1_1 b1_2 b1_3 b1_4)) v8 v1 b0 b1_0 b1_1 b1_2 b1_3 b1_4) (by kernel_rfl) ?_
  have e:=congrArg (fun g=>C105_t6 n g v8 v1 b0 b1_0 b1_1 b1_2 b1_3 b1_4) (funext fun v8=>funext fun v1=>funext fun b0=>funext fun b1_0=>funext fun b1_1=>funext fun b1_2=>funext fun b1_3=>funext fun b1_4=>C105_l6_eq n k v8 v1 b0 b1_0 b1_1 b1_2 b1_3 b1_4)
  exact e
theorem C105_eq (n:Nat) (a0:(Int)×((List OB9)×((Bool)×(Int×Int)))) (a1:List (Int×Int)):Z702 (C105cs n) ty 43 n C105kp C105c Go.Proofs.Tryz.f23.results.toList C105rs C105sp C105bs (a0,(a1,())) ()=C105 n a0 a1:=by
 refine Eq.trans (b:=C105_t n (fun k v8 v1 b0 b1_0 b1_1 b1_2 b1_3 b1_4=>iter (interp (C105cs n) ty 43 0 n C105kp (codeAt C105c [1,1,1,0,1,0,0])) (canon 0 (C105kp.loop 6)) (C105k0 n) k (C105s6 v8 v1 b0 b1_0 b1_1 b1_2 b1_3 b1_4)) a0 a1) (by kernel_rfl) ?_
 have e:=congrArg (fun h6=>C105_t n h6 a0 a1) (funext fun k=>funext fun v8=>funext fun v1=>funext fun b0=>funext fun b1_0=>funext fun b1_1=>funext fun b1_2=>funext fun b1_3=>funext fun b1_4=>C105_l6_eq n k v8 v1 b0 b1_0 b1_1 b1_2 b1_3 b1_4)
 exact e
theorem C105_ok (n:Nat):FunOk P (C105F n) :=
 Z465 (C:=[C284F n,C67F n]) (N:=43) (kp:=C105kp) (c:=C105c) (n:=n) (G:=fun x y=>C105 n x.1 x.2.1) follows (AllOk.mem (⟨C284_ok n,⟨C67_ok n,trivial⟩⟩:AllOk P ([C284F n,C67F n]))) (by kernel_rfl:P.funcs[23]?=some Go.Proofs.Tryz.f23) (by kernel_rfl) (by kernel_rfl) (by kernel_rfl)
  (fun x y=>C105_eq n x.1 x.2.1) (fun _ _=>Z489 (fun _=>rfl) _) (fun _ _ _ _=>rfl)
abbrev C200sp:List Sp:=[.v false (.list tF),.v false (.list tF)]
abbrev C200bs:List (Bs×Bool):=[]
abbrev C200rs:List (Bool×List Rp):=[(false,[.v false .bool])]
noncomputable def C200kp:Keep:={ loop:=fun id=>match id with | 4=>([5,1,0],[]) | _=>([],[]),join:=fun id=>match id with | _=>none }
noncomputable def C200c:Code:=bodyOf Go.Proofs.Tryz.f16
noncomputable def C200F (n:Nat):Fun:={ id:=16,sp:=C200sp,bs:=C200bs,rs:=C200rs,f:=fun x y=>C200 n x.1 x.2.1 }
abbrev C200s4 (v5:Int) (v1:List (Int×Int)) (v0:List (Int×Int)):St:={ env:=[(5,.one (.sc (.int .i64 v5))),(1,.one (.list true tF v1)),(0,.one (.list true tF v0))],bx:=[],nx:=0 }
noncomputable abbrev C200k0 (n:Nat):=kAt ([]) ty 26 0 n C200kp C200c [1,1,0,1,0] [] (ending ty 0 Go.Proofs.Tryz.f16.results.toList C200rs C200bs)
theorem C200_l4_eq (n:Nat):∀ (k:Nat) (v5:Int) (v1:List (Int×Int)) (v0:List (Int×Int)),iter (interp ([]) ty 26 0 n C200kp (codeAt C200c [1,1,0,1,0,0])) (canon 0 (C200kp.loop 4)) (C200k0 n) k (C200s4 v5 v1 v0)=C200_l4 n k v5 v1 v0
 | 0,_,_,_=>by kernel_rfl
 | k+1,v5,v1,v0=>by
  refine Eq.trans (b:=C200_t4 n (fun v5 v1 v0=>iter (interp ([]) ty 26 0 n C200kp (codeAt C200c [1,1,0,1,0,0])) (canon 0 (C200kp.loop 4)) (C200k0 n) k (C200s4 v5 v1 v0)) v5 v1 v0) (by kernel_rfl) ?_
  have e:=congrArg (fun g=>C200_t4 n g v5 v1 v0) (funext fun v5=>funext fun v1=>funext fun v0=>C200_l4_eq n k v5 v1 v0)
  exact e
theorem C200_eq (n:Nat) (a0:List (Int×Int)) (a1:List (Int×Int)):Z702 ([]) ty 26 n C200kp C200c Go.Proofs.Tryz.f16.results.toList C200rs C200sp C200bs (a0,(a1,())) ()=C200 n a0 a1:=by
 refine Eq.trans (b:=C200_t n (fun k v5 v1 v0=>iter (interp ([]) ty 26 0 n C200kp (codeAt C200c [1,1,0,1,0,0])) (canon 0 (C200kp.loop 4)) (C200k0 n) k (C200s4 v5 v1 v0)) a0 a1) (by kernel_rfl) ?_
 have e:=congrArg (fun h4=>C200_t n h4 a0 a1) (funext fun k=>funext fun v5=>funext fun v1=>funext fun v0=>C200_l4_eq n k v5 v1 v0)
 exact e
theorem C200_ok (n:Nat):FunOk P (C200F n) :=
 Z465 (C:=[]) (N:=26) (kp:=C200kp) (c:=C200c) (n:=n) (G:=fun x y=>C200 n x.1 x.2.1) follows (AllOk.mem (trivial:AllOk P ([]))) (by kernel_rfl:P.funcs[16]?=some Go.Proofs.Tryz.f16) (by kernel_rfl) (by kernel_rfl) (by kernel_rfl)
  (fun x y=>C200_eq n x.1 x.2.1) (fun _ _=>Z489 (fun _=>rfl) _) (fun _ _ _ _=>rfl)
abbrev C201sp:List Sp:=[.v true (.pair (.int .i64) (.pair (.list tO) (.pair .bool tF))),.v true (.pair (.int .i64) (.pair (.list tO) (.pair .bool tF)))]
abbrev C201bs:List (Bs×Bool):=[]
abbrev C201rs:List (Bool×List Rp):=[(false,[.v false .bool])]
noncomputable def C201kp:Keep:={ loop:=fun id=>match id with | 4=>([5,3,2],[]) | _=>([],[]),join:=fun id=>match id with | _=>none }
noncomputable def C201c:Code:=bodyOf Go.Proofs.Tryz.f13
noncomputable def C201F (n:Nat):Fun:={ id:=13,sp:=C201sp,bs:=C201bs,rs:=C201rs,f:=fun x y=>C201 n x.1 x.2.1 }
abbrev C201s4 (v5:Int) (b0_0:Int) (b0_1:List OB9) (b0_2:Bool) (b0_3:Int) (b0_4:Int) (b1_0:Int) (b1_1:List OB9) (b1_2:Bool) (b1_3:Int) (b1_4:Int):St:={ env:=[(5,.one (.sc (.int .i64 v5))),(3,.one (.ref 0 0 0 0 0 0)),(2,.one (.ref 1 0 0 0 0 0))],bx:=[(0,.var 28 [.sc (.int .i64 b0_0),.list true tO b0_1,.sc (.bool b0_2),.sc (.int .i64 b0_3),.sc (.int .i64 b0_4)]),(1,.var 28 [.sc (.int .i64 b1_0),.list true tO b1_1,.sc (.bool b1_2),.sc (.int .i64 b1_3),.sc (.int .i64 b1_4)])],nx:=2 }
noncomputable abbrev C201k0 (n:Nat):=kAt ([]) ty 52 0 n C201kp C201c [1,1,0,1,0] [] (ending ty 0 Go.Proofs.Tryz.f13.results.toList C201rs C201bs)
theorem C201_l4_eq (n:Nat):∀ (k:Nat) (v5:Int) (b0_0:Int) (b0_1:List OB9) (b0_2:Bool) (b0_3:Int) (b0_4:Int) (b1_0:Int) (b1_1:List OB9) (b1_2:Bool) (b1_3:Int) (b1_4:Int),iter (interp ([]) ty 52 0 n C201kp (codeAt C201c [1,1,0,1,0,0])) (canon 0 (C201kp.loop 4)) (C201k0 n) k (C201s4 v5 b0_0 b0_1 b0_2 b0_3 b0_4 b1_0 b1_1 b1_2 b1_3 b1_4)=C201_l4 n k v5 b0_0 b0_1 b0_2 b0_3 b0_4 b1_0 b1_1 b1_2 b1_3 b1_4
 | 0,_,_,_,_,_,_,_,_,_,_,_=>by kernel_rfl
 | k+1,v5,b0_0,b0_1,b0_2,b0_3,b0_4,b1_0,b1_1,b1_2,b1_3,b1_4=>by
  refine Eq.trans (b:=C201_t4 n (fun v5 b0_0 b0_1 b0_2 b0_3 b0_4 b1_0 b1_1 b1_2 b1_3 b1_4=>iter (interp ([]) ty 52 0 n C201kp (codeAt C201c [1,1,0,1,0,0])) (canon 0 (C201kp.loop 4)) (C201k0 n) k (C201s4 v5 b0_0 b0_1 b0_2 b0_3 b0_4 b1_0 b1_1 b1_2 b1_3 b1_4)) v5 b0_0 b0_1 b0_2 b0_3 b0_4 b1_0 b1_1 b1_2 b1_3 b1_4) (by kernel_rfl) ?_
  have e:=congrArg (fun g=>C201_t4 n g v5 b0_0 b0_1 b0_2 b0_3 b0_4 b1_0 b1_1 b1_2 b1_3 b1_4) (funext fun v5=>funext fun b0_0=>funext fun b0_1=>funext fun b0_2=>funext fun b0_3=>funext fun b0_4=>funext fun b1_0=>funext fun b1_1=>funext fun b1_2=>funext fun b1_3=>funext fun b1_4=>C201_l4_eq n k v5 b0_0 b0_1 b0_2 b0_3 b0_4 b1_0 b1_1 b1_2 b1_3 b1_4)
  exact e
theorem C201_eq (n:Nat) (a0:(Int)×((List OB9)×((Bool)×(Int×Int)))) (a1:(Int)×((List OB9)×((Bool)×(Int×Int)))):Z702 ([]) ty 52 n C201kp C201c Go.Proofs.Tryz.f13.results.toList C201rs C201sp C201bs (a0,(a1,())) ()=C201 n a0 a1:=by
 refine Eq.trans (b:=C201_t n (fun k v5 b0_0 b0_1 b0_2 b0_3 b0_4 b1_0 b1_1 b1_2 b1_3 b1_4=>iter (interp ([]) ty 52 0 n C201kp (codeAt C201c [1,1,0,1,0,0])) (canon 0 (C201kp.loop 4)) (C201k0 n) k (C201s4 v5 b0_0 b0_1 b0_2 b0_3 b0_4 b1_0 b1_1 b1_2 b1_3 b1_4)) a0 a1) (by kernel_rfl) ?_
 have e:=congrArg (fun h4=>C201_t n h4 a0 a1) (funext fun k=>funext fun v5=>funext fun b0_0=>funext fun b0_1=>funext fun b0_2=>funext fun b0_3=>funext fun b0_4=>funext fun b1_0=>funext fun b1_1=>funext fun b1_2=>funext fun b1_3=>funext fun b1_4=>C201_l4_eq n k v5 b0_0 b0_1 b0_2 b0_3 b0_4 b1_0 b1_1 b1_2 b1_3 b1_4)
 exact e
theorem C201_ok (n:Nat):FunOk P (C201F n) :=
 Z465 (C:=[]) (N:=52) (kp:=C201kp) (c:=C201c) (n:=n) (G:=fun x y=>C201 n x.1 x.2.1) follows (AllOk.mem (trivial:AllOk P ([]))) (by kernel_rfl:P.funcs[13]?=some Go.Proofs.Tryz.f13) (by kernel_rfl) (by kernel_rfl) (by kernel_rfl)
  (fun x y=>C201_eq n x.1 x.2.1) (fun _ _=>Z489 (fun _=>rfl) _) (fun _ _ _ _=>rfl)
abbrev C272sp:List Sp:=[.v true tF,.v true tF]
abbrev C272bs:List (Bs×Bool):=[]
abbrev C272rs:List (Bool×List Rp):=[(true,[.v false tF]),(false,[.v false (.int .i64)])]
noncomputable def C272kp:Keep:={ loop:=fun id=>match id with | _=>([],[]),join:=fun id=>match id with | _=>none }
noncomputable def C272c:Code:=bodyOf Go.Proofs.Tryz.f20
noncomputable def C272F (n:Nat):Fun:={ id:=20,sp:=C272sp,bs:=C272bs,rs:=C272rs,f:=fun x y=>C272 n x.1 x.2.1 }
theorem C272_eq (n:Nat) (a0:(Int)×(Int)) (a1:(Int)×(Int)):Z702 ([C397F n,C395F n]) ty 19 n C272kp C272c Go.Proofs.Tryz.f20.results.toList C272rs C272sp C272bs (a0,(a1,())) ()=C272 n a0 a1:=by
 refine Eq.trans (b:=C272_t n a0 a1) (by kernel_rfl) ?_
 rfl
theorem C272_ok (n:Nat):FunOk P (C272F n) :=
 Z465 (C:=[C397F n,C395F n]) (N:=19) (kp:=C272kp) (c:=C272c) (n:=n) (G:=fun x y=>C272 n x.1 x.2.1) follows (AllOk.mem (⟨C397_ok n,⟨C395_ok n,trivial⟩⟩:AllOk P ([C397F n,C395F n]))) (by kernel_rfl:P.funcs[20]?=some Go.Proofs.Tryz.f20) (by kernel_rfl) (by kernel_rfl) (by kernel_rfl)
  (fun x y=>C272_eq n x.1 x.2.1) (fun _ _=>Z489 (fun _=>rfl) _) (fun _ _ _ _=>rfl)
abbrev C332sp:List Sp:=[.v false (.list tF),.v false (.int .i64)]
abbrev C332bs:List (Bs×Bool):=[]
abbrev C332rs:List (Bool×List Rp):=[(false,[.v false (.int .i64)])]
noncomputable def C332kp:Keep:={ loop:=fun id=>match id with | 2=>([5,0,1],[]) | _=>([],[]),join:=fun id=>match id with | _=>none }
noncomputable def C332c:Code:=bodyOf Go.Proofs.Tryz.f57
noncomputable def C332F (n:Nat):Fun:={ id:=57,sp:=C332sp,bs:=C332bs,rs:=C332rs,f:=fun x y=>C332 n x.1 x.2.1 }
abbrev C332s2 (v5:Int) (v0:List (Int×Int)) (v1:Int):St:={ env:=[(5,.one (.sc (.int .i64 v5))),(0,.one (.list true tF v0)),(1,.one (.sc (.int .i64 v1)))],bx:=[],nx:=0 }
noncomputable abbrev C332k0 (n:Nat):=kAt ([C415F n]) ty 27 0 n C332kp C332c [1,0,1,0] [] (ending ty 0 Go.Proofs.Tryz.f57.results.toList C332rs C332bs)
theorem C332_l2_eq (n:Nat):∀ (k:Nat) (v5:Int) (v0:List (Int×Int)) (v1:Int),iter (interp ([C415F n]) ty 27 0 n C332kp (codeAt C332c [1,0,1,0,0])) (canon 0 (C332kp.loop 2)) (C332k0 n) k (C332s2 v5 v0 v1)=C332_l2 n k v5 v0 v1
 | 0,_,_,_=>by kernel_rfl
 | k+1,v5,v0,v1=>by
  refine Eq.trans (b:=C332_t2 n (fun v5 v0 v1=>iter (interp ([C415F n]) ty 27 0 n C332kp (codeAt C332c [1,0,1,0,0])) (canon 0 (C332kp.loop 2)) (C332k0 n) k (C332s2 v5 v0 v1)) v5 v0 v1) (by kernel_rfl) ?_
  have e:=congrArg (fun g=>C332_t2 n g v5 v0 v1) (funext fun v5=>funext fun v0=>funext fun v1=>C332_l2_eq n k v5 v0 v1)
  exact e
theorem C332_eq (n:Nat) (a0:List (Int×Int)) (a1:Int):Z702 ([C415F n]) ty 27 n C332kp C332c Go.Proofs.Tryz.f57.results.toList C332rs C332sp C332bs (a0,(a1,())) ()=C332 n a0 a1:=by
 refine Eq.trans (b:=C332_t n (fun k v5 v0 v1=>iter (interp ([C415F n]) ty 27 0 n C332kp (codeAt C332c [1,0,1,0,0])) (canon 0 (C332kp.loop 2)) (C332k0 n) k (C332s2 v5 v0 v1)) a0 a1) (by kernel_rfl) ?_
 have e:=congrArg (fun h2=>C332_t n h2 a0 a1) (funext fun k=>funext fun v5=>funext fun v0=>funext fun v1=>C332_l2_eq n k v5 v0 v1)
 exact e
theorem C332_ok (n:Nat):FunOk P (C332F n) :=
 Z465 (C:=[C415F n]) (N:=27) (kp:=C332kp) (c:=C332c) (n:=n) (G:=fun x y=>C332 n x.1 x.2.1) follows (AllOk.mem (⟨C415_ok n,trivial⟩:AllOk P ([C415F n]))) (by kernel_rfl:P.funcs[57]?=some Go.Proofs.Tryz.f57) (by kernel_rfl) (by kernel_rfl) (by kernel_rfl)
  (fun x y=>C332_eq n x.1 x.2.1) (fun _ _=>Z489 (fun _=>rfl) _) (fun _ _ _ _=>rfl)
abbrev C396sp:List Sp:=[.v false (.list tF)]
abbrev C396bs:List (Bs×Bool):=[]
abbrev C396rs:List (Bool×List Rp):=[(true,[.v false tF]),(false,[.v false (.int .i64)])]
noncomputable def C396kp:Keep:={ loop:=fun id=>match id with | 3=>([2,5,4,0],[]) | _=>([],[]),join:=fun id=>match id with | _=>none }
noncomputable def C396c:Code:=bodyOf Go.Proofs.Tryz.f58
noncomputable def C396F (n:Nat):Fun:={ id:=58,sp:=C396sp,bs:=C396bs,rs:=C396rs,f:=fun x y=>C396 n x.1 }
noncomputable abbrev C396cs (n:Nat):List Fun:=[C275F n,C389F n]
abbrev C396s3 (v5:Int) (v0:List (Int×Int)) (b0_0:Int) (b0_1:Int) (b1_0:Int) (b1_1:Int):St:={ env:=[(2,.one (.ref 0 0 0 0 0 0)),(5,.one (.sc (.int .i64 v5))),(4,.one (.ref 1 0 0 0 0 0)),(0,.one (.list true tF v0))],bx:=[(0,.var 26 [.sc (.int .i64 b0_0),.sc (.int .i64 b0_1)]),(1,.var 26 [.sc (.int .i64 b1_0),.sc (.int .i64 b1_1)])],nx:=2 }
noncomputable abbrev C396k0 (n:Nat):=kAt (C396cs n) ty 30 0 n C396kp C396c [1,1,0,1,0] [] (ending ty 0 Go.Proofs.Tryz.f58.results.toList C396rs C396bs)
theorem C396_l3_eq (n:Nat):∀ (k:Nat) (v5:Int) (v0:List (Int×Int)) (b0_0:Int) (b0_1:Int) (b1_0:Int) (b1_1:Int),iter (interp (C396cs n) ty 30 0 n C396kp (codeAt C396c [1,1,0,1,0,0])) (canon 0 (C396kp.loop 3)) (C396k0 n) k (C396s3 v5 v0 b0_0 b0_1 b1_0 b1_1)=C396_l3 n k v5 v0 b0_0 b0_1 b1_0 b1_1
 | 0,_,_,_,_,_,_=>by kernel_rfl
 | k+1,v5,v0,b0_0,b0_1,b1_0,b1_1=>by
  refine Eq.trans (b:=C396_t3 n (fun v5 v0 b0_0 b0_1 b1_0 b1_1=>iter (interp (C396cs n) ty 30 0 n C396kp (codeAt C396c [1,1,0,1,0,0])) (canon 0 (C396kp.loop 3)) (C396k0 n) k (C396s3 v5 v0 b0_0 b0_1 b1_0 b1_1)) v5 v0 b0_0 b0_1 b1_0 b1_1) (by kernel_rfl) ?_
  have e:=congrArg (fun g=>C396_t3 n g v5 v0 b0_0 b0_1 b1_0 b1_1) (funext fun v5=>funext fun v0=>funext fun b0_0=>funext fun b0_1=>funext fun b1_0=>funext fun b1_1=>C396_l3_eq n k v5 v0 b0_0 b0_1 b1_0 b1_1)
  exact e
theorem C396_eq (n:Nat) (a0:List (Int×Int)):Z702 (C396cs n) ty 30 n C396kp C396c Go.Proofs.Tryz.f58.results.toList C396rs C396sp C396bs (a0,()) ()=C396 n a0:=by
 refine Eq.trans (b:=C396_t n (fun k v5 v0 b0_0 b0_1 b1_0 b1_1=>iter (interp (C396cs n) ty 30 0 n C396kp (codeAt C396c [1,1,0,1,0,0])) (canon 0 (C396kp.loop 3)) (C396k0 n) k (C396s3 v5 v0 b0_0 b0_1 b1_0 b1_1)) a0) (by kernel_rfl) ?_
 have e:=congrArg (fun h3=>C396_t n h3 a0) (funext fun k=>funext fun v5=>funext fun v0=>funext fun b0_0=>funext fun b0_1=>funext fun b1_0=>funext fun b1_1=>C396_l3_eq n k v5 v0 b0_0 b0_1 b1_0 b1_1)
 exact e
theorem C396_ok (n:Nat):FunOk P (C396F n) :=
 Z465 (C:=[C275F n,C389F n]) (N:=30) (kp:=C396kp) (c:=C396c) (n:=n) (G:=fun x y=>C396 n x.1) follows (AllOk.mem (⟨C275_ok n,⟨C389_ok n,trivial⟩⟩:AllOk P ([C275F n,C389F n]))) (by kernel_rfl:P.funcs[58]?=some Go.Proofs.Tryz.f58) (by kernel_rfl) (by kernel_rfl) (by kernel_rfl)
  (fun x y=>C396_eq n x.1) (fun _ _=>Z489 (fun _=>rfl) _) (fun _ _ _ _=>rfl)
abbrev C413sp:List Sp:=[.v false (.list tF)]
abbrev C413bs:List (Bs×Bool):=[]
abbrev C413rs:List (Bool×List Rp):=[(true,[.v false tF]),(false,[.v false (.int .i64)])]
noncomputable def C413kp:Keep:={ loop:=fun id=>match id with | _=>([],[]),join:=fun id=>match id with | _=>none }
noncomputable def C413c:Code:=bodyOf Go.Proofs.Tryz.f19
noncomputable def C413F (n:Nat):Fun:={ id:=19,sp:=C413sp,bs:=C413bs,rs:=C413rs,f:=fun x y=>C413 n x.1 }
theorem C413_eq (n:Nat) (a0:List (Int×Int)):Z702 ([C332F n,C396F n]) ty 15 n C413kp C413c Go.Proofs.Tryz.f19.results.toList C413rs C413sp C413bs (a0,()) ()=C413 n a0:=by
 refine Eq.trans (b:=C413_t n a0) (by kernel_rfl) ?_
 rfl
theorem C413_ok (n:Nat):FunOk P (C413F n) :=
 Z465 (C:=[C332F n,C396F n]) (N:=15) (kp:=C413kp) (c:=C413c) (n:=n) (G:=fun x y=>C413 n x.1) follows (AllOk.mem (⟨C332_ok n,⟨C396_ok n,trivial⟩⟩:AllOk P ([C332F n,C396F n]))) (by kernel_rfl:P.funcs[19]?=some Go.Proofs.Tryz.f19) (by kernel_rfl) (by kernel_rfl) (by kernel_rfl)
  (fun x y=>C413_eq n x.1) (fun _ _=>Z489 (fun _=>rfl) _) (fun _ _ _ _=>rfl)
abbrev laws_FnLeastsp:List Sp:=[.v false (.list (.int .u8)),.v false (.list (.int .u8))]
abbrev laws_FnLeastbs:List (Bs×Bool):=[]
abbrev laws_FnLeastrs:List (Bool×List Rp):=[(false,[.v false .bool])]
noncomputable def laws_FnLeastkp:Keep:={ loop:=fun id=>match id with | 39=>([34,31,6],[]) | 46=>([37,35,31,6],[]) | 54=>([42,40,6,38,39],[]) | _=>([],[]),join:=fun id=>match id with | _=>none }
noncomputable def laws_FnLeastc:Code:=bodyOf Go.Proofs.Tryz.f3
noncomputable def laws_FnLeastF (n:Nat):Fun:={ id:=3,sp:=laws_FnLeastsp,bs:=laws_FnLeastbs,rs:=laws_FnLeastrs,f:=fun x y=>laws_FnLeast n x.1 x.2.1 }
noncomputable abbrev laws_FnLeastcs (n:Nat):List Fun:=[C409F n,C325F n,C194F n,C169F n,C164F n,C58F n,C65F n,C354F n,C381F n,C201F n,C166F n,C121F n,C200F n,C296F n,C168F n,C413F n,C272F n,C264F n,C372F n,C105F n,C91F n]
abbrev laws_FnLeasts54 (v42:Int) (v39:Int) (b0:List (Int×Int)) (b1:List (Int×Int)) (b2:List (Int×Int)):St:={ env:=[(42,.one (.sc (.int .i64 v42))),(40,.one (.slice 0 0 none)),(6,.one (.slice 1 0 none)),(38,.one (.slice 2 0 none)),(39,.one (.sc (.int .i64 v39)))],bx:=[(0,.row 0 tF b0),(1,.row 0 tF b1),(2,.row 0 tF b2)],nx:=3 }
abbrev laws_FnLeasts46 (v37:Int) (b0:List (Int×Int)) (b1_0:Int) (b1_2:Bool) (b1_3:Int) (b1_4:Int) (b2:List (Int×Int)) (b3:List OB9):St:={ env:=[(37,.one (.sc (.int .i64 v37))),(35,.one (.slice 0 0 none)),(31,.one (.ref 1 0 0 0 0 0)),(6,.one (.slice 2 0 none))],bx:=[(0,.row 0 tF b0),(1,.var 28 [.sc (.int .i64 b1_0),.slice 3 0 none,.sc (.bool b1_2),.sc (.int .i64 b1_3),.sc (.int .i64 b1_4)]),(2,.row 0 tF b2),(3,.row 0 tO b3)],nx:=4 }
abbrev laws_FnLeasts39 (v34:Int) (b0_0:Int) (b0_2:Bool) (b0_3:Int) (b0_4:Int) (b1:List (Int×Int)) (b2:List OB9):St:={ env:=[(34,.one (.sc (.int .i64 v34))),(31,.one (.ref 0 0 0 0 0 0)),(6,.one (.slice 1 0 none))],bx:=[(0,.var 28 [.sc (.int .i64 b0_0),.slice 2 0 none,.sc (.bool b0_2),.sc (.int .i64 b0_3),.sc (.int .i64 b0_4)]),(1,.row 0 tF b1),(2,.row 0 tO b2)],nx:=3 }
noncomputable abbrev laws_FnLeastk0 (n:Nat):=kAt (laws_FnLeastcs n) typ 333 0 n laws_FnLeastkp laws_FnLeastc [1,1,1,1,1,1,1,1,1,1,1,1,1,1,1,1,1,1,1,1,1,1,1,1,1,1,1,0,1,0] [] (ending typ 0 Go.Proofs.Tryz.f3.results.toList laws_FnLeastrs laws_FnLeastbs)
noncomputable abbrev laws_FnLeastk1 (n:Nat):=kAt (laws_FnLeastcs n) typ 333 0 n laws_FnLeastkp laws_FnLeastc [1,1,1,1,1,1,1,1,1,1,1,1,1,1,1,1,1,1,1,1,1,1,1,0,1,0] [] (ending typ 0 Go.Proofs.Tryz.f3.results.toList laws_FnLeastrs laws_FnLeastbs)
noncomputable abbrev laws_FnLeastk2 (n:Nat):=kAt (laws_FnLeastcs n) typ 333 0 n laws_FnLeastkp laws_FnLeastc [1,1,1,1,1,1,1,1,1,1,1,1,1,1,1,1,1,1,1,1,0,1,0] [] (ending typ 0 Go.Proofs.Tryz.f3.results.toList laws_FnLeastrs laws_FnLeastbs)
theorem laws_FnLeast_l54_eq (n:Nat):∀ (k:Nat) (v42:Int) (v39:Int) (b0:List (Int×Int)) (b1:List (Int×Int)) (b2:List (Int×Int)),iter (interp (laws_FnLeastcs n) typ 333 0 n laws_FnLeastkp (codeAt laws_FnLeastc [1,1,1,1,1,1,1,1,1,1,1,1,1,1,1,1,1,1,1,1,1,1,1,1,1,1,1,0,1,0,0])) (canon 0 (laws_FnLeastkp.loop 54)) (laws_FnLeastk0 n) k (laws_FnLeasts54 v42 v39 b0 b1 b2)=laws_FnLeast_l54 n k v42 v39 b0 b1 b2
 | 0,_,_,_,_,_=>by kernel_rfl
 | k+1,v42,v39,b0,b1,b2=>by
  refine Eq.trans (b:=laws_FnLeast_t54 n (fun v42 v39 b0 b1 b2=>iter (interp (laws_FnLeastcs n) typ 333 0 n laws_FnLeastkp (codeAt laws_FnLeastc [1,1,1,1,1,1,1,1,1,1,1,1,1,1,1,1,1,1,1,1,1,1,1,1,1,1,1,0,1,0,0])) (canon 0 (laws_FnLeastkp.loop 54)) (laws_FnLeastk0 n) k (laws_FnLeasts54 v42 v39 b0 b1 b2)) v42 v39 b0 b1 b2) (by kernel_rfl) ?_
  have e:=congrArg (fun g=>laws_FnLeast_t54 n g v42 v39 b0 b1 b2) (funext fun v42=>funext fun v39=>funext fun b0=>funext fun b1=>funext fun b2=>laws_FnLeast_l54_eq n k v42 v39 b0 b1 b2)
  exact e
theorem laws_FnLeast_l46_eq (n:Nat):∀ (k:Nat) (v37:Int) (b0:List (Int×Int)) (b1_0:Int) (b1_2:Bool) (b1_3:Int) (b1_4:Int) (b2:List (Int×Int)) (b3:List OB9),iter (interp (laws_FnLeastcs n) typ 333 0 n laws_FnLeastkp (codeAt laws_FnLeastc [1,1,1,1,1,1,1,1,1,1,1,1,1,1,1,1,1,1,1,1,1,1,1,0,1,0,0])) (canon 0 (laws_FnLeastkp.loop 46)) (laws_FnLeastk1 n) k (laws_FnLeasts46 v37 b0 b1_0 b1_2 b1_3 b1_4 b2 b3)=laws_FnLeast_l46 n k v37 b0 b1_0 b1_2 b1_3 b1_4 b2 b3
 | 0,_,_,_,_,_,_,_,_=>by kernel_rfl
 | k+1,v37,b0,b1_0,b1_2,b1_3,b1_4,b2,b3=>by
  refine Eq.trans (b:=laws_FnLeast_t46 n (fun k' v42 v39 b0 b1 b2=>iter (interp (laws_FnLeastcs n) typ 333 0 n laws_FnLeastkp (codeAt laws_FnLeastc [1,1,1,1,1,1,1,1,1,1,1,1,1,1,1,1,1,1,1,1,1,1,1,1,1,1,1,0,1,0,0])) (canon 0 (laws_FnLeastkp.loop 54)) (laws_FnLeastk0 n) k' (laws_FnLeasts54 v42 v39 b0 b1 b2)) (fun v37 b0 b1_0 b1_2 b1_3 b1_4 b2 b3=>iter (interp (laws_FnLeastcs n) typ 333 0 n laws_FnLeastkp (codeAt laws_FnLeastc [1,1,1,1,1,1,1,1,1,1,1,1,1,1,1,1,1,1,1,1,1,1,1,0,1,0,0])) (canon 0 (laws_FnLeastkp.loop 46)) (laws_FnLeastk1 n) k (laws_FnLeasts46 v37 b0 b1_0 b1_2 b1_3 b1_4 b2 b3)) v37 b0 b1_0 b1_2 b1_3 b1_4 b2 b3) (by kernel_rfl) ?_
  have e:=congr (congrArg (fun h54 g=>laws_FnLeast_t46 n h54 g v37 b0 b1_0 b1_2 b1_3 b1_4 b2 b3) (funext fun k'=>funext fun v42=>funext fun v39=>funext fun b0=>funext fun b1=>funext fun b2=>laws_FnLeast_l54_eq n k' v42 v39 b0 b1 b2)) (funext fun v37=>funext fun b0=>funext fun b1_0=>funext fun b1_2=>funext fun b1_3=>funext fun b1_4=>funext fun b2=>funext fun b3=>laws_FnLeast_l46_eq n k v37 b0 b1_0 b1_2 b1_3 b1_4 b2 b3)
  exact e
theorem laws_FnLeast_l39_eq (n:Nat):∀ (k:Nat) (v34:Int) (b0_0:Int) (b0_2:Bool) (b0_3:Int) (b0_4:Int) (b1:List (Int×Int)) (b2:List OB9),iter (interp (laws_FnLeastcs n) typ 333 0 n laws_FnLeastkp (codeAt laws_FnLeastc [1,1,1,1,1,1,1,1,1,1,1,1,1,1,1,1,1,1,1,1,0,1,0,0])) (canon 0 (laws_FnLeastkp.loop 39)) (laws_FnLeastk2 n) k (laws_FnLeasts39 v34 b0_0 b0_2 b0_3 b0_4 b1 b2)=laws_FnLeast_l39 n k v34 b0_0 b0_2 b0_3 b0_4 b1 b2
 | 0,_,_,_,_,_,_,_=>by kernel_rfl
 | k+1,v34,b0_0,b0_2,b0_3,b0_4,b1,b2=>by
  refine Eq.trans (b:=laws_FnLeast_t39 n (fun k' v37 b0 b1_0 b1_2 b1_3 b1_4 b2 b3=>iter (interp (laws_FnLeastcs n) typ 333 0 n laws_FnLeastkp (codeAt laws_FnLeastc [1,1,1,1,1,1,1,1,1,1,1,1,1,1,1,1,1,1,1,1,1,1,1,0,1,0,0])) (canon 0 (laws_FnLeastkp.loop 46)) (laws_FnLeastk1 n) k' (laws_FnLeasts46 v37 b0 b1_0 b1_2 b1_3 b1_4 b2 b3)) (fun v34 b0_0 b0_2 b0_3 b0_4 b1 b2=>iter (interp (laws_FnLeastcs n) typ 333 0 n laws_FnLeastkp (codeAt laws_FnLeastc [1,1,1,1,1,1,1,1,1,1,1,1,1,1,1,1,1,1,1,1,0,1,0,0])) (canon 0 (laws_FnLeastkp.loop 39)) (laws_FnLeastk2 n) k (laws_FnLeasts39 v34 b0_0 b0_2 b0_3 b0_4 b1 b2)) v34 b0_0 b0_2 b0_3 b0_4 b1 b2) (by kernel_rfl) ?_
  have e:=congr (congrArg (fun h46 g=>laws_FnLeast_t39 n h46 g v34 b0_0 b0_2 b0_3 b0_4 b1 b2) (funext fun k'=>funext fun v37=>funext fun b0=>funext fun b1_0=>funext fun b1_2=>funext fun b1_3=>funext fun b1_4=>funext fun b2=>funext fun b3=>laws_FnLeast_l46_eq n k' v37 b0 b1_0 b1_2 b1_3 b1_4 b2 b3)) (funext fun v34=>funext fun b0_0=>funext fun b0_2=>funext fun b0_3=>funext fun b0_4=>funext fun b1=>funext fun b2=>laws_FnLeast_l39_eq n k v34 b0_0 b0_2 b0_3 b0_4 b1 b2)
  exact e
theorem laws_FnLeast_eq (n:Nat) (a0:List (Int)) (a1:List (Int)):Z702 (laws_FnLeastcs n) typ 333 n laws_FnLeastkp laws_FnLeastc Go.Proofs.Tryz.f3.results.toList laws_FnLeastrs laws_FnLeastsp laws_FnLeastbs (a0,(a1,())) ()=laws_FnLeast n a0 a1:=by
 refine Eq.trans (b:=laws_FnLeast_t n (fun k v34 b0_0 b0_2 b0_3 b0_4 b1 b2=>iter (interp (laws_FnLeastcs n) typ 333 0 n laws_FnLeastkp (codeAt laws_FnLeastc [1,1,1,1,1,1,1,1,1,1,1,1,1,1,1,1,1,1,1,1,0,1,0,0])) (canon 0 (laws_FnLeastkp.loop 39)) (laws_FnLeastk2 n) k (laws_FnLeasts39 v34 b0_0 b0_2 b0_3 b0_4 b1 b2)) a0 a1) (by kernel_rfl) ?_
 have e:=congrArg (fun h39=>laws_FnLeast_t n h39 a0 a1) (funext fun k=>funext fun v34=>funext fun b0_0=>funext fun b0_2=>funext fun b0_3=>funext fun b0_4=>funext fun b1=>funext fun b2=>laws_FnLeast_l39_eq n k v34 b0_0 b0_2 b0_3 b0_4 b1 b2)
 exact e
theorem laws_FnLeast_ok (n:Nat):FunOk P (laws_FnLeastF n) :=
 Z308 (C:=[C409F n,C325F n,C194F n,C169F n,C164F n,C58F n,C65F n,C354F n,C381F n,C201F n,C166F n,C121F n,C200F n,C296F n,C168F n,C413F n,C272F n,C264F n,C372F n,C105F n,C91F n]) (N:=333) (kp:=laws_FnLeastkp) (c:=laws_FnLeastc) (n:=n) (G:=fun x y=>laws_FnLeast n x.1 x.2.1) follows (AllOk.mem (⟨C409_ok n,⟨C325_ok n,⟨C194_ok n,⟨C169_ok n,⟨C164_ok n,⟨C58_ok n,⟨C65_ok n,⟨C354_ok n,⟨C381_ok n,⟨C201_ok n,⟨C166_ok n,⟨C121_ok n,⟨C200_ok n,⟨C296_ok n,⟨C168_ok n,⟨C413_ok n,⟨C272_ok n,⟨C264_ok n,⟨C372_ok n,⟨C105_ok n,⟨C91_ok n,trivial⟩⟩⟩⟩⟩⟩⟩⟩⟩⟩⟩⟩⟩⟩⟩⟩⟩⟩⟩⟩⟩:AllOk P ([C409F n,C325F n,C194F n,C169F n,C164F n,C58F n,C65F n,C354F n,C381F n,C201F n,C166F n,C121F n,C200F n,C296F n,C168F n,C413F n,C272F n,C264F n,C372F n,C105F n,C91F n]))) (by kernel_rfl:P.funcs[3]?=some Go.Proofs.Tryz.f3) (by kernel_rfl) (by kernel_rfl) (by kernel_rfl)
  (fun x y=>laws_FnLeast_eq n x.1 x.2.1) (fun _ _=>Z489 (fun _=>rfl) _) (fun _ _ _ _=>rfl)
end Go.Abs
