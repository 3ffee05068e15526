import Derived.Test.YtbapchkhohnncaaGreatDoorLib
set_option linter.unusedSimpArgs false
set_option linter.unusedSectionVars false
set_option linter.unusedVariables false
namespace Go.Abs
abbrev FQ9:Type:=Int×Int
abbrev OB9:Type:=(Int×(Int×(Int×(Int×(Int×Int)))))×(FQ9×Int)
abbrev RT0:Type:=Option ((((Int)×(Unit))×(Unit))×(Unit))
abbrev RT1:Type:=Option ((((Bool)×(Unit))×(Unit))×(Unit))
abbrev RT2:Type:=Option (((FQ9×(Unit))×(((Bool)×(Unit))×(Unit)))×(Unit))
abbrev RT3:Type:=Option (((FQ9×(Unit))×(Unit))×(Unit))
abbrev RT4:Type:=Option (((FQ9×(Unit))×(Unit))×((Bool)×(Unit)))
abbrev RT5:Type:=Option ((((Int)×(Unit))×(((Int)×(Unit))×(Unit)))×(Unit))
abbrev RT6:Type:=Option ((((List FQ9)×(Unit))×(Unit))×(Unit))
abbrev RT7:Type:=Option (((((List Nat)×(List (List FQ9)))×(Unit))×(((List FQ9)×(Unit))×(Unit)))×((Bool)×(Unit)))
abbrev RT8:Type:=Option (((((List Nat)×(List (List FQ9)))×(Unit))×(((List FQ9)×(Unit))×(((Int)×(Unit))×(Unit))))×(Unit))
abbrev RT9:Type:=Option ((((Bool)×(Unit))×(Unit))×((Bool)×(((List Nat)×(List (List FQ9)))×((List FQ9)×(Unit)))))
abbrev RT10:Type:=Option (((((List Nat)×(List (List FQ9)))×(Unit))×(Unit))×(Unit))
abbrev RT11:Type:=Option ((((Bool)×(Unit))×(Unit))×((Int)×(Unit)))
abbrev RT12:Type:=Option ((((Int)×(Unit))×(Unit))×((Int)×(Unit)))
abbrev RT13:Type:=Option ((((List FQ9)×(Unit))×(((Int)×(Unit))×(Unit)))×(Unit))
abbrev RT14:Type:=Option ((((Bool)×(Unit))×(((Int)×(Unit))×(Unit)))×(Unit))
abbrev RT15:Type:=Option ((((ByteArray)×(Unit))×(Unit))×(Unit))
abbrev RT16:Type:=Option ((((ByteArray)×(Unit))×(((ByteArray)×(Unit))×(((Bool)×(Unit))×(Unit))))×(Unit))
abbrev RT17:Type:=Option (((FQ9×(Unit))×(((Int)×(Unit))×(Unit)))×(Unit))
abbrev RT18:Type:=Option ((((List (ByteArray))×(Unit))×(Unit))×(Unit))
abbrev RT19:Type:=Option ((((List (ByteArray))×(Unit))×(((Bool)×(Unit))×(Unit)))×(Unit))
abbrev RT20:Type:=Option ((((Int)×((List OB9)×(((Bool)×FQ9)×(Unit))))×(((Int)×(Unit))×(Unit)))×(Unit))
abbrev RT21:Type:=Option ((((List FQ9)×(Unit))×(Unit))×((Bool)×(Unit)))
abbrev RT22:Type:=Option (((FQ9×(Unit))×(((Int)×(Unit))×(Unit)))×((Bool)×(Unit)))
abbrev RT23:Type:=Option ((((List (List FQ9))×(Unit))×(((List FQ9)×(Unit))×(((Int)×(Unit))×(Unit))))×(((Int)×((List OB9)×((Bool)×FQ9)))×(Unit)))
abbrev RT24:Type:=Option ((((Bool)×(Unit))×(Unit))×(((Int)×((List OB9)×((Bool)×FQ9)))×(Unit)))
abbrev RT25:Type:=Option ((((List (List FQ9))×(Unit))×(((List FQ9)×(Unit))×(((Int)×(Unit))×(Unit))))×(Unit))
abbrev RT26:Type:=Option ((((((List Nat)×(List (List FQ9)))×((List FQ9)×((Int)×(Unit))))×(Unit))×(Unit))×(Unit))
abbrev RT27:Type:=Option ((Unit)×(((Int)×(Unit))×(((List Nat)×(List (List FQ9)))×((List FQ9)×(Unit)))))
abbrev RT28:Type:=Option ((((Int)×(Unit))×(Unit))×(((Int)×(Unit))×(((List Nat)×(List (List FQ9)))×((List FQ9)×(Unit)))))
abbrev RT29:Type:=Option (((((List (Int))×FQ9)×(Unit))×(Unit))×(Unit))
abbrev RT30:Type:=Option ((((Int)×(Unit))×(Unit))×(((List (Int))×FQ9)×(Unit)))
abbrev RT31:Type:=Option ((((Int)×(Unit))×(Unit))×(((List (Int))×FQ9)×((List (Int))×(Unit))))
abbrev RT32:Type:=Option (((FQ9×(Unit))×(Unit))×(((List (Int))×FQ9)×(Unit)))
abbrev RT33:Type:=Option ((((Bool)×(Unit))×(Unit))×(((List (Int))×FQ9)×(Unit)))
abbrev RT34:Type:=Option (((((Int)×((List OB9)×((Bool)×FQ9)))×(Unit))×(Unit))×(((List (Int))×FQ9)×(Unit)))
abbrev RT35:Type:=Option (((((Int)×((List OB9)×((Bool)×FQ9)))×(Unit))×(Unit))×(Unit))
abbrev RT36:Type:=Option ((((Int)×(Unit))×(Unit))×(((Int)×((List OB9)×((Bool)×FQ9)))×(Unit)))
noncomputable def C429_t1 (n:Nat) (g1:Int→Int→RT0) (v1:Int) (v0:Int):RT0 :=
 cond ((v1 != 0))
 (cond ((v1 != 0))
  (g1 ((Int.tmod v0 v1)) v1)
  (none))
 (some (((((if v0 < (IntKind.wrap .i64 (0 - v0)) then (IntKind.wrap .i64 (0 - v0)) else v0),()),()),())))
noncomputable def C429_l1 (n:Nat):Nat→Int→Int→RT0
 | 0,_,_=>none
 | k+1,v1,v0=>C429_t1 n (C429_l1 n k) v1 v0
noncomputable def C429_t (n:Nat) (h1:Nat→Int→Int→RT0) (a0:Int) (a1:Int):RT0 :=
 h1 n a1 a0
noncomputable def C429 (n:Nat) (a0:Int) (a1:Int):RT0:=C429_t n (C429_l1 n) a0 a1
noncomputable def C366_t (n:Nat) (a0:Int) (a1:Int) (a2:Int):RT1 :=
 cond (decide (a1≤a0))
 (some ((((decide (a0≤a2),()),()),())))
 (some ((((false,()),()),())))
noncomputable def C366 (n:Nat) (a0:Int) (a1:Int) (a2:Int):RT1:=C366_t n a0 a1 a2
noncomputable def C172_t (n:Nat) (a0:(Int)×(Int)):RT1 :=
 (C366 n a0.2 1 1000000000).bind fun r0 =>
 cond r0.1.1.1
 ((C366 n a0.1 (-1000000000) 1000000000).bind fun r1 =>
  cond r1.1.1.1
  ((C429 n a0.1 a0.2).bind fun r2 =>
   some (((((r2.1.1.1==1),()),()),())))
  (some ((((false,()),()),()))))
 (some ((((false,()),()),())))
noncomputable def C172 (n:Nat) (a0:(Int)×(Int)):RT1:=C172_t n a0
noncomputable def C121_t8 (n:Nat) (g4:Int→(List OB9)→Int→Int→(List OB9)→Bool→Int→Int→RT1) (g8:Int→Bool→Int→Int→Int→Int→Int→Int→(List OB9)→Int→Int→Int→(List OB9)→Bool→Int→Int→Int→Int→Int→Int→Int→Int→Int→Int→Int→RT1) (v44:Int) (v5:Bool) (v43_0:Int) (v43_1:Int) (v43_2:Int) (v43_3:Int) (v43_4:Int) (v43_5:Int) (v36:List OB9) (v37:Int) (v38:Int) (b0_0:Int) (b0_1:List OB9) (b0_2:Bool) (b0_3:Int) (b0_4:Int) (b1_0:Int) (b1_1:Int) (b1_2:Int) (b1_3:Int) (b1_4:Int) (b1_5:Int) (b1_6:Int) (b1_7:Int) (b1_8:Int):RT1 :=
 cond (decide (v44 < 6))
 (cond ((decide (0≤v44)&&decide (v44 < 6)))
  ((C366 n ((IntKind.wrap .i64 (cond (Nat.beq (Int.toNat v44) 0) v43_0 (cond (Nat.beq ((Int.toNat v44) - 1) 0) v43_1 (cond (Nat.beq (((Int.toNat v44) - 1) - 1) 0) v43_2 (cond (Nat.beq ((((Int.toNat v44) - 1) - 1) - 1) 0) v43_3 (cond (Nat.beq (((((Int.toNat v44) - 1) - 1) - 1) - 1) 0) v43_4 (cond (Nat.beq ((((((Int.toNat v44) - 1) - 1) - 1) - 1) - 1) 0) v43_5 0)))))))) (-3) 3).bind fun r2 =>
   cond (!r2.1.1.1)
   (some ((((false,()),()),())))
   (cond (((cond (Nat.beq (Int.toNat v44) 0) v43_0 (cond (Nat.beq ((Int.toNat v44) - 1) 0) v43_1 (cond (Nat.beq (((Int.toNat v44) - 1) - 1) 0) v43_2 (cond (Nat.beq ((((Int.toNat v44) - 1) - 1) - 1) 0) v43_3 (cond (Nat.beq (((((Int.toNat v44) - 1) - 1) - 1) - 1) 0) v43_4 (cond (Nat.beq ((((((Int.toNat v44) - 1) - 1) - 1) - 1) - 1) 0) v43_5 0)))))) != 0))
    (cond (decide (v44≥b0_0))
     (some ((((false,()),()),())))
     (cond v5
      (g8 ((IntKind.wrap .i64 (v44+1))) true v43_0 v43_1 v43_2 v43_3 v43_4 v43_5 v36 v37 v38 b0_0 b0_1 b0_2 b0_3 b0_4 b1_0 b1_1 b1_2 b1_3 b1_4 b1_5 b1_6 b1_7 b1_8)
      (g8 ((IntKind.wrap .i64 (v44+1))) (((cond (Nat.beq (Int.toNat v44) 0) v43_0 (cond (Nat.beq ((Int.toNat v44) - 1) 0) v43_1 (cond (Nat.beq (((Int.toNat v44) - 1) - 1) 0) v43_2 (cond (Nat.beq ((((Int.toNat v44) - 1) - 1) - 1) 0) v43_3 (cond (Nat.beq (((((Int.toNat v44) - 1) - 1) - 1) - 1) 0) v43_4 (cond (Nat.beq ((((((Int.toNat v44) - 1) - 1) - 1) - 1) - 1) 0) v43_5 0)))))) != 0)) v43_0 v43_1 v43_2 v43_3 v43_4 v43_5 v36 v37 v38 b0_0 b0_1 b0_2 b0_3 b0_4 b1_0 b1_1 b1_2 b1_3 b1_4 b1_5 b1_6 b1_7 b1_8)))
    (cond v5
     (g8 ((IntKind.wrap .i64 (v44+1))) true v43_0 v43_1 v43_2 v43_3 v43_4 v43_5 v36 v37 v38 b0_0 b0_1 b0_2 b0_3 b0_4 b1_0 b1_1 b1_2 b1_3 b1_4 b1_5 b1_6 b1_7 b1_8)
     (g8 ((IntKind.wrap .i64 (v44+1))) (((cond (Nat.beq (Int.toNat v44) 0) v43_0 (cond (Nat.beq ((Int.toNat v44) - 1) 0) v43_1 (cond (Nat.beq (((Int.toNat v44) - 1) - 1) 0) v43_2 (cond (Nat.beq ((((Int.toNat v44) - 1) - 1) - 1) 0) v43_3 (cond (Nat.beq (((((Int.toNat v44) - 1) - 1) - 1) - 1) 0) v43_4 (cond (Nat.beq ((((((Int.toNat v44) - 1) - 1) - 1) - 1) - 1) 0) v43_5 0)))))) != 0)) v43_0 v43_1 v43_2 v43_3 v43_4 v43_5 v36 v37 v38 b0_0 b0_1 b0_2 b0_3 b0_4 b1_0 b1_1 b1_2 b1_3 b1_4 b1_5 b1_6 b1_7 b1_8))))
  (none))
 (cond (!v5)
  (some ((((false,()),()),())))
  ((C172 n ((b1_6,b1_7))).bind fun r3 =>
   cond (!r3.1.1.1)
   (some ((((false,()),()),())))
   ((C366 n b1_8 1 100).bind fun r4 =>
    cond (!r4.1.1.1)
    (some ((((false,()),()),())))
    (g4 ((IntKind.wrap .i64 (v38+1))) v36 v37 b0_0 b0_1 b0_2 b0_3 b0_4))))
noncomputable def C121_l8 (n:Nat) (g4:Int→(List OB9)→Int→Int→(List OB9)→Bool→Int→Int→RT1):Nat→Int→Bool→Int→Int→Int→Int→Int→Int→(List OB9)→Int→Int→Int→(List OB9)→Bool→Int→Int→Int→Int→Int→Int→Int→Int→Int→Int→Int→RT1
 | 0,_,_,_,_,_,_,_,_,_,_,_,_,_,_,_,_,_,_,_,_,_,_,_,_,_=>none
 | k+1,v44,v5,v43_0,v43_1,v43_2,v43_3,v43_4,v43_5,v36,v37,v38,b0_0,b0_1,b0_2,b0_3,b0_4,b1_0,b1_1,b1_2,b1_3,b1_4,b1_5,b1_6,b1_7,b1_8=>C121_t8 n g4 (C121_l8 n g4 k) v44 v5 v43_0 v43_1 v43_2 v43_3 v43_4 v43_5 v36 v37 v38 b0_0 b0_1 b0_2 b0_3 b0_4 b1_0 b1_1 b1_2 b1_3 b1_4 b1_5 b1_6 b1_7 b1_8
noncomputable def C121_t4 (n:Nat) (h8:Nat→Int→Bool→Int→Int→Int→Int→Int→Int→(List OB9)→Int→Int→Int→(List OB9)→Bool→Int→Int→Int→Int→Int→Int→Int→Int→Int→Int→Int→RT1) (g4:Int→(List OB9)→Int→Int→(List OB9)→Bool→Int→Int→RT1) (v38:Int) (v36:List OB9) (v37:Int) (b0_0:Int) (b0_1:List OB9) (b0_2:Bool) (b0_3:Int) (b0_4:Int):RT1 :=
 cond (decide (v38 < v37))
 (cond ((decide (0≤v38)&&decide (v38 < ((v36.length:Nat):Int))))
  (h8 n 0 false ((v36.getD (Int.toNat v38) ((0,(0,(0,(0,(0,0))))),((0,0),0))).1.1) ((v36.getD (Int.toNat v38) ((0,(0,(0,(0,(0,0))))),((0,0),0))).1.2.1) ((v36.getD (Int.toNat v38) ((0,(0,(0,(0,(0,0))))),((0,0),0))).1.2.2.1) ((v36.getD (Int.toNat v38) ((0,(0,(0,(0,(0,0))))),((0,0),0))).1.2.2.2.1) ((v36.getD (Int.toNat v38) ((0,(0,(0,(0,(0,0))))),((0,0),0))).1.2.2.2.2.1) ((v36.getD (Int.toNat v38) ((0,(0,(0,(0,(0,0))))),((0,0),0))).1.2.2.2.2.2) v36 v37 v38 b0_0 b0_1 b0_2 b0_3 b0_4 ((v36.getD (Int.toNat v38) ((0,(0,(0,(0,(0,0))))),((0,0),0))).1.1) ((v36.getD (Int.toNat v38) ((0,(0,(0,(0,(0,0))))),((0,0),0))).1.2.1) ((v36.getD (Int.toNat v38) ((0,(0,(0,(0,(0,0))))),((0,0),0))).1.2.2.1) ((v36.getD (Int.toNat v38) ((0,(0,(0,(0,(0,0))))),((0,0),0))).1.2.2.2.1) ((v36.getD (Int.toNat v38) ((0,(0,(0,(0,(0,0))))),((0,0),0))).1.2.2.2.2.1) ((v36.getD (Int.toNat v38) ((0,(0,(0,(0,(0,0))))),((0,0),0))).1.2.2.2.2.2) ((v36.getD (Int.toNat v38) ((0,(0,(0,(0,(0,0))))),((0,0),0))).2.1.1) ((v36.getD (Int.toNat v38) ((0,(0,(0,(0,(0,0))))),((0,0),0))).2.1.2) ((v36.getD (Int.toNat v38) ((0,(0,(0,(0,(0,0))))),((0,0),0))).2.2))
  (none))
 (some ((((true,()),()),())))
noncomputable def C121_l4 (n:Nat):Nat→Int→(List OB9)→Int→Int→(List OB9)→Bool→Int→Int→RT1
 | 0,_,_,_,_,_,_,_,_=>none
 | k+1,v38,v36,v37,b0_0,b0_1,b0_2,b0_3,b0_4=>C121_t4 n (C121_l8 n (C121_l4 n k)) (C121_l4 n k) v38 v36 v37 b0_0 b0_1 b0_2 b0_3 b0_4
noncomputable def C121_t (n:Nat) (h4:Nat→Int→(List OB9)→Int→Int→(List OB9)→Bool→Int→Int→RT1) (a0:(Int)×((List OB9)×((Bool)×FQ9))):RT1 :=
 (C366 n a0.1 1 6).bind fun r0 =>
 cond (!r0.1.1.1)
 (some ((((false,()),()),())))
 (cond (decide (((a0.2.1.length:Nat):Int) > 24))
  (some ((((false,()),()),())))
  ((C172 n ((a0.2.2.2.1,a0.2.2.2.2))).bind fun r1 =>
   cond (!r1.1.1.1)
   (some ((((false,()),()),())))
   (cond (!a0.2.2.1)
    (cond ((a0.2.2.2.1 != 0))
     (some ((((false,()),()),())))
     (h4 n 0 a0.2.1 (((a0.2.1.length:Nat):Int)) a0.1 a0.2.1 a0.2.2.1 a0.2.2.2.1 a0.2.2.2.2))
    (h4 n 0 a0.2.1 (((a0.2.1.length:Nat):Int)) a0.1 a0.2.1 a0.2.2.1 a0.2.2.2.1 a0.2.2.2.2))))
noncomputable def C121 (n:Nat) (a0:(Int)×((List OB9)×((Bool)×FQ9))):RT1:=C121_t n (C121_l4 n) a0
noncomputable def C360_t (n:Nat) (a0:Int) (a1:Int):RT2 :=
 cond (decide (a1 < 0))
 ((C429 n ((IntKind.wrap .i64 (0 - a0))) ((IntKind.wrap .i64 (0 - a1)))).bind fun r0 =>
  cond ((r0.1.1.1 != 0))
  (cond ((r0.1.1.1 != 0))
   ((C172 n (((IntKind.wrap .i64 (Int.tdiv (IntKind.wrap .i64 (0 - a0)) r0.1.1.1)),(IntKind.wrap .i64 (Int.tdiv (IntKind.wrap .i64 (0 - a1)) r0.1.1.1))))).bind fun r1 =>
    cond (!r1.1.1.1)
    (some (((((0,0),()),((false,()),())),())))
    (some ((((((IntKind.wrap .i64 (Int.tdiv (IntKind.wrap .i64 (0 - a0)) r0.1.1.1)),(IntKind.wrap .i64 (Int.tdiv (IntKind.wrap .i64 (0 - a1)) r0.1.1.1))),()),((true,()),())),()))))
   (none))
  (none))
 ((C429 n a0 a1).bind fun r2 =>
  cond ((r2.1.1.1 != 0))
  (cond ((r2.1.1.1 != 0))
   ((C172 n (((IntKind.wrap .i64 (Int.tdiv a0 r2.1.1.1)),(IntKind.wrap .i64 (Int.tdiv a1 r2.1.1.1))))).bind fun r3 =>
    cond (!r3.1.1.1)
    (some (((((0,0),()),((false,()),())),())))
    (some ((((((IntKind.wrap .i64 (Int.tdiv a0 r2.1.1.1)),(IntKind.wrap .i64 (Int.tdiv a1 r2.1.1.1))),()),((true,()),())),()))))
   (none))
  (none))
noncomputable def C360 (n:Nat) (a0:Int) (a1:Int):RT2:=C360_t n a0 a1
noncomputable def C426_t (n:Nat):RT3 :=
 some (((((0,1),()),()),()))
noncomputable def C426 (n:Nat):RT3:=C426_t n
noncomputable def C181_t (n:Nat) (a1:Int) (a2:Int) (b0:Bool):RT4 :=
 (C360 n a1 a2).bind fun r0 =>
 cond (!r0.1.2.1.1)
 ((C426 n).bind fun r1 =>
  some (((((r1.1.1.1.1,r1.1.1.1.2),()),()),(true,()))))
 (some (((((r0.1.1.1.1,r0.1.1.1.2),()),()),(b0,()))))
noncomputable def C181 (n:Nat) (a1:Int) (a2:Int) (b0:Bool):RT4:=C181_t n a1 a2 b0
noncomputable def C234_t (n:Nat) (a1:(Int)×(Int)) (a2:(Int)×(Int)) (b0:Bool):RT4 :=
 (C181 n ((IntKind.wrap .i64 ((IntKind.wrap .i64 (a1.1*a2.2))+(IntKind.wrap .i64 (a2.1*a1.2))))) ((IntKind.wrap .i64 (a1.2*a2.2))) b0).bind fun r0 =>
 some (((((r0.1.1.1.1,r0.1.1.1.2),()),()),(r0.2.1,())))
noncomputable def C234 (n:Nat) (a1:(Int)×(Int)) (a2:(Int)×(Int)) (b0:Bool):RT4:=C234_t n a1 a2 b0
noncomputable def C236_t (n:Nat) (a1:(Int)×(Int)) (a2:(Int)×(Int)) (b0:Bool):RT4 :=
 (C181 n ((IntKind.wrap .i64 (a1.1*a2.1))) ((IntKind.wrap .i64 (a1.2*a2.2))) b0).bind fun r0 =>
 some (((((r0.1.1.1.1,r0.1.1.1.2),()),()),(r0.2.1,())))
noncomputable def C236 (n:Nat) (a1:(Int)×(Int)) (a2:(Int)×(Int)) (b0:Bool):RT4:=C236_t n a1 a2 b0
noncomputable def C430_t (n:Nat) (a0:Int):RT3 :=
 some (((((a0,1),()),()),()))
noncomputable def C430 (n:Nat) (a0:Int):RT3:=C430_t n a0
noncomputable def C139_t (n:Nat) (a0:Int) (a1:Int):RT5 :=
 some (((((IntKind.wrap .u64 ((IntKind.wrap .u64 ((IntKind.wrap .u64 ((shrInt .u64 a0 32)*(shrInt .u64 a1 32)))+(shrInt .u64 (IntKind.wrap .u64 ((IntKind.wrap .u64 ((shrInt .u64 a0 32)*(andInt .u64 a1 4294967295)))+(shrInt .u64 (IntKind.wrap .u64 ((andInt .u64 a0 4294967295)*(andInt .u64 a1 4294967295))) 32))) 32)))+(shrInt .u64 (IntKind.wrap .u64 ((andInt .u64 (IntKind.wrap .u64 ((IntKind.wrap .u64 ((shrInt .u64 a0 32)*(andInt .u64 a1 4294967295)))+(shrInt .u64 (IntKind.wrap .u64 ((andInt .u64 a0 4294967295)*(andInt .u64 a1 4294967295))) 32))) 4294967295)+(IntKind.wrap .u64 ((andInt .u64 a0 4294967295)*(shrInt .u64 a1 32))))) 32))),()),(((IntKind.wrap .u64 (a0*a1)),()),())),()))
noncomputable def C139 (n:Nat) (a0:Int) (a1:Int):RT5:=C139_t n a0 a1
noncomputable def C263_t (n:Nat) (a0:Int) (a1:Int):RT5 :=
 (C139 n a0 a1).bind fun r0 =>
 some ((((r0.1.1.1,()),((r0.1.2.1.1,()),())),()))
noncomputable def C263 (n:Nat) (a0:Int) (a1:Int):RT5:=C263_t n a0 a1
noncomputable def C22_t8 (n:Nat) (g8:Int→(List FQ9)→RT6) (v8:Int) (b0:List FQ9):RT6 :=
 cond (decide (v8 < ((b0.length:Nat):Int)))
 (cond (((decide (0≤v8)&&decide (v8≤((b0.length:Nat):Int)))&&decide (((b0.length:Nat):Int)≤((b0.length:Nat):Int))))
  (cond ((decide (0≤v8)&&decide (v8≤((b0.length:Nat):Int))))
   (g8 ((IntKind.wrap .i64 (v8+(((copyN ((b0.drop (Int.toNat v8)).take ((Int.toNat ((b0.length:Nat):Int)) - (Int.toNat v8))).length ((b0.drop 0).take ((Int.toNat v8) - (Int.toNat 0)))):Nat):Int)))) ((copyL b0 (Int.toNat v8) ((b0.drop (Int.toNat v8)).take ((Int.toNat ((b0.length:Nat):Int)) - (Int.toNat v8))).length ((b0.drop 0).take ((Int.toNat v8) - (Int.toNat 0))))))
   (none))
  (none))
 (some ((((b0,()),()),())))
noncomputable def C22_l8 (n:Nat):Nat→Int→(List FQ9)→RT6
 | 0,_,_=>none
 | k+1,v8,b0=>C22_t8 n (C22_l8 n k) v8 b0
noncomputable def C22_t (n:Nat) (h8:Nat→Int→(List FQ9)→RT6) (a0:List FQ9) (a1:Int):RT6 :=
 cond (decide (a1 < 0))
 (none)
 ((C263 n ((IntKind.wrap .u64 ((a0.length:Nat):Int))) ((IntKind.wrap .u64 a1))).bind fun r0 =>
  cond (decide (r0.1.1.1 > 0))
  (none)
  (cond (decide (r0.1.2.1.1 > 9223372036854775807))
   (none)
   (cond (((((IntKind.wrap .i64 r0.1.2.1.1)==(IntKind.wrap .i64 r0.1.2.1.1))&&decide (0≤(IntKind.wrap .i64 r0.1.2.1.1)))&&decide (((Int.toNat (IntKind.wrap .i64 r0.1.2.1.1))*17)≤70368744177664)))
    (h8 n ((((copyN (List.replicate (Int.toNat (IntKind.wrap .i64 r0.1.2.1.1)) ((0,0):(Int)×(Int))).length a0):Nat):Int)) ((copyL (List.replicate (Int.toNat (IntKind.wrap .i64 r0.1.2.1.1)) ((0,0):(Int)×(Int))) 0 (List.replicate (Int.toNat (IntKind.wrap .i64 r0.1.2.1.1)) ((0,0):(Int)×(Int))).length a0)))
    (none))))
noncomputable def C22 (n:Nat) (a0:List FQ9) (a1:Int):RT6:=C22_t n (C22_l8 n) a0 a1
noncomputable def C95_t11 (n:Nat) (g3:Int→Int→Bool→Int→(List OB9)→Bool→Int→Int→(List FQ9)→(List Nat)→(List (List FQ9))→RT7) (g7:Int→Int→Int→Int→Int→Bool→(List FQ9)→Int→(List OB9)→Bool→Int→Int→(List FQ9)→(List Nat)→(List (List FQ9))→RT7) (g11:Int→Int→Int→Int→(List OB9)→Int→Int→Int→Int→Int→Bool→Int→(List OB9)→Bool→Int→Int→(List FQ9)→(List Nat)→(List (List FQ9))→(List FQ9)→RT7) (v33:Int) (v10:Int) (v8:Int) (v11:Int) (v31:List OB9) (v20:Int) (v21:Int) (v26:Int) (v27:Int) (v32:Int) (b0:Bool) (b1_0:Int) (b1_1:List OB9) (b1_2:Bool) (b1_3:Int) (b1_4:Int) (b2:List FQ9) (b3p:List Nat) (b3i:List (List FQ9)) (b4:List FQ9):RT7 :=
 cond (decide (v33 < v32))
 (cond ((decide (0≤v33)&&decide (v33 < ((v31.length:Nat):Int))))
  (cond ((decide (0≤v8)&&decide (v8 < 6)))
   (cond ((decide (0≤v10)&&decide (v10 < 6)))
    (g11 ((IntKind.wrap .i64 (v33+1))) v10 v8 ((IntKind.wrap .i64 (v11+(IntKind.wrap .i64 ((IntKind.wrap .i64 ((v31.getD (Int.toNat v33) ((0,(0,(0,(0,(0,0))))),((0,0),0))).2.2*(IntKind.wrap .i64 (cond (Nat.beq (Int.toNat v8) 0) (v31.getD (Int.toNat v33) ((0,(0,(0,(0,(0,0))))),((0,0),0))).1.1 (cond (Nat.beq ((Int.toNat v8) - 1) 0) (v31.getD (Int.toNat v33) ((0,(0,(0,(0,(0,0))))),((0,0),0))).1.2.1 (cond (Nat.beq (((Int.toNat v8) - 1) - 1) 0) (v31.getD (Int.toNat v33) ((0,(0,(0,(0,(0,0))))),((0,0),0))).1.2.2.1 (cond (Nat.beq ((((Int.toNat v8) - 1) - 1) - 1) 0) (v31.getD (Int.toNat v33) ((0,(0,(0,(0,(0,0))))),((0,0),0))).1.2.2.2.1 (cond (Nat.beq (((((Int.toNat v8) - 1) - 1) - 1) - 1) 0) (v31.getD (Int.toNat v33) ((0,(0,(0,(0,(0,0))))),((0,0),0))).1.2.2.2.2.1 (cond (Nat.beq ((((((Int.toNat v8) - 1) - 1) - 1) - 1) - 1) 0) (v31.getD (Int.toNat v33) ((0,(0,(0,(0,(0,0))))),((0,0),0))).1.2.2.2.2.2 0)))))))))*(IntKind.wrap .i64 (cond (Nat.beq (Int.toNat v10) 0) (v31.getD (Int.toNat v33) ((0,(0,(0,(0,(0,0))))),((0,0),0))).1.1 (cond (Nat.beq ((Int.toNat v10) - 1) 0) (v31.getD (Int.toNat v33) ((0,(0,(0,(0,(0,0))))),((0,0),0))).1.2.1 (cond (Nat.beq (((Int.toNat v10) - 1) - 1) 0) (v31.getD (Int.toNat v33) ((0,(0,(0,(0,(0,0))))),((0,0),0))).1.2.2.1 (cond (Nat.beq ((((Int.toNat v10) - 1) - 1) - 1) 0) (v31.getD (Int.toNat v33) ((0,(0,(0,(0,(0,0))))),((0,0),0))).1.2.2.2.1 (cond (Nat.beq (((((Int.toNat v10) - 1) - 1) - 1) - 1) 0) (v31.getD (Int.toNat v33) ((0,(0,(0,(0,(0,0))))),((0,0),0))).1.2.2.2.2.1 (cond (Nat.beq ((((((Int.toNat v10) - 1) - 1) - 1) - 1) - 1) 0) (v31.getD (Int.toNat v33) ((0,(0,(0,(0,(0,0))))),((0,0),0))).1.2.2.2.2.2 0)))))))))))) v31 v20 v21 v26 v27 v32 b0 b1_0 b1_1 b1_2 b1_3 b1_4 b2 b3p b3i b4)
    (none))
   (none))
  (none))
 ((C430 n v11).bind fun r0 =>
  cond (decide (((b4.length+((r0.1.1.1.1,r0.1.1.1.2) :: []).length)*17)≤70368744177664))
  (g7 v8 ((IntKind.wrap .i64 (v27+1))) v20 v21 v26 b0 ((b4++((r0.1.1.1.1,r0.1.1.1.2) :: []))) b1_0 b1_1 b1_2 b1_3 b1_4 b2 b3p b3i)
  (none))
noncomputable def C95_l11 (n:Nat) (g3:Int→Int→Bool→Int→(List OB9)→Bool→Int→Int→(List FQ9)→(List Nat)→(List (List FQ9))→RT7) (g7:Int→Int→Int→Int→Int→Bool→(List FQ9)→Int→(List OB9)→Bool→Int→Int→(List FQ9)→(List Nat)→(List (List FQ9))→RT7):Nat→Int→Int→Int→Int→(List OB9)→Int→Int→Int→Int→Int→Bool→Int→(List OB9)→Bool→Int→Int→(List FQ9)→(List Nat)→(List (List FQ9))→(List FQ9)→RT7
 | 0,_,_,_,_,_,_,_,_,_,_,_,_,_,_,_,_,_,_,_,_=>none
 | k+1,v33,v10,v8,v11,v31,v20,v21,v26,v27,v32,b0,b1_0,b1_1,b1_2,b1_3,b1_4,b2,b3p,b3i,b4=>C95_t11 n g3 g7 (C95_l11 n g3 g7 k) v33 v10 v8 v11 v31 v20 v21 v26 v27 v32 b0 b1_0 b1_1 b1_2 b1_3 b1_4 b2 b3p b3i b4
noncomputable def C95_t19 (n:Nat) (g3:Int→Int→Bool→Int→(List OB9)→Bool→Int→Int→(List FQ9)→(List Nat)→(List (List FQ9))→RT7) (g19:Int→Int→(List OB9)→Int→Int→Int→Bool→Int→Int→Int→(List OB9)→Bool→Int→Int→(List FQ9)→(List Nat)→(List (List FQ9))→(List FQ9)→RT7) (v64:Int) (v8:Int) (v62:List OB9) (v20:Int) (v21:Int) (v63:Int) (b0:Bool) (b1_0:Int) (b1_1:Int) (b2_0:Int) (b2_1:List OB9) (b2_2:Bool) (b2_3:Int) (b2_4:Int) (b3:List FQ9) (b4p:List Nat) (b4i:List (List FQ9)) (b5:List FQ9):RT7 :=
 cond (decide (v64 < v63))
 (cond ((decide (0≤v64)&&decide (v64 < ((v62.length:Nat):Int))))
  (cond ((decide (0≤v8)&&decide (v8 < 6)))
   ((C430 n ((IntKind.wrap .i64 ((v62.getD (Int.toNat v64) ((0,(0,(0,(0,(0,0))))),((0,0),0))).2.2*(IntKind.wrap .i64 (cond (Nat.beq (Int.toNat v8) 0) (v62.getD (Int.toNat v64) ((0,(0,(0,(0,(0,0))))),((0,0),0))).1.1 (cond (Nat.beq ((Int.toNat v8) - 1) 0) (v62.getD (Int.toNat v64) ((0,(0,(0,(0,(0,0))))),((0,0),0))).1.2.1 (cond (Nat.beq (((Int.toNat v8) - 1) - 1) 0) (v62.getD (Int.toNat v64) ((0,(0,(0,(0,(0,0))))),((0,0),0))).1.2.2.1 (cond (Nat.beq ((((Int.toNat v8) - 1) - 1) - 1) 0) (v62.getD (Int.toNat v64) ((0,(0,(0,(0,(0,0))))),((0,0),0))).1.2.2.2.1 (cond (Nat.beq (((((Int.toNat v8) - 1) - 1) - 1) - 1) 0) (v62.getD (Int.toNat v64) ((0,(0,(0,(0,(0,0))))),((0,0),0))).1.2.2.2.2.1 (cond (Nat.beq ((((((Int.toNat v8) - 1) - 1) - 1) - 1) - 1) 0) (v62.getD (Int.toNat v64) ((0,(0,(0,(0,(0,0))))),((0,0),0))).1.2.2.2.2.2 0))))))))))).bind fun r2 =>
    (C236 n ((r2.1.1.1.1,r2.1.1.1.2)) (((v62.getD (Int.toNat v64) ((0,(0,(0,(0,(0,0))))),((0,0),0))).2.1.1,(v62.getD (Int.toNat v64) ((0,(0,(0,(0,(0,0))))),((0,0),0))).2.1.2)) b0).bind fun r3 =>
    (C234 n ((b1_0,b1_1)) ((r3.1.1.1.1,r3.1.1.1.2)) r3.2.1).bind fun r4 =>
    g19 ((IntKind.wrap .i64 (v64+1))) v8 v62 v20 v21 v63 r4.2.1 r4.1.1.1.1 r4.1.1.1.2 b2_0 b2_1 b2_2 b2_3 b2_4 b3 b4p b4i b5)
   (none))
  (none))
 (cond b2_2
  ((C430 n 1).bind fun r5 =>
   cond (decide (((b5.length+((r5.1.1.1.1,r5.1.1.1.2) :: []).length)*17)≤70368744177664))
   (cond (decide (((b4p.length+1)*25)≤70368744177664))
    (cond (decide (((b3.length+((b1_0,b1_1) :: []).length)*17)≤70368744177664))
     (g3 ((IntKind.wrap .i64 (v21+1))) v20 b0 b2_0 b2_1 b2_2 b2_3 b2_4 ((b3++((b1_0,b1_1) :: []))) ((b4p++(b4i.length :: []))) ((b4i++((b5++((r5.1.1.1.1,r5.1.1.1.2) :: [])) :: []))))
     (none))
    (none))
   (none))
  (cond (decide (((b4p.length+1)*25)≤70368744177664))
   (cond (decide (((b3.length+((b1_0,b1_1) :: []).length)*17)≤70368744177664))
    (g3 ((IntKind.wrap .i64 (v21+1))) v20 b0 b2_0 b2_1 b2_2 b2_3 b2_4 ((b3++((b1_0,b1_1) :: []))) ((b4p++(b4i.length :: []))) ((b4i++(b5 :: []))))
    (none))
   (none)))
noncomputable def C95_l19 (n:Nat) (g3:Int→Int→Bool→Int→(List OB9)→Bool→Int→Int→(List FQ9)→(List Nat)→(List (List FQ9))→RT7):Nat→Int→Int→(List OB9)→Int→Int→Int→Bool→Int→Int→Int→(List OB9)→Bool→Int→Int→(List FQ9)→(List Nat)→(List (List FQ9))→(List FQ9)→RT7
 | 0,_,_,_,_,_,_,_,_,_,_,_,_,_,_,_,_,_,_=>none
 | k+1,v64,v8,v62,v20,v21,v63,b0,b1_0,b1_1,b2_0,b2_1,b2_2,b2_3,b2_4,b3,b4p,b4i,b5=>C95_t19 n g3 (C95_l19 n g3 k) v64 v8 v62 v20 v21 v63 b0 b1_0 b1_1 b2_0 b2_1 b2_2 b2_3 b2_4 b3 b4p b4i b5
noncomputable def C95_t7 (n:Nat) (h11:Nat→Int→Int→Int→Int→(List OB9)→Int→Int→Int→Int→Int→Bool→Int→(List OB9)→Bool→Int→Int→(List FQ9)→(List Nat)→(List (List FQ9))→(List FQ9)→RT7) (h19:Nat→Int→Int→(List OB9)→Int→Int→Int→Bool→Int→Int→Int→(List OB9)→Bool→Int→Int→(List FQ9)→(List Nat)→(List (List FQ9))→(List FQ9)→RT7) (g3:Int→Int→Bool→Int→(List OB9)→Bool→Int→Int→(List FQ9)→(List Nat)→(List (List FQ9))→RT7) (g7:Int→Int→Int→Int→Int→Bool→(List FQ9)→Int→(List OB9)→Bool→Int→Int→(List FQ9)→(List Nat)→(List (List FQ9))→RT7) (v8:Int) (v27:Int) (v20:Int) (v21:Int) (v26:Int) (b0:Bool) (b1:List FQ9) (b2_0:Int) (b2_1:List OB9) (b2_2:Bool) (b2_3:Int) (b2_4:Int) (b3:List FQ9) (b4p:List Nat) (b4i:List (List FQ9)):RT7 :=
 cond (decide (v27 < v26))
 (h11 n 0 v27 v8 0 b2_1 v20 v21 v26 v27 (((b2_1.length:Nat):Int)) b0 b2_0 b2_1 b2_2 b2_3 b2_4 b3 b4p b4i b1)
 ((C426 n).bind fun r1 =>
  h19 n 0 v8 b2_1 v20 v21 (((b2_1.length:Nat):Int)) b0 r1.1.1.1.1 r1.1.1.1.2 b2_0 b2_1 b2_2 b2_3 b2_4 b3 b4p b4i b1)
noncomputable def C95_l7 (n:Nat) (g3:Int→Int→Bool→Int→(List OB9)→Bool→Int→Int→(List FQ9)→(List Nat)→(List (List FQ9))→RT7):Nat→Int→Int→Int→Int→Int→Bool→(List FQ9)→Int→(List OB9)→Bool→Int→Int→(List FQ9)→(List Nat)→(List (List FQ9))→RT7
 | 0,_,_,_,_,_,_,_,_,_,_,_,_,_,_,_=>none
 | k+1,v8,v27,v20,v21,v26,b0,b1,b2_0,b2_1,b2_2,b2_3,b2_4,b3,b4p,b4i=>C95_t7 n (C95_l11 n g3 (C95_l7 n g3 k)) (C95_l19 n g3) g3 (C95_l7 n g3 k) v8 v27 v20 v21 v26 b0 b1 b2_0 b2_1 b2_2 b2_3 b2_4 b3 b4p b4i
noncomputable def C95_t3 (n:Nat) (h7:Nat→Int→Int→Int→Int→Int→Bool→(List FQ9)→Int→(List OB9)→Bool→Int→Int→(List FQ9)→(List Nat)→(List (List FQ9))→RT7) (g3:Int→Int→Bool→Int→(List OB9)→Bool→Int→Int→(List FQ9)→(List Nat)→(List (List FQ9))→RT7) (v21:Int) (v20:Int) (b0:Bool) (b1_0:Int) (b1_1:List OB9) (b1_2:Bool) (b1_3:Int) (b1_4:Int) (b2:List FQ9) (b3p:List Nat) (b3i:List (List FQ9)):RT7 :=
 cond (decide (v21 < v20))
 (h7 n v21 0 v20 v21 b1_0 b0 [] b1_0 b1_1 b1_2 b1_3 b1_4 b2 b3p b3i)
 (cond b1_2
  ((C430 n 1).bind fun r6 =>
   (C22 n (((r6.1.1.1.1,r6.1.1.1.2) :: [])) b1_0).bind fun r7 =>
   (C426 n).bind fun r8 =>
   cond (decide (((r7.1.1.1.length+((r8.1.1.1.1,r8.1.1.1.2) :: []).length)*17)≤70368744177664))
   (cond (decide (((b3p.length+1)*25)≤70368744177664))
    (cond (decide (((b2.length+((b1_3,b1_4) :: []).length)*17)≤70368744177664))
     (some ((((((b3p++(b3i.length :: [])),(b3i++((r7.1.1.1++((r8.1.1.1.1,r8.1.1.1.2) :: [])) :: []))),()),(((b2++((b1_3,b1_4) :: [])),()),())),(b0,()))))
     (none))
    (none))
   (none))
  (some (((((b3p,b3i),()),((b2,()),())),(b0,())))))
noncomputable def C95_l3 (n:Nat):Nat→Int→Int→Bool→Int→(List OB9)→Bool→Int→Int→(List FQ9)→(List Nat)→(List (List FQ9))→RT7
 | 0,_,_,_,_,_,_,_,_,_,_,_=>none
 | k+1,v21,v20,b0,b1_0,b1_1,b1_2,b1_3,b1_4,b2,b3p,b3i=>C95_t3 n (C95_l7 n (C95_l3 n k)) (C95_l3 n k) v21 v20 b0 b1_0 b1_1 b1_2 b1_3 b1_4 b2 b3p b3i
noncomputable def C95_t (n:Nat) (h3:Nat→Int→Int→Bool→Int→(List OB9)→Bool→Int→Int→(List FQ9)→(List Nat)→(List (List FQ9))→RT7) (a1:(Int)×((List OB9)×((Bool)×FQ9))) (b0:Bool):RT7 :=
 h3 n 0 a1.1 b0 a1.1 a1.2.1 a1.2.2.1 a1.2.2.2.1 a1.2.2.2.2 [] [] []
noncomputable def C95 (n:Nat) (a1:(Int)×((List OB9)×((Bool)×FQ9))) (b0:Bool):RT7:=C95_t n (C95_l3 n) a1 b0
noncomputable def C225_t (n:Nat) (a0:(Int)×((List OB9)×((Bool)×FQ9))):RT8 :=
 (C121 n ((a0.1,(a0.2.1,(a0.2.2.1,(a0.2.2.2.1,a0.2.2.2.2)))))).bind fun r0 =>
 cond (!r0.1.1.1)
 (some ((((([],[]),()),(([],()),((1,()),()))),())))
 ((C95 n ((a0.1,(a0.2.1,(a0.2.2.1,(a0.2.2.2.1,a0.2.2.2.2))))) false).bind fun r1 =>
  cond r1.2.1
  (some ((((([],[]),()),(([],()),((3,()),()))),())))
  (some (((((r1.1.1.1.1,r1.1.1.1.2),()),((r1.1.2.1.1,()),((0,()),()))),()))))
noncomputable def C225 (n:Nat) (a0:(Int)×((List OB9)×((Bool)×FQ9))):RT8:=C225_t n a0
noncomputable def C125_t (n:Nat) (a0:(Int)×(Int)):RT1 :=
 (C172 n ((a0.1,a0.2))).bind fun r0 =>
 some (((((!r0.1.1.1),()),()),()))
noncomputable def C125 (n:Nat) (a0:(Int)×(Int)):RT1:=C125_t n a0
noncomputable def C6_t2 (n:Nat) (g2:Int→(List FQ9)→Int→RT0) (v8:Int) (v0:List FQ9) (v7:Int):RT0 :=
 cond (decide (v8 < v7))
 (cond ((decide (0≤v8)&&decide (v8 < ((v0.length:Nat):Int))))
  ((C125 n (((v0.getD (Int.toNat v8) (0,0)).1,(v0.getD (Int.toNat v8) (0,0)).2))).bind fun r0 =>
   cond r0.1.1.1
   (some ((((v8,()),()),())))
   (g2 ((IntKind.wrap .i64 (v8+1))) v0 v7))
  (none))
 (some (((((-1),()),()),())))
noncomputable def C6_l2 (n:Nat):Nat→Int→(List FQ9)→Int→RT0
 | 0,_,_,_=>none
 | k+1,v8,v0,v7=>C6_t2 n (C6_l2 n k) v8 v0 v7
noncomputable def C6_t (n:Nat) (h2:Nat→Int→(List FQ9)→Int→RT0) (a0:List FQ9):RT0 :=
 h2 n 0 a0 (((a0.length:Nat):Int))
noncomputable def C6 (n:Nat) (a0:List FQ9):RT0:=C6_t n (C6_l2 n) a0
noncomputable def C3_t (n:Nat) (a0:List FQ9):RT1 :=
 (C6 n a0).bind fun r0 =>
 some ((((decide (r0.1.1.1≥0),()),()),()))
noncomputable def C3 (n:Nat) (a0:List FQ9):RT1:=C3_t n a0
noncomputable def C233_t (n:Nat) (a0:List FQ9):RT1 :=
 (C3 n a0).bind fun r0 =>
 some (((((!r0.1.1.1),()),()),()))
noncomputable def C233 (n:Nat) (a0:List FQ9):RT1:=C233_t n a0
noncomputable def C235_t (n:Nat) (a1:(Int)×(Int)) (a2:(Int)×(Int)) (b0:Bool):RT4 :=
 cond ((a2.1==0))
 ((C426 n).bind fun r0 =>
  some (((((r0.1.1.1.1,r0.1.1.1.2),()),()),(true,()))))
 ((C181 n ((IntKind.wrap .i64 (a1.1*a2.2))) ((IntKind.wrap .i64 (a1.2*a2.1))) b0).bind fun r1 =>
  some (((((r1.1.1.1.1,r1.1.1.1.2),()),()),(r1.2.1,()))))
noncomputable def C235 (n:Nat) (a1:(Int)×(Int)) (a2:(Int)×(Int)) (b0:Bool):RT4:=C235_t n a1 a2 b0
noncomputable def C238_t (n:Nat) (a1:(Int)×(Int)) (a2:(Int)×(Int)) (b0:Bool):RT4 :=
 (C181 n ((IntKind.wrap .i64 ((IntKind.wrap .i64 (a1.1*a2.2)) - (IntKind.wrap .i64 (a2.1*a1.2))))) ((IntKind.wrap .i64 (a1.2*a2.2))) b0).bind fun r0 =>
 some (((((r0.1.1.1.1,r0.1.1.1.2),()),()),(r0.2.1,())))
noncomputable def C238 (n:Nat) (a1:(Int)×(Int)) (a2:(Int)×(Int)) (b0:Bool):RT4:=C238_t n a1 a2 b0
noncomputable def C51_t14 (n:Nat) (g9:Int→Int→Int→Int→Bool→(List Nat)→(List (List FQ9))→(List FQ9)→RT9) (g14:Int→Int→Int→Int→Int→Int→Bool→(List Nat)→(List (List FQ9))→(List FQ9)→Int→Int→RT9) (v14:Int) (v4:Int) (v12:Int) (v3:Int) (v66:Int) (v67:Int) (b0:Bool) (b1p:List Nat) (b1i:List (List FQ9)) (b2:List FQ9) (b3_0:Int) (b3_1:Int):RT9 :=
 cond ((decide (0≤v12)&&decide (v12 < ((b1p.length:Nat):Int))))
 (cond (decide (v14 < (((b1i.getD (b1p.getD (Int.toNat v12) 0) []).length:Nat):Int)))
  (cond ((decide (0≤v12)&&decide (v12 < ((b1p.length:Nat):Int))))
   (cond ((decide (0≤v12)&&decide (v12 < ((b1p.length:Nat):Int))))
    (cond ((decide (0≤v14)&&decide (v14 < (((b1i.getD (b1p.getD (Int.toNat v12) 0) []).length:Nat):Int))))
     (cond ((decide (0≤v4)&&decide (v4 < ((b1p.length:Nat):Int))))
      (cond ((decide (0≤v14)&&decide (v14 < (((b1i.getD (b1p.getD (Int.toNat v4) 0) []).length:Nat):Int))))
       ((C236 n ((b3_0,b3_1)) ((((b1i.getD (b1p.getD (Int.toNat v4) 0) []).getD (Int.toNat v14) (0,0)).1,((b1i.getD (b1p.getD (Int.toNat v4) 0) []).getD (Int.toNat v14) (0,0)).2)) b0).bind fun r1 =>
        (C238 n ((((b1i.getD (b1p.getD (Int.toNat v12) 0) []).getD (Int.toNat v14) (0,0)).1,((b1i.getD (b1p.getD (Int.toNat v12) 0) []).getD (Int.toNat v14) (0,0)).2)) ((r1.1.1.1.1,r1.1.1.1.2)) r1.2.1).bind fun r2 =>
        cond ((decide (0≤v14)&&decide (v14 < (((b1i.getD (b1p.getD (Int.toNat v12) 0) []).length:Nat):Int))))
        (g14 ((IntKind.wrap .i64 (v14+1))) v4 v12 v3 v66 v67 r2.2.1 b1p ((b1i.set (b1p.getD (Int.toNat v12) 0) ((b1i.getD (b1p.getD (Int.toNat v12) 0) []).set (Int.toNat v14) (r2.1.1.1.1,r2.1.1.1.2)))) b2 b3_0 b3_1)
        (none))
       (none))
      (none))
     (none))
    (none))
   (none))
  (cond ((decide (0≤v12)&&decide (v12 < ((b2.length:Nat):Int))))
   (cond ((decide (0≤v4)&&decide (v4 < ((b2.length:Nat):Int))))
    ((C236 n ((b3_0,b3_1)) (((b2.getD (Int.toNat v4) (0,0)).1,(b2.getD (Int.toNat v4) (0,0)).2)) b0).bind fun r3 =>
     (C238 n (((b2.getD (Int.toNat v12) (0,0)).1,(b2.getD (Int.toNat v12) (0,0)).2)) ((r3.1.1.1.1,r3.1.1.1.2)) r3.2.1).bind fun r4 =>
     cond ((decide (0≤v12)&&decide (v12 < ((b2.length:Nat):Int))))
     (g9 ((IntKind.wrap .i64 (v67+1))) v4 v3 v66 r4.2.1 b1p b1i ((b2.set (Int.toNat v12) (r4.1.1.1.1,r4.1.1.1.2))))
     (none))
    (none))
   (none)))
 (none)
noncomputable def C51_l14 (n:Nat) (g9:Int→Int→Int→Int→Bool→(List Nat)→(List (List FQ9))→(List FQ9)→RT9):Nat→Int→Int→Int→Int→Int→Int→Bool→(List Nat)→(List (List FQ9))→(List FQ9)→Int→Int→RT9
 | 0,_,_,_,_,_,_,_,_,_,_,_,_=>none
 | k+1,v14,v4,v12,v3,v66,v67,b0,b1p,b1i,b2,b3_0,b3_1=>C51_t14 n g9 (C51_l14 n g9 k) v14 v4 v12 v3 v66 v67 b0 b1p b1i b2 b3_0 b3_1
noncomputable def C51_t9 (n:Nat) (h14:Nat→Int→Int→Int→Int→Int→Int→Bool→(List Nat)→(List (List FQ9))→(List FQ9)→Int→Int→RT9) (g9:Int→Int→Int→Int→Bool→(List Nat)→(List (List FQ9))→(List FQ9)→RT9) (v67:Int) (v4:Int) (v3:Int) (v66:Int) (b0:Bool) (b1p:List Nat) (b1i:List (List FQ9)) (b2:List FQ9):RT9 :=
 cond (decide (v67 < v66))
 (cond ((v67==v4))
  (g9 ((IntKind.wrap .i64 (v67+1))) v4 v3 v66 b0 b1p b1i b2)
  (cond ((decide (0≤v67)&&decide (v67 < ((b1p.length:Nat):Int))))
   (cond ((decide (0≤v3)&&decide (v3 < (((b1i.getD (b1p.getD (Int.toNat v67) 0) []).length:Nat):Int))))
    (cond ((((b1i.getD (b1p.getD (Int.toNat v67) 0) []).getD (Int.toNat v3) (0,0)).1==0))
     (g9 ((IntKind.wrap .i64 (v67+1))) v4 v3 v66 b0 b1p b1i b2)
     (cond b0
      (g9 ((IntKind.wrap .i64 (v67+1))) v4 v3 v66 b0 b1p b1i b2)
      (cond ((decide (0≤v67)&&decide (v67 < ((b1p.length:Nat):Int))))
       (cond ((decide (0≤v3)&&decide (v3 < (((b1i.getD (b1p.getD (Int.toNat v67) 0) []).length:Nat):Int))))
        (cond ((decide (0≤v4)&&decide (v4 < ((b1p.length:Nat):Int))))
         (cond ((decide (0≤v3)&&decide (v3 < (((b1i.getD (b1p.getD (Int.toNat v4) 0) []).length:Nat):Int))))
          ((C235 n ((((b1i.getD (b1p.getD (Int.toNat v67) 0) []).getD (Int.toNat v3) (0,0)).1,((b1i.getD (b1p.getD (Int.toNat v67) 0) []).getD (Int.toNat v3) (0,0)).2)) ((((b1i.getD (b1p.getD (Int.toNat v4) 0) []).getD (Int.toNat v3) (0,0)).1,((b1i.getD (b1p.getD (Int.toNat v4) 0) []).getD (Int.toNat v3) (0,0)).2)) b0).bind fun r0 =>
           h14 n v3 v4 v67 v3 v66 v67 r0.2.1 b1p b1i b2 r0.1.1.1.1 r0.1.1.1.2)
          (none))
         (none))
        (none))
       (none))))
    (none))
   (none)))
 (some ((((true,()),()),(b0,((b1p,b1i),(b2,()))))))
noncomputable def C51_l9 (n:Nat):Nat→Int→Int→Int→Int→Bool→(List Nat)→(List (List FQ9))→(List FQ9)→RT9
 | 0,_,_,_,_,_,_,_,_=>none
 | k+1,v67,v4,v3,v66,b0,b1p,b1i,b2=>C51_t9 n (C51_l14 n (C51_l9 n k)) (C51_l9 n k) v67 v4 v3 v66 b0 b1p b1i b2
noncomputable def C51_t2 (n:Nat) (h9:Nat→Int→Int→Int→Int→Bool→(List Nat)→(List (List FQ9))→(List FQ9)→RT9) (g2:Int→Int→Int→Bool→(List Nat)→(List (List FQ9))→(List FQ9)→RT9) (v11:Int) (v4:Int) (v3:Int) (b0:Bool) (b1p:List Nat) (b1i:List (List FQ9)) (b2:List FQ9):RT9 :=
 cond (decide (v11 < ((b1p.length:Nat):Int)))
 (cond ((decide (0≤v11)&&decide (v11 < ((b1p.length:Nat):Int))))
  (cond ((decide (0≤v3)&&decide (v3 < (((b1i.getD (b1p.getD (Int.toNat v11) 0) []).length:Nat):Int))))
   (cond ((((b1i.getD (b1p.getD (Int.toNat v11) 0) []).getD (Int.toNat v3) (0,0)).1==0))
    (g2 ((IntKind.wrap .i64 (v11+1))) v4 v3 b0 b1p b1i b2)
    (cond ((v11==((b1p.length:Nat):Int)))
     (some ((((false,()),()),(b0,((b1p,b1i),(b2,()))))))
     (cond ((decide (0≤v4)&&decide (v4 < ((b1p.length:Nat):Int))))
      (cond ((decide (0≤v11)&&decide (v11 < ((b1p.length:Nat):Int))))
       (cond ((decide (0≤v11)&&decide (v11 < ((b1p.length:Nat):Int))))
        (cond ((decide (0≤v4)&&decide (v4 < (((b1p.set (Int.toNat v11) (b1p.getD (Int.toNat v4) 0)).length:Nat):Int))))
         (cond ((decide (0≤v4)&&decide (v4 < ((b2.length:Nat):Int))))
          (cond ((decide (0≤v11)&&decide (v11 < ((b2.length:Nat):Int))))
           (cond ((decide (0≤v11)&&decide (v11 < ((b2.length:Nat):Int))))
            (cond ((decide (0≤v4)&&decide (v4 < (((b2.set (Int.toNat v11) ((b2.getD (Int.toNat v4) (0,0)).1,(b2.getD (Int.toNat v4) (0,0)).2)).length:Nat):Int))))
             (h9 n 0 v4 v3 (((((b1p.set (Int.toNat v11) (b1p.getD (Int.toNat v4) 0)).set (Int.toNat v4) (b1p.getD (Int.toNat v11) 0)).length:Nat):Int)) b0 (((b1p.set (Int.toNat v11) (b1p.getD (Int.toNat v4) 0)).set (Int.toNat v4) (b1p.getD (Int.toNat v11) 0))) b1i (((b2.set (Int.toNat v11) ((b2.getD (Int.toNat v4) (0,0)).1,(b2.getD (Int.toNat v4) (0,0)).2)).set (Int.toNat v4) ((b2.getD (Int.toNat v11) (0,0)).1,(b2.getD (Int.toNat v11) (0,0)).2))))
             (none))
            (none))
           (none))
          (none))
         (none))
        (none))
       (none))
      (none))))
   (none))
  (none))
 (cond ((v11==((b1p.length:Nat):Int)))
  (some ((((false,()),()),(b0,((b1p,b1i),(b2,()))))))
  (cond ((decide (0≤v4)&&decide (v4 < ((b1p.length:Nat):Int))))
   (cond ((decide (0≤v11)&&decide (v11 < ((b1p.length:Nat):Int))))
    (cond ((decide (0≤v11)&&decide (v11 < ((b1p.length:Nat):Int))))
     (cond ((decide (0≤v4)&&decide (v4 < (((b1p.set (Int.toNat v11) (b1p.getD (Int.toNat v4) 0)).length:Nat):Int))))
      (cond ((decide (0≤v4)&&decide (v4 < ((b2.length:Nat):Int))))
       (cond ((decide (0≤v11)&&decide (v11 < ((b2.length:Nat):Int))))
        (cond ((decide (0≤v11)&&decide (v11 < ((b2.length:Nat):Int))))
         (cond ((decide (0≤v4)&&decide (v4 < (((b2.set (Int.toNat v11) ((b2.getD (Int.toNat v4) (0,0)).1,(b2.getD (Int.toNat v4) (0,0)).2)).length:Nat):Int))))
          (h9 n 0 v4 v3 (((((b1p.set (Int.toNat v11) (b1p.getD (Int.toNat v4) 0)).set (Int.toNat v4) (b1p.getD (Int.toNat v11) 0)).length:Nat):Int)) b0 (((b1p.set (Int.toNat v11) (b1p.getD (Int.toNat v4) 0)).set (Int.toNat v4) (b1p.getD (Int.toNat v11) 0))) b1i (((b2.set (Int.toNat v11) ((b2.getD (Int.toNat v4) (0,0)).1,(b2.getD (Int.toNat v4) (0,0)).2)).set (Int.toNat v4) ((b2.getD (Int.toNat v11) (0,0)).1,(b2.getD (Int.toNat v11) (0,0)).2))))
          (none))
         (none))
        (none))
       (none))
      (none))
     (none))
    (none))
   (none)))
noncomputable def C51_l2 (n:Nat):Nat→Int→Int→Int→Bool→(List Nat)→(List (List FQ9))→(List FQ9)→RT9
 | 0,_,_,_,_,_,_,_=>none
 | k+1,v11,v4,v3,b0,b1p,b1i,b2=>C51_t2 n (C51_l9 n) (C51_l2 n k) v11 v4 v3 b0 b1p b1i b2
noncomputable def C51_t (n:Nat) (h2:Nat→Int→Int→Int→Bool→(List Nat)→(List (List FQ9))→(List FQ9)→RT9) (a3:Int) (a4:Int) (b0:Bool) (b1:(List Nat)×(List (List FQ9))) (b2:List FQ9):RT9 :=
 h2 n a4 a4 a3 b0 b1.1 b1.2 b2
noncomputable def C51 (n:Nat) (a3:Int) (a4:Int) (b0:Bool) (b1:(List Nat)×(List (List FQ9))) (b2:List FQ9):RT9:=C51_t n (C51_l2 n) a3 a4 b0 b1 b2
noncomputable def C23_t (n:Nat) (a0:List FQ9):RT6 :=
 cond ((emptyL a0))
 (eith
  (some (((([],()),()),())))
  (cond (decide (((0+a0.length)*17)≤70368744177664))
   (some ((((([]++a0),()),()),())))
   (none)))
 (cond (decide (((0+a0.length)*17)≤70368744177664))
  (some ((((([]++a0),()),()),())))
  (none))
noncomputable def C23 (n:Nat) (a0:List FQ9):RT6:=C23_t n a0
noncomputable def C240_t3 (n:Nat) (g3:Int→(List (List FQ9))→Int→(List Nat)→(List (List FQ9))→RT10) (v9:Int) (v7:List (List FQ9)) (v8:Int) (b0p:List Nat) (b0i:List (List FQ9)):RT10 :=
 cond (decide (v9 < v8))
 (cond ((decide (0≤v9)&&decide (v9 < ((v7.length:Nat):Int))))
  ((C23 n ((v7.getD (Int.toNat v9) []))).bind fun r0 =>
   cond (decide (((b0p.length+1)*25)≤70368744177664))
   (g3 ((IntKind.wrap .i64 (v9+1))) v7 v8 ((b0p++(b0i.length :: []))) ((b0i++(r0.1.1.1 :: []))))
   (none))
  (none))
 (some (((((b0p,b0i),()),()),())))
noncomputable def C240_l3 (n:Nat):Nat→Int→(List (List FQ9))→Int→(List Nat)→(List (List FQ9))→RT10
 | 0,_,_,_,_,_=>none
 | k+1,v9,v7,v8,b0p,b0i=>C240_t3 n (C240_l3 n k) v9 v7 v8 b0p b0i
noncomputable def C240_t (n:Nat) (h3:Nat→Int→(List (List FQ9))→Int→(List Nat)→(List (List FQ9))→RT10) (a0:List (List FQ9)):RT10 :=
 h3 n 0 a0 (((a0.length:Nat):Int)) [] []
noncomputable def C240 (n:Nat) (a0:List (List FQ9)):RT10:=C240_t n (C240_l3 n) a0
noncomputable def C73_t (n:Nat) (a0:List FQ9) (b0:Int):RT11 :=
 some (((((((a0.length:Nat):Int) != b0),()),()),(b0,())))
noncomputable def C73 (n:Nat) (a0:List FQ9) (b0:Int):RT11:=C73_t n a0 b0
noncomputable def C4_t2 (n:Nat) (g2:Int→(List (List FQ9))→Int→Int→RT12) (v8:Int) (v0:List (List FQ9)) (v7:Int) (b0:Int):RT12 :=
 cond (decide (v8 < v7))
 (cond ((decide (0≤v8)&&decide (v8 < ((v0.length:Nat):Int))))
  ((C73 n ((v0.getD (Int.toNat v8) [])) b0).bind fun r0 =>
   cond r0.1.1.1
   (some ((((v8,()),()),(r0.2.1,()))))
   (g2 ((IntKind.wrap .i64 (v8+1))) v0 v7 r0.2.1))
  (none))
 (some (((((-1),()),()),(b0,()))))
noncomputable def C4_l2 (n:Nat):Nat→Int→(List (List FQ9))→Int→Int→RT12
 | 0,_,_,_,_=>none
 | k+1,v8,v0,v7,b0=>C4_t2 n (C4_l2 n k) v8 v0 v7 b0
noncomputable def C4_t (n:Nat) (h2:Nat→Int→(List (List FQ9))→Int→Int→RT12) (a0:List (List FQ9)) (b0:Int):RT12 :=
 h2 n 0 a0 (((a0.length:Nat):Int)) b0
noncomputable def C4 (n:Nat) (a0:List (List FQ9)) (b0:Int):RT12:=C4_t n (C4_l2 n) a0 b0
noncomputable def C2_t (n:Nat) (a0:List (List FQ9)) (b0:Int):RT11 :=
 (C4 n a0 b0).bind fun r0 =>
 some ((((decide (r0.1.1.1≥0),()),()),(r0.2.1,())))
noncomputable def C2 (n:Nat) (a0:List (List FQ9)) (b0:Int):RT11:=C2_t n a0 b0
noncomputable def C118_t20 (n:Nat) (g20:Int→Int→(List Nat)→(List (List FQ9))→(List FQ9)→Bool→RT13) (v70:Int) (v69:Int) (b0p:List Nat) (b0i:List (List FQ9)) (b1:List FQ9) (b2:Bool):RT13 :=
 cond (decide (v70 < v69))
 (cond ((decide (0≤v70)&&decide (v70 < ((b1.length:Nat):Int))))
  (cond ((decide (0≤v70)&&decide (v70 < ((b0p.length:Nat):Int))))
   (cond ((decide (0≤v70)&&decide (v70 < (((b0i.getD (b0p.getD (Int.toNat v70) 0) []).length:Nat):Int))))
    ((C235 n (((b1.getD (Int.toNat v70) (0,0)).1,(b1.getD (Int.toNat v70) (0,0)).2)) ((((b0i.getD (b0p.getD (Int.toNat v70) 0) []).getD (Int.toNat v70) (0,0)).1,((b0i.getD (b0p.getD (Int.toNat v70) 0) []).getD (Int.toNat v70) (0,0)).2)) b2).bind fun r6 =>
     cond ((decide (0≤v70)&&decide (v70 < ((b1.length:Nat):Int))))
     (g20 ((IntKind.wrap .i64 (v70+1))) v69 b0p b0i ((b1.set (Int.toNat v70) (r6.1.1.1.1,r6.1.1.1.2))) r6.2.1)
     (none))
    (none))
   (none))
  (none))
 (cond b2
  (some (((([],()),((3,()),())),())))
  (some ((((b1,()),((0,()),())),()))))
noncomputable def C118_l20 (n:Nat):Nat→Int→Int→(List Nat)→(List (List FQ9))→(List FQ9)→Bool→RT13
 | 0,_,_,_,_,_,_=>none
 | k+1,v70,v69,b0p,b0i,b1,b2=>C118_t20 n (C118_l20 n k) v70 v69 b0p b0i b1 b2
noncomputable def C118_t12 (n:Nat) (h20:Nat→Int→Int→(List Nat)→(List (List FQ9))→(List FQ9)→Bool→RT13) (g12:Int→Int→Bool→(List FQ9)→(List Nat)→(List (List FQ9))→Int→RT13) (v54:Int) (v53:Int) (b0:Bool) (b1:List FQ9) (b2p:List Nat) (b2i:List (List FQ9)) (b3:Int):RT13 :=
 cond (decide (v54 < v53))
 ((C51 n v54 v54 b0 ((b2p,b2i)) b1).bind fun r5 =>
  cond (!r5.1.1.1)
  (some (((([],()),((4,()),())),())))
  (cond r5.2.1
   (some (((([],()),((3,()),())),())))
   (g12 ((IntKind.wrap .i64 (v54+1))) v53 r5.2.1 r5.2.2.2.1 r5.2.2.1.1 r5.2.2.1.2 b3)))
 (h20 n 0 b3 b2p b2i b1 b0)
noncomputable def C118_l12 (n:Nat):Nat→Int→Int→Bool→(List FQ9)→(List Nat)→(List (List FQ9))→Int→RT13
 | 0,_,_,_,_,_,_,_=>none
 | k+1,v54,v53,b0,b1,b2p,b2i,b3=>C118_t12 n (C118_l20 n) (C118_l12 n k) v54 v53 b0 b1 b2p b2i b3
noncomputable def C118_t2 (n:Nat) (h12:Nat→Int→Int→Bool→(List FQ9)→(List Nat)→(List (List FQ9))→Int→RT13) (g2:Int→(List (List FQ9))→(List FQ9)→(List (List FQ9))→Int→RT13) (v20:Int) (v18:List (List FQ9)) (v1:List FQ9) (v0:List (List FQ9)) (v19:Int):RT13 :=
 cond (decide (v20 < v19))
 (cond ((decide (0≤v20)&&decide (v20 < ((v18.length:Nat):Int))))
  ((C233 n ((v18.getD (Int.toNat v20) []))).bind fun r1 =>
   cond (!r1.1.1.1)
   (some (((([],()),((1,()),())),())))
   (g2 ((IntKind.wrap .i64 (v20+1))) v18 v1 v0 v19))
  (none))
 (cond (decide (((v0.length:Nat):Int) < 1))
  (some (((([],()),((2,()),())),())))
  (cond (decide (((v0.length:Nat):Int) > 7))
   (some (((([],()),((2,()),())),())))
   (cond ((((v1.length:Nat):Int) != ((v0.length:Nat):Int)))
    (some (((([],()),((2,()),())),())))
    ((C2 n v0 (((v0.length:Nat):Int))).bind fun r2 =>
     cond r2.1.1.1
     (some (((([],()),((2,()),())),())))
     ((C240 n v0).bind fun r3 =>
      (C23 n v1).bind fun r4 =>
      h12 n 0 r2.2.1 false r4.1.1.1 r3.1.1.1.1 r3.1.1.1.2 r2.2.1)))))
noncomputable def C118_l2 (n:Nat):Nat→Int→(List (List FQ9))→(List FQ9)→(List (List FQ9))→Int→RT13
 | 0,_,_,_,_,_=>none
 | k+1,v20,v18,v1,v0,v19=>C118_t2 n (C118_l12 n) (C118_l2 n k) v20 v18 v1 v0 v19
noncomputable def C118_t (n:Nat) (h2:Nat→Int→(List (List FQ9))→(List FQ9)→(List (List FQ9))→Int→RT13) (a0:List (List FQ9)) (a1:List FQ9):RT13 :=
 (C240 n a0).bind fun r0 =>
 cond (decide (((r0.1.1.1.1.length+(a1 :: []).length)*25)≤70368744177664))
 (h2 n 0 (((rowsAt r0.1.1.1.1 r0.1.1.1.2)++(a1 :: []))) a1 a0 (((((rowsAt r0.1.1.1.1 r0.1.1.1.2)++(a1 :: [])).length:Nat):Int)))
 (none)
noncomputable def C118 (n:Nat) (a0:List (List FQ9)) (a1:List FQ9):RT13:=C118_t n (C118_l2 n) a0 a1
noncomputable def C58_t (n:Nat) (a0:(Int)×((List OB9)×((Bool)×FQ9))):RT13 :=
 (C225 n ((a0.1,(a0.2.1,(a0.2.2.1,(a0.2.2.2.1,a0.2.2.2.2)))))).bind fun r0 =>
 cond ((r0.1.2.2.1.1 != 0))
 (some (((([],()),((r0.1.2.2.1.1,()),())),())))
 ((C118 n ((rowsAt r0.1.1.1.1 r0.1.1.1.2)) r0.1.2.1.1).bind fun r1 =>
  cond ((r1.1.2.1.1 != 0))
  (some (((([],()),((r1.1.2.1.1,()),())),())))
  (cond ((decide (0≤a0.1)&&decide (a0.1≤((r1.1.1.1.length:Nat):Int))))
   ((C23 n (((r1.1.1.1.drop 0).take ((Int.toNat a0.1) - (Int.toNat 0))))).bind fun r2 =>
    some ((((r2.1.1.1,()),((0,()),())),())))
   (none)))
noncomputable def C58 (n:Nat) (a0:(Int)×((List OB9)×((Bool)×FQ9))):RT13:=C58_t n a0
noncomputable def C354_t6 (n:Nat) (g6:Int→Int→Int→Bool→(List FQ9)→(List Nat)→(List (List FQ9))→RT5) (v23:Int) (v8:Int) (v22:Int) (b0:Bool) (b1:List FQ9) (b2p:List Nat) (b2i:List (List FQ9)):RT5 :=
 cond (decide (v23 < v22))
 ((C51 n v23 v8 b0 ((b2p,b2i)) b1).bind fun r1 =>
  cond r1.1.1.1
  (cond r1.2.1
   (some ((((0,()),((3,()),())),())))
   (g6 ((IntKind.wrap .i64 (v23+1))) ((IntKind.wrap .i64 (v8+1))) v22 r1.2.1 r1.2.2.2.1 r1.2.2.1.1 r1.2.2.1.2))
  (cond r1.2.1
   (some ((((0,()),((3,()),())),())))
   (g6 ((IntKind.wrap .i64 (v23+1))) v8 v22 r1.2.1 r1.2.2.2.1 r1.2.2.1.1 r1.2.2.1.2)))
 (some (((((IntKind.wrap .i64 (((b2p.length:Nat):Int) - v8)),()),((0,()),())),())))
noncomputable def C354_l6 (n:Nat):Nat→Int→Int→Int→Bool→(List FQ9)→(List Nat)→(List (List FQ9))→RT5
 | 0,_,_,_,_,_,_,_=>none
 | k+1,v23,v8,v22,b0,b1,b2p,b2i=>C354_t6 n (C354_l6 n k) v23 v8 v22 b0 b1 b2p b2i
noncomputable def C354_t (n:Nat) (h6:Nat→Int→Int→Int→Bool→(List FQ9)→(List Nat)→(List (List FQ9))→RT5) (a0:(Int)×((List OB9)×((Bool)×FQ9))):RT5 :=
 (C225 n ((a0.1,(a0.2.1,(a0.2.2.1,(a0.2.2.2.1,a0.2.2.2.2)))))).bind fun r0 =>
 cond ((r0.1.2.2.1.1 != 0))
 (some ((((0,()),((r0.1.2.2.1.1,()),())),())))
 (h6 n 0 0 (((r0.1.1.1.1.length:Nat):Int)) false r0.1.2.1.1 r0.1.1.1.1 r0.1.1.1.2)
noncomputable def C354 (n:Nat) (a0:(Int)×((List OB9)×((Bool)×FQ9))):RT5:=C354_t n (C354_l6 n) a0
noncomputable def C123_t (n:Nat) (a0:(Int)×((List OB9)×((Bool)×FQ9))) (a1:List FQ9):RT0 :=
 (C121 n ((a0.1,(a0.2.1,(a0.2.2.1,(a0.2.2.2.1,a0.2.2.2.2)))))).bind fun r0 =>
 cond (!r0.1.1.1)
 (some ((((1,()),()),())))
 ((C233 n a1).bind fun r1 =>
  cond (!r1.1.1.1)
  (some ((((1,()),()),())))
  (cond ((((a1.length:Nat):Int) != a0.1))
   (some ((((2,()),()),())))
   (some ((((0,()),()),())))))
noncomputable def C123 (n:Nat) (a0:(Int)×((List OB9)×((Bool)×FQ9))) (a1:List FQ9):RT0:=C123_t n a0 a1
noncomputable def C239_t3 (n:Nat) (g3:Int→(List FQ9)→Int→Bool→Int→Int→Int→Int→RT4) (v11:Int) (v9:List FQ9) (v10:Int) (b0:Bool) (b1_0:Int) (b1_1:Int) (b2_0:Int) (b2_1:Int):RT4 :=
 cond (decide (v11 < v10))
 (cond ((decide (0≤v11)&&decide (v11 < ((v9.length:Nat):Int))))
  ((C234 n ((b1_0,b1_1)) (((v9.getD (Int.toNat v11) (0,0)).1,(v9.getD (Int.toNat v11) (0,0)).2)) b0).bind fun r1 =>
   g3 ((IntKind.wrap .i64 (v11+1))) v9 v10 r1.2.1 r1.1.1.1.1 r1.1.1.1.2 b2_0 b2_1)
  (none))
 (some (((((b1_0,b1_1),()),()),(b0,()))))
noncomputable def C239_l3 (n:Nat):Nat→Int→(List FQ9)→Int→Bool→Int→Int→Int→Int→RT4
 | 0,_,_,_,_,_,_,_,_=>none
 | k+1,v11,v9,v10,b0,b1_0,b1_1,b2_0,b2_1=>C239_t3 n (C239_l3 n k) v11 v9 v10 b0 b1_0 b1_1 b2_0 b2_1
noncomputable def C239_t (n:Nat) (h3:Nat→Int→(List FQ9)→Int→Bool→Int→Int→Int→Int→RT4) (a1:List FQ9) (b0:Bool):RT4 :=
 (C426 n).bind fun r0 =>
 h3 n 0 a1 (((a1.length:Nat):Int)) b0 r0.1.1.1.1 r0.1.1.1.2 0 0
noncomputable def C239 (n:Nat) (a1:List FQ9) (b0:Bool):RT4:=C239_t n (C239_l3 n) a1 b0
noncomputable def C296_t12 (n:Nat) (g8:Int→Bool→(List FQ9)→Int→(List Nat)→(List (List FQ9))→Bool→Int→(List OB9)→Bool→Int→Int→(List FQ9)→(List FQ9)→RT14) (g12:Int→Int→(List FQ9)→(List FQ9)→Int→Int→Bool→Int→Int→Int→(List Nat)→(List (List FQ9))→Bool→Int→(List OB9)→Bool→Int→Int→(List FQ9)→(List FQ9)→RT14) (v42:Int) (v12:Int) (v40:List FQ9) (v1:List FQ9) (v32:Int) (v33:Int) (v10:Bool) (v41:Int) (b0_0:Int) (b0_1:Int) (b1p:List Nat) (b1i:List (List FQ9)) (b2:Bool) (b3_0:Int) (b3_1:List OB9) (b3_2:Bool) (b3_3:Int) (b3_4:Int) (b4:List FQ9) (b5:List FQ9):RT14 :=
 cond (decide (v42 < v41))
 (cond ((decide (0≤v42)&&decide (v42 < ((v40.length:Nat):Int))))
  (cond ((decide (0≤v12)&&decide (v12 < ((b1p.length:Nat):Int))))
   (cond ((decide (0≤v42)&&decide (v42 < (((b1i.getD (b1p.getD (Int.toNat v12) 0) []).length:Nat):Int))))
    ((C236 n ((((b1i.getD (b1p.getD (Int.toNat v12) 0) []).getD (Int.toNat v42) (0,0)).1,((b1i.getD (b1p.getD (Int.toNat v12) 0) []).getD (Int.toNat v42) (0,0)).2)) (((v40.getD (Int.toNat v42) (0,0)).1,(v40.getD (Int.toNat v42) (0,0)).2)) b2).bind fun r2 =>
     (C238 n ((b0_0,b0_1)) ((r2.1.1.1.1,r2.1.1.1.2)) r2.2.1).bind fun r3 =>
     g12 ((IntKind.wrap .i64 (v42+1))) v12 v40 v1 v32 v33 v10 v41 r3.1.1.1.1 r3.1.1.1.2 b1p b1i r3.2.1 b3_0 b3_1 b3_2 b3_3 b3_4 b4 b5)
    (none))
   (none))
  (none))
 (cond (decide (((b5.length+((b0_0,b0_1) :: []).length)*17)≤70368744177664))
  (cond v10
   (cond (decide (0 < (((b5++((b0_0,b0_1) :: [])).length:Nat):Int)))
    (cond (((b0_0==((b5++((b0_0,b0_1) :: [])).getD (Int.toNat 0) (0,0)).1)&&((b0_1==((b5++((b0_0,b0_1) :: [])).getD (Int.toNat 0) (0,0)).2)&&true)))
     (cond b3_2
      (g8 ((IntKind.wrap .i64 (v33+1))) true v1 v32 b1p b1i b2 b3_0 b3_1 b3_2 b3_3 b3_4 ((b5++((b0_0,b0_1) :: []))) b4)
      (g8 ((IntKind.wrap .i64 (v33+1))) ((b0_0==0)) v1 v32 b1p b1i b2 b3_0 b3_1 b3_2 b3_3 b3_4 ((b5++((b0_0,b0_1) :: []))) b4))
     (g8 ((IntKind.wrap .i64 (v33+1))) false v1 v32 b1p b1i b2 b3_0 b3_1 b3_2 b3_3 b3_4 ((b5++((b0_0,b0_1) :: []))) b4))
    (none))
   (g8 ((IntKind.wrap .i64 (v33+1))) false v1 v32 b1p b1i b2 b3_0 b3_1 b3_2 b3_3 b3_4 ((b5++((b0_0,b0_1) :: []))) b4))
  (none))
noncomputable def C296_l12 (n:Nat) (g8:Int→Bool→(List FQ9)→Int→(List Nat)→(List (List FQ9))→Bool→Int→(List OB9)→Bool→Int→Int→(List FQ9)→(List FQ9)→RT14):Nat→Int→Int→(List FQ9)→(List FQ9)→Int→Int→Bool→Int→Int→Int→(List Nat)→(List (List FQ9))→Bool→Int→(List OB9)→Bool→Int→Int→(List FQ9)→(List FQ9)→RT14
 | 0,_,_,_,_,_,_,_,_,_,_,_,_,_,_,_,_,_,_,_,_=>none
 | k+1,v42,v12,v40,v1,v32,v33,v10,v41,b0_0,b0_1,b1p,b1i,b2,b3_0,b3_1,b3_2,b3_3,b3_4,b4,b5=>C296_t12 n g8 (C296_l12 n g8 k) v42 v12 v40 v1 v32 v33 v10 v41 b0_0 b0_1 b1p b1i b2 b3_0 b3_1 b3_2 b3_3 b3_4 b4 b5
noncomputable def C296_t8 (n:Nat) (h12:Nat→Int→Int→(List FQ9)→(List FQ9)→Int→Int→Bool→Int→Int→Int→(List Nat)→(List (List FQ9))→Bool→Int→(List OB9)→Bool→Int→Int→(List FQ9)→(List FQ9)→RT14) (g8:Int→Bool→(List FQ9)→Int→(List Nat)→(List (List FQ9))→Bool→Int→(List OB9)→Bool→Int→Int→(List FQ9)→(List FQ9)→RT14) (v33:Int) (v10:Bool) (v1:List FQ9) (v32:Int) (b0p:List Nat) (b0i:List (List FQ9)) (b1:Bool) (b2_0:Int) (b2_1:List OB9) (b2_2:Bool) (b2_3:Int) (b2_4:Int) (b3:List FQ9) (b4:List FQ9):RT14 :=
 cond (decide (v33 < v32))
 (cond ((decide (0≤v33)&&decide (v33 < ((b4.length:Nat):Int))))
  (h12 n 0 v33 v1 v1 v32 v33 v10 (((v1.length:Nat):Int)) ((b4.getD (Int.toNat v33) (0,0)).1) ((b4.getD (Int.toNat v33) (0,0)).2) b0p b0i b1 b2_0 b2_1 b2_2 b2_3 b2_4 b4 b3)
  (none))
 (cond b2_2
  (cond v10
   ((C239 n v1 b1).bind fun r4 =>
    cond r4.2.1
    (some ((((false,()),((3,()),())),())))
    (some ((((((r4.1.1.1.1==b2_3)&&((r4.1.1.1.2==b2_4)&&true)),()),((0,()),())),()))))
   (cond b1
    (some ((((false,()),((3,()),())),())))
    (some ((((false,()),((0,()),())),())))))
  (cond b1
   (some ((((false,()),((3,()),())),())))
   (some ((((v10,()),((0,()),())),())))))
noncomputable def C296_l8 (n:Nat):Nat→Int→Bool→(List FQ9)→Int→(List Nat)→(List (List FQ9))→Bool→Int→(List OB9)→Bool→Int→Int→(List FQ9)→(List FQ9)→RT14
 | 0,_,_,_,_,_,_,_,_,_,_,_,_,_,_=>none
 | k+1,v33,v10,v1,v32,b0p,b0i,b1,b2_0,b2_1,b2_2,b2_3,b2_4,b3,b4=>C296_t8 n (C296_l12 n (C296_l8 n k)) (C296_l8 n k) v33 v10 v1 v32 b0p b0i b1 b2_0 b2_1 b2_2 b2_3 b2_4 b3 b4
noncomputable def C296_t (n:Nat) (h8:Nat→Int→Bool→(List FQ9)→Int→(List Nat)→(List (List FQ9))→Bool→Int→(List OB9)→Bool→Int→Int→(List FQ9)→(List FQ9)→RT14) (a0:(Int)×((List OB9)×((Bool)×FQ9))) (a1:List FQ9):RT14 :=
 (C123 n ((a0.1,(a0.2.1,(a0.2.2.1,(a0.2.2.2.1,a0.2.2.2.2))))) a1).bind fun r0 =>
 cond ((r0.1.1.1 != 0))
 (some ((((false,()),((r0.1.1.1,()),())),())))
 ((C95 n ((a0.1,(a0.2.1,(a0.2.2.1,(a0.2.2.2.1,a0.2.2.2.2))))) false).bind fun r1 =>
  h8 n 0 true a1 a0.1 r1.1.1.1.1 r1.1.1.1.2 r1.2.1 a0.1 a0.2.1 a0.2.2.1 a0.2.2.2.1 a0.2.2.2.2 [] r1.1.2.1.1)
noncomputable def C296 (n:Nat) (a0:(Int)×((List OB9)×((Bool)×FQ9))) (a1:List FQ9):RT14:=C296_t n (C296_l8 n) a0 a1
noncomputable def C85 (n:Nat) (a0:Int) (a1:Int):RT15 :=
 cond ((decide (-9223372036854775808≤a0)&&decide (a0≤9223372036854775807))&&(a1==10)) (some ((((ByteArray.mk (Go.Lib.itoa a0).toArray,()),()),()))) none
noncomputable def C428_t (n:Nat) (a0:Int):RT15 :=
 (C85 n a0 10).bind fun r0 =>
 some ((((r0.1.1.1,()),()),()))
noncomputable def C428 (n:Nat) (a0:Int):RT15:=C428_t n a0
noncomputable def C220_t (n:Nat) (a0:(Int)×(Int)):RT15 :=
 (C172 n ((a0.1,a0.2))).bind fun r0 =>
 cond (!r0.1.1.1)
 (some (((((ByteArray.mk #[]),()),()),())))
 (cond ((a0.2==1))
  ((C428 n a0.1).bind fun r1 =>
   some ((((r1.1.1.1,()),()),())))
  ((C428 n a0.1).bind fun r2 =>
   cond ((Z699 r2.1.1.1 (ByteArray.mk #[47])))
   ((C428 n a0.2).bind fun r3 =>
    cond ((Z699 (r2.1.1.1++(ByteArray.mk #[47])) r3.1.1.1))
    (some ((((((r2.1.1.1++(ByteArray.mk #[47]))++r3.1.1.1),()),()),())))
    (none))
   (none)))
noncomputable def C220 (n:Nat) (a0:(Int)×(Int)):RT15:=C220_t n a0
noncomputable def C364 (n:Nat) (a0:ByteArray):RT0 :=
 cond (decide (a0.size≤281474976710656)) (match Go.Lib.parseIntB 64 a0.data.toList with
  | .ok v=>some ((((v,()),()),()))
  | _=>some ((((0,()),()),()))) none
noncomputable def C402 (n:Nat) (a0:ByteArray) (a1:ByteArray):RT16 :=
 cond (decide (a0.size < 4294967281)) (some (((ByteArray.mk (Go.Lib.cut a0.data.toList a1.data.toList).1.toArray,()),((ByteArray.mk (Go.Lib.cut a0.data.toList a1.data.toList).2.1.toArray,()),(((Go.Lib.cut a0.data.toList a1.data.toList).2.2,()),()))),())) none
noncomputable def C226_t (n:Nat) (a0:ByteArray):RT17 :=
 (C402 n a0 ((ByteArray.mk #[47]))).bind fun r0 =>
 (C364 n r0.1.1.1).bind fun r1 =>
 cond r0.1.2.2.1.1
 ((C364 n r0.1.2.1.1).bind fun r2 =>
  cond ((eqStr a0 (ByteArray.mk #[])))
  (some (((((0,0),()),((5,()),())),())))
  ((C220 n ((r1.1.1.1,r2.1.1.1))).bind fun r3 =>
   cond ((!(eqStr r3.1.1.1 a0)))
   (some (((((0,0),()),((5,()),())),())))
   (some (((((r1.1.1.1,r2.1.1.1),()),((0,()),())),())))))
 (cond ((eqStr a0 (ByteArray.mk #[])))
  (some (((((0,0),()),((5,()),())),())))
  ((C220 n ((r1.1.1.1,1))).bind fun r4 =>
   cond ((!(eqStr r4.1.1.1 a0)))
   (some (((((0,0),()),((5,()),())),())))
   (some (((((r1.1.1.1,1),()),((0,()),())),())))))
noncomputable def C226 (n:Nat) (a0:ByteArray):RT17:=C226_t n a0
noncomputable def C169_t11 (n:Nat) (g8:ByteArray→Int→(List OB9)→Int→Int→(List OB9)→Bool→Int→Int→RT15) (g11:Int→ByteArray→Nat→(List OB9)→Int→Int→Int→Int→Int→Int→Int→Int→Int→Int→Int→Int→Int→(List OB9)→Bool→Int→Int→RT15) (v36:Int) (v3:ByteArray) (v34a5:Nat) (v25:List OB9) (v26:Int) (v27:Int) (v35:Int) (b0_0:Int) (b0_1:Int) (b0_2:Int) (b0_3:Int) (b0_4:Int) (b0_5:Int) (b0_6:Int) (b0_7:Int) (b0_8:Int) (b1_0:Int) (b1_1:List OB9) (b1_2:Bool) (b1_3:Int) (b1_4:Int):RT15 :=
 cond (decide (v36 < v35))
 (cond ((decide (0≤v36)&&decide (v36 < ((v34a5:Nat):Int))))
  ((C428 n ((IntKind.wrap .i64 (cond (Nat.beq (Int.toNat v36) 0) b0_0 (cond (Nat.beq ((Int.toNat v36) - 1) 0) b0_1 (cond (Nat.beq (((Int.toNat v36) - 1) - 1) 0) b0_2 (cond (Nat.beq ((((Int.toNat v36) - 1) - 1) - 1) 0) b0_3 (cond (Nat.beq (((((Int.toNat v36) - 1) - 1) - 1) - 1) 0) b0_4 (cond (Nat.beq ((((((Int.toNat v36) - 1) - 1) - 1) - 1) - 1) 0) b0_5 0))))))))).bind fun r3 =>
   cond ((Z699 r3.1.1.1 (ByteArray.mk #[32])))
   (cond ((Z699 v3 (r3.1.1.1++(ByteArray.mk #[32]))))
    (g11 ((IntKind.wrap .i64 (v36+1))) ((v3++(r3.1.1.1++(ByteArray.mk #[32])))) v34a5 v25 v26 v27 v35 b0_0 b0_1 b0_2 b0_3 b0_4 b0_5 b0_6 b0_7 b0_8 b1_0 b1_1 b1_2 b1_3 b1_4)
    (none))
   (none))
  (none))
 ((C220 n ((b0_6,b0_7))).bind fun r4 =>
  cond ((Z699 r4.1.1.1 (ByteArray.mk #[32])))
  ((C428 n b0_8).bind fun r5 =>
   cond ((Z699 (r4.1.1.1++(ByteArray.mk #[32])) r5.1.1.1))
   (cond ((Z699 ((r4.1.1.1++(ByteArray.mk #[32]))++r5.1.1.1) (ByteArray.mk #[10])))
    (cond ((Z699 v3 (((r4.1.1.1++(ByteArray.mk #[32]))++r5.1.1.1)++(ByteArray.mk #[10]))))
     (g8 ((v3++(((r4.1.1.1++(ByteArray.mk #[32]))++r5.1.1.1)++(ByteArray.mk #[10])))) ((IntKind.wrap .i64 (v27+1))) v25 v26 b1_0 b1_1 b1_2 b1_3 b1_4)
     (none))
    (none))
   (none))
  (none))
noncomputable def C169_l11 (n:Nat) (g8:ByteArray→Int→(List OB9)→Int→Int→(List OB9)→Bool→Int→Int→RT15):Nat→Int→ByteArray→Nat→(List OB9)→Int→Int→Int→Int→Int→Int→Int→Int→Int→Int→Int→Int→Int→(List OB9)→Bool→Int→Int→RT15
 | 0,_,_,_,_,_,_,_,_,_,_,_,_,_,_,_,_,_,_,_,_,_=>none
 | k+1,v36,v3,v34a5,v25,v26,v27,v35,b0_0,b0_1,b0_2,b0_3,b0_4,b0_5,b0_6,b0_7,b0_8,b1_0,b1_1,b1_2,b1_3,b1_4=>C169_t11 n g8 (C169_l11 n g8 k) v36 v3 v34a5 v25 v26 v27 v35 b0_0 b0_1 b0_2 b0_3 b0_4 b0_5 b0_6 b0_7 b0_8 b1_0 b1_1 b1_2 b1_3 b1_4
noncomputable def C169_t8 (n:Nat) (h11:Nat→Int→ByteArray→Nat→(List OB9)→Int→Int→Int→Int→Int→Int→Int→Int→Int→Int→Int→Int→Int→(List OB9)→Bool→Int→Int→RT15) (g8:ByteArray→Int→(List OB9)→Int→Int→(List OB9)→Bool→Int→Int→RT15) (v3:ByteArray) (v27:Int) (v25:List OB9) (v26:Int) (b0_0:Int) (b0_1:List OB9) (b0_2:Bool) (b0_3:Int) (b0_4:Int):RT15 :=
 cond (decide (v27 < v26))
 (cond ((decide (0≤v27)&&decide (v27 < ((v25.length:Nat):Int))))
  (cond ((decide (0≤b0_0)&&decide (b0_0≤6)))
   (h11 n 0 v3 ((Int.toNat b0_0)) v25 v26 v27 ((((Int.toNat b0_0):Nat):Int)) ((v25.getD (Int.toNat v27) ((0,(0,(0,(0,(0,0))))),((0,0),0))).1.1) ((v25.getD (Int.toNat v27) ((0,(0,(0,(0,(0,0))))),((0,0),0))).1.2.1) ((v25.getD (Int.toNat v27) ((0,(0,(0,(0,(0,0))))),((0,0),0))).1.2.2.1) ((v25.getD (Int.toNat v27) ((0,(0,(0,(0,(0,0))))),((0,0),0))).1.2.2.2.1) ((v25.getD (Int.toNat v27) ((0,(0,(0,(0,(0,0))))),((0,0),0))).1.2.2.2.2.1) ((v25.getD (Int.toNat v27) ((0,(0,(0,(0,(0,0))))),((0,0),0))).1.2.2.2.2.2) ((v25.getD (Int.toNat v27) ((0,(0,(0,(0,(0,0))))),((0,0),0))).2.1.1) ((v25.getD (Int.toNat v27) ((0,(0,(0,(0,(0,0))))),((0,0),0))).2.1.2) ((v25.getD (Int.toNat v27) ((0,(0,(0,(0,(0,0))))),((0,0),0))).2.2) b0_0 b0_1 b0_2 b0_3 b0_4)
   (none))
  (none))
 (some ((((v3,()),()),())))
noncomputable def C169_l8 (n:Nat):Nat→ByteArray→Int→(List OB9)→Int→Int→(List OB9)→Bool→Int→Int→RT15
 | 0,_,_,_,_,_,_,_,_,_=>none
 | k+1,v3,v27,v25,v26,b0_0,b0_1,b0_2,b0_3,b0_4=>C169_t8 n (C169_l11 n (C169_l8 n k)) (C169_l8 n k) v3 v27 v25 v26 b0_0 b0_1 b0_2 b0_3 b0_4
noncomputable def C169_t (n:Nat) (h8:Nat→ByteArray→Int→(List OB9)→Int→Int→(List OB9)→Bool→Int→Int→RT15) (a0:(Int)×((List OB9)×((Bool)×FQ9))):RT15 :=
 (C121 n ((a0.1,(a0.2.1,(a0.2.2.1,(a0.2.2.2.1,a0.2.2.2.2)))))).bind fun r0 =>
 cond (!r0.1.1.1)
 (some (((((ByteArray.mk #[]),()),()),())))
 ((C428 n a0.1).bind fun r1 =>
  cond a0.2.2.1
  ((C220 n ((a0.2.2.2.1,a0.2.2.2.2))).bind fun r2 =>
   cond ((Z699 (ByteArray.mk #[32,99,108,111,115,101,100,32]) r2.1.1.1))
   (cond ((Z699 r1.1.1.1 ((ByteArray.mk #[32,99,108,111,115,101,100,32])++r2.1.1.1)))
    (cond ((Z699 (r1.1.1.1++((ByteArray.mk #[32,99,108,111,115,101,100,32])++r2.1.1.1)) (ByteArray.mk #[10])))
     (h8 n (((r1.1.1.1++((ByteArray.mk #[32,99,108,111,115,101,100,32])++r2.1.1.1))++(ByteArray.mk #[10]))) 0 a0.2.1 (((a0.2.1.length:Nat):Int)) a0.1 a0.2.1 a0.2.2.1 a0.2.2.2.1 a0.2.2.2.2)
     (none))
    (none))
   (none))
  (cond ((Z699 r1.1.1.1 (ByteArray.mk #[10])))
   (h8 n ((r1.1.1.1++(ByteArray.mk #[10]))) 0 a0.2.1 (((a0.2.1.length:Nat):Int)) a0.1 a0.2.1 a0.2.2.1 a0.2.2.2.1 a0.2.2.2.2)
   (none)))
noncomputable def C169 (n:Nat) (a0:(Int)×((List OB9)×((Bool)×FQ9))):RT15:=C169_t n (C169_l8 n) a0
noncomputable def C292 (n:Nat) (a0:ByteArray) (a1:ByteArray):RT18 :=
 cond (decide (a0.size < 4294967281)&&decide (1≤a1.size)) (some ((((Go.Lib.splitB a1 0 (Go.Lib.countB a0 a1) a0,()),()),()))) none
noncomputable def C405_t (n:Nat) (a0:ByteArray):RT19 :=
 cond ((eqStr a0 (ByteArray.mk #[])))
 (some (((([],()),((true,()),())),())))
 ((C292 n a0 ((ByteArray.mk #[10]))).bind fun r0 =>
  cond ((decide (0≤(IntKind.wrap .i64 (((r0.1.1.1.length:Nat):Int) - 1)))&&decide ((IntKind.wrap .i64 (((r0.1.1.1.length:Nat):Int) - 1))≤((r0.1.1.1.length:Nat):Int))))
  (cond ((decide (0≤(IntKind.wrap .i64 (((r0.1.1.1.length:Nat):Int) - 1)))&&decide ((IntKind.wrap .i64 (((r0.1.1.1.length:Nat):Int) - 1)) < ((r0.1.1.1.length:Nat):Int))))
   (some ((((((r0.1.1.1.drop 0).take ((Int.toNat (IntKind.wrap .i64 (((r0.1.1.1.length:Nat):Int) - 1))) - (Int.toNat 0))),()),(((eqStr (r0.1.1.1.getD (Int.toNat (IntKind.wrap .i64 (((r0.1.1.1.length:Nat):Int) - 1))) (ByteArray.mk #[])) (ByteArray.mk #[])),()),())),())))
   (none))
  (none))
noncomputable def C405 (n:Nat) (a0:ByteArray):RT19:=C405_t n a0
noncomputable def C164_t18 (n:Nat) (g9:Int→(List (ByteArray))→ByteArray→Int→Int→Bool→Int→Int→Int→Bool→Int→Int→(List OB9)→RT20) (g18:Int→Nat→(List (ByteArray))→ByteArray→Int→Int→Int→Int→Bool→Int→Int→Int→Int→Int→Int→Int→Int→Int→Int→Int→(List (ByteArray))→Int→Bool→Int→Int→(List OB9)→RT20) (v96:Int) (v94n:Nat) (v58:List (ByteArray)) (v0:ByteArray) (v59:Int) (v60:Int) (v95:Int) (b0_0:Int) (b0_2:Bool) (b0_3:Int) (b0_4:Int) (b1_0:Int) (b1_1:Int) (b1_2:Int) (b1_3:Int) (b1_4:Int) (b1_5:Int) (b1_6:Int) (b1_7:Int) (b1_8:Int) (b2:List (ByteArray)) (b3_0:Int) (b3_2:Bool) (b3_3:Int) (b3_4:Int) (b4:List OB9):RT20 :=
 cond (decide (v96 < v95))
 (cond ((decide (0≤v96)&&decide (v96 < ((((b2.drop 0).take v94n).length:Nat):Int))))
  ((C364 n ((b2.getD (0+(Int.toNat v96)) (ByteArray.mk #[])))).bind fun r8 =>
   (C366 n r8.1.1.1 (-3) 3).bind fun r9 =>
   cond (!r9.1.1.1)
   (some ((((0,([],((false,(0,0)),()))),((5,()),())),())))
   (cond ((decide (0≤v96)&&decide (v96 < 6)))
    (g18 ((IntKind.wrap .i64 (v96+1))) v94n v58 v0 v59 v60 v95 b0_0 b0_2 b0_3 b0_4 ((cond (Nat.beq (Int.toNat v96) 0) (IntKind.wrap .i8 r8.1.1.1) b1_0)) ((cond (Nat.beq (Int.toNat v96) 1) (IntKind.wrap .i8 r8.1.1.1) b1_1)) ((cond (Nat.beq (Int.toNat v96) 2) (IntKind.wrap .i8 r8.1.1.1) b1_2)) ((cond (Nat.beq (Int.toNat v96) 3) (IntKind.wrap .i8 r8.1.1.1) b1_3)) ((cond (Nat.beq (Int.toNat v96) 4) (IntKind.wrap .i8 r8.1.1.1) b1_4)) ((cond (Nat.beq (Int.toNat v96) 5) (IntKind.wrap .i8 r8.1.1.1) b1_5)) b1_6 b1_7 b1_8 b2 b3_0 b3_2 b3_3 b3_4 b4)
    (none)))
  (none))
 (cond (decide (((b4.length+(((b1_0,(b1_1,(b1_2,(b1_3,(b1_4,b1_5))))),((b1_6,b1_7),b1_8)) :: []).length)*33)≤70368744177664))
  (g9 ((IntKind.wrap .i64 (v60+1))) v58 v0 v59 b0_0 b0_2 b0_3 b0_4 b3_0 b3_2 b3_3 b3_4 ((b4++(((b1_0,(b1_1,(b1_2,(b1_3,(b1_4,b1_5))))),((b1_6,b1_7),b1_8)) :: []))))
  (none))
noncomputable def C164_l18 (n:Nat) (g9:Int→(List (ByteArray))→ByteArray→Int→Int→Bool→Int→Int→Int→Bool→Int→Int→(List OB9)→RT20):Nat→Int→Nat→(List (ByteArray))→ByteArray→Int→Int→Int→Int→Bool→Int→Int→Int→Int→Int→Int→Int→Int→Int→Int→Int→(List (ByteArray))→Int→Bool→Int→Int→(List OB9)→RT20
 | 0,_,_,_,_,_,_,_,_,_,_,_,_,_,_,_,_,_,_,_,_,_,_,_,_,_,_=>none
 | k+1,v96,v94n,v58,v0,v59,v60,v95,b0_0,b0_2,b0_3,b0_4,b1_0,b1_1,b1_2,b1_3,b1_4,b1_5,b1_6,b1_7,b1_8,b2,b3_0,b3_2,b3_3,b3_4,b4=>C164_t18 n g9 (C164_l18 n g9 k) v96 v94n v58 v0 v59 v60 v95 b0_0 b0_2 b0_3 b0_4 b1_0 b1_1 b1_2 b1_3 b1_4 b1_5 b1_6 b1_7 b1_8 b2 b3_0 b3_2 b3_3 b3_4 b4
noncomputable def C164_t9 (n:Nat) (h18:Nat→Int→Nat→(List (ByteArray))→ByteArray→Int→Int→Int→Int→Bool→Int→Int→Int→Int→Int→Int→Int→Int→Int→Int→Int→(List (ByteArray))→Int→Bool→Int→Int→(List OB9)→RT20) (g9:Int→(List (ByteArray))→ByteArray→Int→Int→Bool→Int→Int→Int→Bool→Int→Int→(List OB9)→RT20) (v60:Int) (v58:List (ByteArray)) (v0:ByteArray) (v59:Int) (b0_0:Int) (b0_2:Bool) (b0_3:Int) (b0_4:Int) (b1_0:Int) (b1_2:Bool) (b1_3:Int) (b1_4:Int) (b2:List OB9):RT20 :=
 cond (decide (v60 < v59))
 (cond ((decide (0≤v60)&&decide (v60 < ((v58.length:Nat):Int))))
  ((C292 n ((v58.getD (Int.toNat v60) (ByteArray.mk #[]))) ((ByteArray.mk #[32]))).bind fun r5 =>
   cond (decide ((IntKind.wrap .i64 (((r5.1.1.1.length:Nat):Int) - 2)) < 1))
   (some ((((0,([],((false,(0,0)),()))),((5,()),())),())))
   (cond (decide ((IntKind.wrap .i64 (((r5.1.1.1.length:Nat):Int) - 2)) > 6))
    (some ((((0,([],((false,(0,0)),()))),((5,()),())),())))
    (cond ((decide (0≤(IntKind.wrap .i64 ((IntKind.wrap .i64 (((r5.1.1.1.length:Nat):Int) - 2))+1)))&&decide ((IntKind.wrap .i64 ((IntKind.wrap .i64 (((r5.1.1.1.length:Nat):Int) - 2))+1)) < ((r5.1.1.1.length:Nat):Int))))
     ((C364 n ((r5.1.1.1.getD (Int.toNat (IntKind.wrap .i64 ((IntKind.wrap .i64 (((r5.1.1.1.length:Nat):Int) - 2))+1))) (ByteArray.mk #[])))).bind fun r6 =>
      cond ((decide (0≤(IntKind.wrap .i64 (((r5.1.1.1.length:Nat):Int) - 2)))&&decide ((IntKind.wrap .i64 (((r5.1.1.1.length:Nat):Int) - 2)) < ((r5.1.1.1.length:Nat):Int))))
      ((C226 n ((r5.1.1.1.getD (Int.toNat (IntKind.wrap .i64 (((r5.1.1.1.length:Nat):Int) - 2))) (ByteArray.mk #[])))).bind fun r7 =>
       cond ((decide (0≤(IntKind.wrap .i64 (((r5.1.1.1.length:Nat):Int) - 2)))&&decide ((IntKind.wrap .i64 (((r5.1.1.1.length:Nat):Int) - 2))≤((r5.1.1.1.length:Nat):Int))))
       (h18 n 0 (((Int.toNat (IntKind.wrap .i64 (((r5.1.1.1.length:Nat):Int) - 2))) - (Int.toNat 0))) v58 v0 v59 v60 (((((r5.1.1.1.drop 0).take ((Int.toNat (IntKind.wrap .i64 (((r5.1.1.1.length:Nat):Int) - 2))) - (Int.toNat 0))).length:Nat):Int)) b0_0 b0_2 b0_3 b0_4 0 0 0 0 0 0 r7.1.1.1.1 r7.1.1.1.2 r6.1.1.1 r5.1.1.1 b1_0 b1_2 b1_3 b1_4 b2)
       (none))
      (none))
     (none))))
  (none))
 ((C121 n ((b1_0,(b2,(b1_2,(b1_3,b1_4)))))).bind fun r10 =>
  cond (!r10.1.1.1)
  (some ((((0,([],((false,(0,0)),()))),((5,()),())),())))
  ((C169 n ((b1_0,(b2,(b1_2,(b1_3,b1_4)))))).bind fun r11 =>
   cond ((!(eqStr r11.1.1.1 v0)))
   (some ((((0,([],((false,(0,0)),()))),((5,()),())),())))
   (some ((((b1_0,(b2,((b1_2,(b1_3,b1_4)),()))),((0,()),())),())))))
noncomputable def C164_l9 (n:Nat):Nat→Int→(List (ByteArray))→ByteArray→Int→Int→Bool→Int→Int→Int→Bool→Int→Int→(List OB9)→RT20
 | 0,_,_,_,_,_,_,_,_,_,_,_,_,_=>none
 | k+1,v60,v58,v0,v59,b0_0,b0_2,b0_3,b0_4,b1_0,b1_2,b1_3,b1_4,b2=>C164_t9 n (C164_l18 n (C164_l9 n k)) (C164_l9 n k) v60 v58 v0 v59 b0_0 b0_2 b0_3 b0_4 b1_0 b1_2 b1_3 b1_4 b2
noncomputable def C164_t (n:Nat) (h9:Nat→Int→(List (ByteArray))→ByteArray→Int→Int→Bool→Int→Int→Int→Bool→Int→Int→(List OB9)→RT20) (a0:ByteArray):RT20 :=
 (C405 n a0).bind fun r0 =>
 cond (!r0.1.2.1.1)
 (some ((((0,([],((false,(0,0)),()))),((5,()),())),())))
 (cond ((((r0.1.1.1.length:Nat):Int)==0))
  (some ((((0,([],((false,(0,0)),()))),((5,()),())),())))
  (cond (decide (((r0.1.1.1.length:Nat):Int) > 25))
   (some ((((0,([],((false,(0,0)),()))),((5,()),())),())))
   (cond (decide (0 < ((r0.1.1.1.length:Nat):Int)))
    ((C292 n ((r0.1.1.1.getD (Int.toNat 0) (ByteArray.mk #[]))) ((ByteArray.mk #[32]))).bind fun r1 =>
     cond (decide (0 < ((r1.1.1.1.length:Nat):Int)))
     ((C364 n ((r1.1.1.1.getD (Int.toNat 0) (ByteArray.mk #[])))).bind fun r2 =>
      (C426 n).bind fun r3 =>
      cond ((((r1.1.1.1.length:Nat):Int)==3))
      (cond (decide (2 < ((r1.1.1.1.length:Nat):Int)))
       ((C226 n ((r1.1.1.1.getD (Int.toNat 2) (ByteArray.mk #[])))).bind fun r4 =>
        cond ((decide (1≤((r0.1.1.1.length:Nat):Int))&&decide (((r0.1.1.1.length:Nat):Int)≤((r0.1.1.1.length:Nat):Int))))
        (h9 n 0 (((r0.1.1.1.drop (Int.toNat 1)).take ((Int.toNat ((r0.1.1.1.length:Nat):Int)) - (Int.toNat 1)))) a0 (((((r0.1.1.1.drop (Int.toNat 1)).take ((Int.toNat ((r0.1.1.1.length:Nat):Int)) - (Int.toNat 1))).length:Nat):Int)) 0 false 0 0 r2.1.1.1 ((((r1.1.1.1.length:Nat):Int)==3)) r4.1.1.1.1 r4.1.1.1.2 [])
        (none))
       (none))
      (cond ((decide (1≤((r0.1.1.1.length:Nat):Int))&&decide (((r0.1.1.1.length:Nat):Int)≤((r0.1.1.1.length:Nat):Int))))
       (h9 n 0 (((r0.1.1.1.drop (Int.toNat 1)).take ((Int.toNat ((r0.1.1.1.length:Nat):Int)) - (Int.toNat 1)))) a0 (((((r0.1.1.1.drop (Int.toNat 1)).take ((Int.toNat ((r0.1.1.1.length:Nat):Int)) - (Int.toNat 1))).length:Nat):Int)) 0 false 0 0 r2.1.1.1 ((((r1.1.1.1.length:Nat):Int)==3)) r3.1.1.1.1 r3.1.1.1.2 [])
       (none)))
     (none))
    (none))))
noncomputable def C164 (n:Nat) (a0:ByteArray):RT20:=C164_t n (C164_l9 n) a0
noncomputable def C53_t7 (n:Nat) (g3:Int→(List FQ9)→(List OB9)→Int→Bool→(List FQ9)→RT21) (g7:Int→(List FQ9)→(List FQ9)→(List OB9)→Int→Int→Int→Bool→Int→Int→Int→Int→Int→Int→Int→Int→Int→Int→Int→(List FQ9)→RT21) (v25:Int) (v23:List FQ9) (v2:List FQ9) (v15:List OB9) (v16:Int) (v17:Int) (v24:Int) (b0:Bool) (b1_0:Int) (b1_1:Int) (b2_0:Int) (b2_1:Int) (b2_2:Int) (b2_3:Int) (b2_4:Int) (b2_5:Int) (b2_6:Int) (b2_7:Int) (b2_8:Int) (b3:List FQ9):RT21 :=
 cond (decide (v25 < v24))
 (cond ((decide (0≤v25)&&decide (v25 < ((v23.length:Nat):Int))))
  (cond ((decide (0≤v25)&&decide (v25 < 6)))
   (cond (((cond (Nat.beq (Int.toNat v25) 0) b2_0 (cond (Nat.beq ((Int.toNat v25) - 1) 0) b2_1 (cond (Nat.beq (((Int.toNat v25) - 1) - 1) 0) b2_2 (cond (Nat.beq ((((Int.toNat v25) - 1) - 1) - 1) 0) b2_3 (cond (Nat.beq (((((Int.toNat v25) - 1) - 1) - 1) - 1) 0) b2_4 (cond (Nat.beq ((((((Int.toNat v25) - 1) - 1) - 1) - 1) - 1) 0) b2_5 0)))))) != 0))
    (cond ((decide (0≤v25)&&decide (v25 < 6)))
     ((C430 n ((IntKind.wrap .i64 (cond (Nat.beq (Int.toNat v25) 0) b2_0 (cond (Nat.beq ((Int.toNat v25) - 1) 0) b2_1 (cond (Nat.beq (((Int.toNat v25) - 1) - 1) 0) b2_2 (cond (Nat.beq ((((Int.toNat v25) - 1) - 1) - 1) 0) b2_3 (cond (Nat.beq (((((Int.toNat v25) - 1) - 1) - 1) - 1) 0) b2_4 (cond (Nat.beq ((((((Int.toNat v25) - 1) - 1) - 1) - 1) - 1) 0) b2_5 0))))))))).bind fun r0 =>
      (C236 n ((r0.1.1.1.1,r0.1.1.1.2)) (((v23.getD (Int.toNat v25) (0,0)).1,(v23.getD (Int.toNat v25) (0,0)).2)) b0).bind fun r1 =>
      (C238 n ((b1_0,b1_1)) ((r1.1.1.1.1,r1.1.1.1.2)) r1.2.1).bind fun r2 =>
      g7 ((IntKind.wrap .i64 (v25+1))) v23 v2 v15 v16 v17 v24 r2.2.1 r2.1.1.1.1 r2.1.1.1.2 b2_0 b2_1 b2_2 b2_3 b2_4 b2_5 b2_6 b2_7 b2_8 b3)
     (none))
    (g7 ((IntKind.wrap .i64 (v25+1))) v23 v2 v15 v16 v17 v24 b0 b1_0 b1_1 b2_0 b2_1 b2_2 b2_3 b2_4 b2_5 b2_6 b2_7 b2_8 b3))
   (none))
  (none))
 (cond (decide (((b3.length+((b1_0,b1_1) :: []).length)*17)≤70368744177664))
  (g3 ((IntKind.wrap .i64 (v17+1))) v2 v15 v16 b0 ((b3++((b1_0,b1_1) :: []))))
  (none))
noncomputable def C53_l7 (n:Nat) (g3:Int→(List FQ9)→(List OB9)→Int→Bool→(List FQ9)→RT21):Nat→Int→(List FQ9)→(List FQ9)→(List OB9)→Int→Int→Int→Bool→Int→Int→Int→Int→Int→Int→Int→Int→Int→Int→Int→(List FQ9)→RT21
 | 0,_,_,_,_,_,_,_,_,_,_,_,_,_,_,_,_,_,_,_,_=>none
 | k+1,v25,v23,v2,v15,v16,v17,v24,b0,b1_0,b1_1,b2_0,b2_1,b2_2,b2_3,b2_4,b2_5,b2_6,b2_7,b2_8,b3=>C53_t7 n g3 (C53_l7 n g3 k) v25 v23 v2 v15 v16 v17 v24 b0 b1_0 b1_1 b2_0 b2_1 b2_2 b2_3 b2_4 b2_5 b2_6 b2_7 b2_8 b3
noncomputable def C53_t3 (n:Nat) (h7:Nat→Int→(List FQ9)→(List FQ9)→(List OB9)→Int→Int→Int→Bool→Int→Int→Int→Int→Int→Int→Int→Int→Int→Int→Int→(List FQ9)→RT21) (g3:Int→(List FQ9)→(List OB9)→Int→Bool→(List FQ9)→RT21) (v17:Int) (v2:List FQ9) (v15:List OB9) (v16:Int) (b0:Bool) (b1:List FQ9):RT21 :=
 cond (decide (v17 < v16))
 (cond ((decide (0≤v17)&&decide (v17 < ((v15.length:Nat):Int))))
  (h7 n 0 v2 v2 v15 v16 v17 (((v2.length:Nat):Int)) b0 ((v15.getD (Int.toNat v17) ((0,(0,(0,(0,(0,0))))),((0,0),0))).2.1.1) ((v15.getD (Int.toNat v17) ((0,(0,(0,(0,(0,0))))),((0,0),0))).2.1.2) ((v15.getD (Int.toNat v17) ((0,(0,(0,(0,(0,0))))),((0,0),0))).1.1) ((v15.getD (Int.toNat v17) ((0,(0,(0,(0,(0,0))))),((0,0),0))).1.2.1) ((v15.getD (Int.toNat v17) ((0,(0,(0,(0,(0,0))))),((0,0),0))).1.2.2.1) ((v15.getD (Int.toNat v17) ((0,(0,(0,(0,(0,0))))),((0,0),0))).1.2.2.2.1) ((v15.getD (Int.toNat v17) ((0,(0,(0,(0,(0,0))))),((0,0),0))).1.2.2.2.2.1) ((v15.getD (Int.toNat v17) ((0,(0,(0,(0,(0,0))))),((0,0),0))).1.2.2.2.2.2) ((v15.getD (Int.toNat v17) ((0,(0,(0,(0,(0,0))))),((0,0),0))).2.1.1) ((v15.getD (Int.toNat v17) ((0,(0,(0,(0,(0,0))))),((0,0),0))).2.1.2) ((v15.getD (Int.toNat v17) ((0,(0,(0,(0,(0,0))))),((0,0),0))).2.2) b1)
  (none))
 (some ((((b1,()),()),(b0,()))))
noncomputable def C53_l3 (n:Nat):Nat→Int→(List FQ9)→(List OB9)→Int→Bool→(List FQ9)→RT21
 | 0,_,_,_,_,_,_=>none
 | k+1,v17,v2,v15,v16,b0,b1=>C53_t3 n (C53_l7 n (C53_l3 n k)) (C53_l3 n k) v17 v2 v15 v16 b0 b1
noncomputable def C53_t (n:Nat) (h3:Nat→Int→(List FQ9)→(List OB9)→Int→Bool→(List FQ9)→RT21) (a1:(Int)×((List OB9)×((Bool)×FQ9))) (a2:List FQ9) (b0:Bool):RT21 :=
 h3 n 0 a2 a1.2.1 (((a1.2.1.length:Nat):Int)) b0 []
noncomputable def C53 (n:Nat) (a1:(Int)×((List OB9)×((Bool)×FQ9))) (a2:List FQ9) (b0:Bool):RT21:=C53_t n (C53_l3 n) a1 a2 b0
noncomputable def C91_t (n:Nat) (a0:(Int)×((List OB9)×((Bool)×FQ9))) (a1:List FQ9):RT13 :=
 (C123 n ((a0.1,(a0.2.1,(a0.2.2.1,(a0.2.2.2.1,a0.2.2.2.2))))) a1).bind fun r0 =>
 cond ((r0.1.1.1 != 0))
 (some (((([],()),((r0.1.1.1,()),())),())))
 ((C53 n ((a0.1,(a0.2.1,(a0.2.2.1,(a0.2.2.2.1,a0.2.2.2.2))))) a1 false).bind fun r1 =>
  cond r1.2.1
  (some (((([],()),((3,()),())),())))
  (some ((((r1.1.1.1,()),((0,()),())),()))))
noncomputable def C91 (n:Nat) (a0:(Int)×((List OB9)×((Bool)×FQ9))) (a1:List FQ9):RT13:=C91_t n a0 a1
noncomputable def C26_t4 (n:Nat) (g4:Int→(List OB9)→(List OB9)→Int→RT1) (v13:Int) (v1:List OB9) (v0:List OB9) (v12:Int):RT1 :=
 cond (decide (v13 < v12))
 (cond ((decide (0≤v13)&&decide (v13 < ((v0.length:Nat):Int))))
  (cond ((decide (0≤v13)&&decide (v13 < ((v1.length:Nat):Int))))
   (cond ((!(((v0.getD (Int.toNat v13) ((0,(0,(0,(0,(0,0))))),((0,0),0))).1.1==(v1.getD (Int.toNat v13) ((0,(0,(0,(0,(0,0))))),((0,0),0))).1.1)&&(((v0.getD (Int.toNat v13) ((0,(0,(0,(0,(0,0))))),((0,0),0))).1.2.1==(v1.getD (Int.toNat v13) ((0,(0,(0,(0,(0,0))))),((0,0),0))).1.2.1)&&(((v0.getD (Int.toNat v13) ((0,(0,(0,(0,(0,0))))),((0,0),0))).1.2.2.1==(v1.getD (Int.toNat v13) ((0,(0,(0,(0,(0,0))))),((0,0),0))).1.2.2.1)&&(((v0.getD (Int.toNat v13) ((0,(0,(0,(0,(0,0))))),((0,0),0))).1.2.2.2.1==(v1.getD (Int.toNat v13) ((0,(0,(0,(0,(0,0))))),((0,0),0))).1.2.2.2.1)&&(((v0.getD (Int.toNat v13) ((0,(0,(0,(0,(0,0))))),((0,0),0))).1.2.2.2.2.1==(v1.getD (Int.toNat v13) ((0,(0,(0,(0,(0,0))))),((0,0),0))).1.2.2.2.2.1)&&(((v0.getD (Int.toNat v13) ((0,(0,(0,(0,(0,0))))),((0,0),0))).1.2.2.2.2.2==(v1.getD (Int.toNat v13) ((0,(0,(0,(0,(0,0))))),((0,0),0))).1.2.2.2.2.2)&&(((v0.getD (Int.toNat v13) ((0,(0,(0,(0,(0,0))))),((0,0),0))).2.1.1==(v1.getD (Int.toNat v13) ((0,(0,(0,(0,(0,0))))),((0,0),0))).2.1.1)&&(((v0.getD (Int.toNat v13) ((0,(0,(0,(0,(0,0))))),((0,0),0))).2.1.2==(v1.getD (Int.toNat v13) ((0,(0,(0,(0,(0,0))))),((0,0),0))).2.1.2)&&(((v0.getD (Int.toNat v13) ((0,(0,(0,(0,(0,0))))),((0,0),0))).2.2==(v1.getD (Int.toNat v13) ((0,(0,(0,(0,(0,0))))),((0,0),0))).2.2)&&true)))))))))))
    (some ((((false,()),()),())))
    (g4 ((IntKind.wrap .i64 (v13+1))) v1 v0 v12))
   (none))
  (none))
 (some ((((true,()),()),())))
noncomputable def C26_l4 (n:Nat):Nat→Int→(List OB9)→(List OB9)→Int→RT1
 | 0,_,_,_,_=>none
 | k+1,v13,v1,v0,v12=>C26_t4 n (C26_l4 n k) v13 v1 v0 v12
noncomputable def C26_t (n:Nat) (h4:Nat→Int→(List OB9)→(List OB9)→Int→RT1) (a0:List OB9) (a1:List OB9):RT1 :=
 cond ((((a0.length:Nat):Int) != ((a1.length:Nat):Int)))
 (some ((((false,()),()),())))
 (h4 n 0 a1 a0 (((a0.length:Nat):Int)))
noncomputable def C26 (n:Nat) (a0:List OB9) (a1:List OB9):RT1:=C26_t n (C26_l4 n) a0 a1
noncomputable def C166_t (n:Nat) (a0:(Int)×((List OB9)×((Bool)×FQ9))) (a1:(Int)×((List OB9)×((Bool)×FQ9))):RT1 :=
 cond ((a0.1==a1.1))
 ((C26 n a0.2.1 a1.2.1).bind fun r0 =>
  cond r0.1.1.1
  (cond ((a0.2.2.1==a1.2.2.1))
   (some ((((((a0.2.2.2.1==a1.2.2.2.1)&&((a0.2.2.2.2==a1.2.2.2.2)&&true)),()),()),())))
   (some ((((false,()),()),()))))
  (some ((((false,()),()),()))))
 (some ((((false,()),()),())))
noncomputable def C166 (n:Nat) (a0:(Int)×((List OB9)×((Bool)×FQ9))) (a1:(Int)×((List OB9)×((Bool)×FQ9))):RT1:=C166_t n a0 a1
noncomputable def C237_t (n:Nat) (a1:(Int)×(Int)) (b0:Bool):RT22 :=
 cond b0
 (some (((((0,0),()),((3,()),())),(b0,()))))
 (some (((((a1.1,a1.2),()),((0,()),())),(b0,()))))
noncomputable def C237 (n:Nat) (a1:(Int)×(Int)) (b0:Bool):RT22:=C237_t n a1 b0
noncomputable def C168_t6 (n:Nat) (g6:Int→Int→Int→Int→Int→(List OB9)→Bool→Int→Int→Bool→(List FQ9)→Int→Int→RT17) (v26:Int) (v25:Int) (b0_0:Int) (b0_1:Int) (b1_0:Int) (b1_1:List OB9) (b1_2:Bool) (b1_3:Int) (b1_4:Int) (b2:Bool) (b3:List FQ9) (b4_0:Int) (b4_1:Int):RT17 :=
 cond (decide (v26 < v25))
 (cond ((decide (0≤v26)&&decide (v26 < ((b3.length:Nat):Int))))
  ((C236 n (((b3.getD (Int.toNat v26) (0,0)).1,(b3.getD (Int.toNat v26) (0,0)).2)) (((b3.getD (Int.toNat v26) (0,0)).1,(b3.getD (Int.toNat v26) (0,0)).2)) b2).bind fun r3 =>
   cond ((decide (0≤v26)&&decide (v26 < ((b1_1.length:Nat):Int))))
   ((C430 n ((b1_1.getD (Int.toNat v26) ((0,(0,(0,(0,(0,0))))),((0,0),0))).2.2)).bind fun r4 =>
    (C236 n ((r3.1.1.1.1,r3.1.1.1.2)) ((r4.1.1.1.1,r4.1.1.1.2)) r3.2.1).bind fun r5 =>
    (C234 n ((b0_0,b0_1)) ((r5.1.1.1.1,r5.1.1.1.2)) r5.2.1).bind fun r6 =>
    g6 ((IntKind.wrap .i64 (v26+1))) v25 r6.1.1.1.1 r6.1.1.1.2 b1_0 b1_1 b1_2 b1_3 b1_4 r6.2.1 b3 b4_0 b4_1)
   (none))
  (none))
 ((C237 n ((b0_0,b0_1)) b2).bind fun r7 =>
  some (((((r7.1.1.1.1,r7.1.1.1.2),()),((r7.1.2.1.1,()),())),())))
noncomputable def C168_l6 (n:Nat):Nat→Int→Int→Int→Int→Int→(List OB9)→Bool→Int→Int→Bool→(List FQ9)→Int→Int→RT17
 | 0,_,_,_,_,_,_,_,_,_,_,_,_,_=>none
 | k+1,v26,v25,b0_0,b0_1,b1_0,b1_1,b1_2,b1_3,b1_4,b2,b3,b4_0,b4_1=>C168_t6 n (C168_l6 n k) v26 v25 b0_0 b0_1 b1_0 b1_1 b1_2 b1_3 b1_4 b2 b3 b4_0 b4_1
noncomputable def C168_t (n:Nat) (h6:Nat→Int→Int→Int→Int→Int→(List OB9)→Bool→Int→Int→Bool→(List FQ9)→Int→Int→RT17) (a0:(Int)×((List OB9)×((Bool)×FQ9))) (a1:List FQ9):RT17 :=
 (C123 n ((a0.1,(a0.2.1,(a0.2.2.1,(a0.2.2.2.1,a0.2.2.2.2))))) a1).bind fun r0 =>
 cond ((r0.1.1.1 != 0))
 (some (((((0,0),()),((r0.1.1.1,()),())),())))
 ((C426 n).bind fun r1 =>
  (C53 n ((a0.1,(a0.2.1,(a0.2.2.1,(a0.2.2.2.1,a0.2.2.2.2))))) a1 false).bind fun r2 =>
  h6 n 0 (((r2.1.1.1.length:Nat):Int)) r1.1.1.1.1 r1.1.1.1.2 a0.1 a0.2.1 a0.2.2.1 a0.2.2.2.1 a0.2.2.2.2 r2.2.1 r2.1.1.1 0 0)
noncomputable def C168 (n:Nat) (a0:(Int)×((List OB9)×((Bool)×FQ9))) (a1:List FQ9):RT17:=C168_t n (C168_l6 n) a0 a1
noncomputable def C409_t (n:Nat) (a0:List (Int)):RT1 :=
 some ((((decide (((a0.length:Nat):Int) > 4096),()),()),()))
noncomputable def C409 (n:Nat) (a0:List (Int)):RT1:=C409_t n a0
noncomputable def C390_t (n:Nat) (a0:(Int)×(Int)) (a1:(Int)×(Int)):RT0 :=
 cond (decide ((IntKind.wrap .i64 (a0.1*a1.2)) < (IntKind.wrap .i64 (a1.1*a0.2))))
 (some (((((-1),()),()),())))
 (cond (decide ((IntKind.wrap .i64 (a0.1*a1.2)) > (IntKind.wrap .i64 (a1.1*a0.2))))
  (some ((((1,()),()),())))
  (some ((((0,()),()),()))))
noncomputable def C390 (n:Nat) (a0:(Int)×(Int)) (a1:(Int)×(Int)):RT0:=C390_t n a0 a1
noncomputable def C414_t (n:Nat) (a0:Int) (a1:Int) (a2:Int):RT1 :=
 cond (decide (a0≥a1))
 (some ((((decide (a0≤a2),()),()),())))
 (some ((((false,()),()),())))
noncomputable def C414 (n:Nat) (a0:Int) (a1:Int) (a2:Int):RT1:=C414_t n a0 a1 a2
noncomputable def C388_t (n:Nat) (a0:Int):RT0 :=
 cond (decide (a0 < 0))
 (some (((((IntKind.wrap .i64 (0 - a0)),()),()),())))
 (some ((((a0,()),()),())))
noncomputable def C388 (n:Nat) (a0:Int):RT0:=C388_t n a0
noncomputable def C392_t1 (n:Nat) (g1:Int→Int→RT0) (v1:Int) (v0:Int):RT0 :=
 cond ((v1 != 0))
 (cond ((v1 != 0))
  (g1 ((Int.tmod v0 v1)) v1)
  (none))
 (some ((((v0,()),()),())))
noncomputable def C392_l1 (n:Nat):Nat→Int→Int→RT0
 | 0,_,_=>none
 | k+1,v1,v0=>C392_t1 n (C392_l1 n k) v1 v0
noncomputable def C392_t (n:Nat) (h1:Nat→Int→Int→RT0) (a0:Int) (a1:Int):RT0 :=
 h1 n a1 a0
noncomputable def C392 (n:Nat) (a0:Int) (a1:Int):RT0:=C392_t n (C392_l1 n) a0 a1
noncomputable def C415_t (n:Nat) (a0:(Int)×(Int)):RT1 :=
 (C414 n a0.2 1 1000000000).bind fun r0 =>
 cond r0.1.1.1
 ((C414 n a0.1 (-1000000000) 1000000000).bind fun r1 =>
  cond r1.1.1.1
  ((C388 n a0.1).bind fun r2 =>
   (C392 n r2.1.1.1 a0.2).bind fun r3 =>
   some (((((r3.1.1.1==1),()),()),())))
  (some ((((false,()),()),()))))
 (some ((((false,()),()),())))
noncomputable def C415 (n:Nat) (a0:(Int)×(Int)):RT1:=C415_t n a0
noncomputable def C397_t (n:Nat) (a0:(Int)×(Int)) (a1:(Int)×(Int)):RT0 :=
 (C415 n ((a0.1,a0.2))).bind fun r0 =>
 cond (!r0.1.1.1)
 (some ((((1,()),()),())))
 ((C415 n ((a1.1,a1.2))).bind fun r1 =>
  cond (!r1.1.1.1)
  (some ((((1,()),()),())))
  (some ((((0,()),()),()))))
noncomputable def C397 (n:Nat) (a0:(Int)×(Int)) (a1:(Int)×(Int)):RT0:=C397_t n a0 a1
noncomputable def C78_t (n:Nat) (a0:(Int)×(Int)) (a1:(Int)×(Int)):RT5 :=
 (C397 n ((a0.1,a0.2)) ((a1.1,a1.2))).bind fun r0 =>
 cond ((r0.1.1.1 != 0))
 (some ((((0,()),((r0.1.1.1,()),())),())))
 ((C390 n ((a0.1,a0.2)) ((a1.1,a1.2))).bind fun r1 =>
  some ((((r1.1.1.1,()),((0,()),())),())))
noncomputable def C78 (n:Nat) (a0:(Int)×(Int)) (a1:(Int)×(Int)):RT5:=C78_t n a0 a1
noncomputable def C372_t (n:Nat) (a0:(Int)×(Int)) (a1:(Int)×(Int)):RT1 :=
 (C78 n ((a0.1,a0.2)) ((a1.1,a1.2))).bind fun r0 =>
 cond ((r0.1.2.1.1==0))
 (some ((((decide (r0.1.1.1 < 0),()),()),())))
 (some ((((false,()),()),())))
noncomputable def C372 (n:Nat) (a0:(Int)×(Int)) (a1:(Int)×(Int)):RT1:=C372_t n a0 a1
noncomputable def C146_t (n:Nat) (a0:Int) (a1:Int):RT17 :=
 (C388 n a0).bind fun r0 =>
 (C388 n a1).bind fun r1 =>
 (C392 n r0.1.1.1 r1.1.1.1).bind fun r2 =>
 cond ((r2.1.1.1 != 0))
 (cond ((r2.1.1.1 != 0))
  (cond (decide ((IntKind.wrap .i64 (Int.tdiv a1 r2.1.1.1)) < 0))
   ((C415 n (((IntKind.wrap .i64 (0 - (IntKind.wrap .i64 (Int.tdiv a0 r2.1.1.1)))),(IntKind.wrap .i64 (0 - (IntKind.wrap .i64 (Int.tdiv a1 r2.1.1.1))))))).bind fun r3 =>
    cond (!r3.1.1.1)
    (some (((((0,0),()),((3,()),())),())))
    (some ((((((IntKind.wrap .i64 (0 - (IntKind.wrap .i64 (Int.tdiv a0 r2.1.1.1)))),(IntKind.wrap .i64 (0 - (IntKind.wrap .i64 (Int.tdiv a1 r2.1.1.1))))),()),((0,()),())),()))))
   ((C415 n (((IntKind.wrap .i64 (Int.tdiv a0 r2.1.1.1)),(IntKind.wrap .i64 (Int.tdiv a1 r2.1.1.1))))).bind fun r4 =>
    cond (!r4.1.1.1)
    (some (((((0,0),()),((3,()),())),())))
    (some ((((((IntKind.wrap .i64 (Int.tdiv a0 r2.1.1.1)),(IntKind.wrap .i64 (Int.tdiv a1 r2.1.1.1))),()),((0,()),())),())))))
  (none))
 (none)
noncomputable def C146 (n:Nat) (a0:Int) (a1:Int):RT17:=C146_t n a0 a1
noncomputable def C389_t (n:Nat) (a0:(Int)×(Int)) (a1:(Int)×(Int)):RT17 :=
 (C146 n ((IntKind.wrap .i64 ((IntKind.wrap .i64 (a0.1*a1.2))+(IntKind.wrap .i64 (a1.1*a0.2))))) ((IntKind.wrap .i64 (a0.2*a1.2)))).bind fun r0 =>
 some (((((r0.1.1.1.1,r0.1.1.1.2),()),((r0.1.2.1.1,()),())),()))
noncomputable def C389 (n:Nat) (a0:(Int)×(Int)) (a1:(Int)×(Int)):RT17:=C389_t n a0 a1
noncomputable def C264_t (n:Nat) (a0:(Int)×(Int)) (a1:(Int)×(Int)):RT17 :=
 (C397 n ((a0.1,a0.2)) ((a1.1,a1.2))).bind fun r0 =>
 cond ((r0.1.1.1 != 0))
 (some (((((0,0),()),((r0.1.1.1,()),())),())))
 ((C389 n ((a0.1,a0.2)) ((a1.1,a1.2))).bind fun r1 =>
  some (((((r1.1.1.1.1,r1.1.1.1.2),()),((r1.1.2.1.1,()),())),())))
noncomputable def C264 (n:Nat) (a0:(Int)×(Int)) (a1:(Int)×(Int)):RT17:=C264_t n a0 a1
noncomputable def C393_t (n:Nat) (a0:(Int)×(Int)) (a1:(Int)×(Int)):RT17 :=
 (C146 n ((IntKind.wrap .i64 (a0.1*a1.1))) ((IntKind.wrap .i64 (a0.2*a1.2)))).bind fun r0 =>
 some (((((r0.1.1.1.1,r0.1.1.1.2),()),((r0.1.2.1.1,()),())),()))
noncomputable def C393 (n:Nat) (a0:(Int)×(Int)) (a1:(Int)×(Int)):RT17:=C393_t n a0 a1
noncomputable def C275_t (n:Nat) (a0:Int):RT3 :=
 some (((((a0,1),()),()),()))
noncomputable def C275 (n:Nat) (a0:Int):RT3:=C275_t n a0
noncomputable def C216_t12 (n:Nat) (g4:Int→Int→(List OB9)→Bool→Int→Int→(List FQ9)→(List (List FQ9))→RT23) (g8:Int→Int→Int→(List OB9)→Bool→Int→Int→(List FQ9)→(List FQ9)→(List (List FQ9))→RT23) (g12:Int→Int→Int→Int→Int→(List OB9)→Bool→Int→Int→(List FQ9)→(List (List FQ9))→(List FQ9)→RT23) (v11:Int) (v9:Int) (v7:Int) (v10:Int) (b0_0:Int) (b0_1:List OB9) (b0_2:Bool) (b0_3:Int) (b0_4:Int) (b1:List FQ9) (b2:List (List FQ9)) (b3:List FQ9):RT23 :=
 cond (decide (v11 < ((b0_1.length:Nat):Int)))
 (cond ((decide (0≤v11)&&decide (v11 < ((b0_1.length:Nat):Int))))
  (cond ((decide (0≤v11)&&decide (v11 < ((b0_1.length:Nat):Int))))
   (cond ((decide (0≤v7)&&decide (v7 < 6)))
    (cond ((decide (0≤v11)&&decide (v11 < ((b0_1.length:Nat):Int))))
     (cond ((decide (0≤v9)&&decide (v9 < 6)))
      (g12 ((IntKind.wrap .i64 (v11+1))) v9 v7 ((IntKind.wrap .i64 (v10+(IntKind.wrap .i64 ((IntKind.wrap .i64 ((b0_1.getD (Int.toNat v11) ((0,(0,(0,(0,(0,0))))),((0,0),0))).2.2*(IntKind.wrap .i64 (cond (Nat.beq (Int.toNat v7) 0) (b0_1.getD (Int.toNat v11) ((0,(0,(0,(0,(0,0))))),((0,0),0))).1.1 (cond (Nat.beq ((Int.toNat v7) - 1) 0) (b0_1.getD (Int.toNat v11) ((0,(0,(0,(0,(0,0))))),((0,0),0))).1.2.1 (cond (Nat.beq (((Int.toNat v7) - 1) - 1) 0) (b0_1.getD (Int.toNat v11) ((0,(0,(0,(0,(0,0))))),((0,0),0))).1.2.2.1 (cond (Nat.beq ((((Int.toNat v7) - 1) - 1) - 1) 0) (b0_1.getD (Int.toNat v11) ((0,(0,(0,(0,(0,0))))),((0,0),0))).1.2.2.2.1 (cond (Nat.beq (((((Int.toNat v7) - 1) - 1) - 1) - 1) 0) (b0_1.getD (Int.toNat v11) ((0,(0,(0,(0,(0,0))))),((0,0),0))).1.2.2.2.2.1 (cond (Nat.beq ((((((Int.toNat v7) - 1) - 1) - 1) - 1) - 1) 0) (b0_1.getD (Int.toNat v11) ((0,(0,(0,(0,(0,0))))),((0,0),0))).1.2.2.2.2.2 0)))))))))*(IntKind.wrap .i64 (cond (Nat.beq (Int.toNat v9) 0) (b0_1.getD (Int.toNat v11) ((0,(0,(0,(0,(0,0))))),((0,0),0))).1.1 (cond (Nat.beq ((Int.toNat v9) - 1) 0) (b0_1.getD (Int.toNat v11) ((0,(0,(0,(0,(0,0))))),((0,0),0))).1.2.1 (cond (Nat.beq (((Int.toNat v9) - 1) - 1) 0) (b0_1.getD (Int.toNat v11) ((0,(0,(0,(0,(0,0))))),((0,0),0))).1.2.2.1 (cond (Nat.beq ((((Int.toNat v9) - 1) - 1) - 1) 0) (b0_1.getD (Int.toNat v11) ((0,(0,(0,(0,(0,0))))),((0,0),0))).1.2.2.2.1 (cond (Nat.beq (((((Int.toNat v9) - 1) - 1) - 1) - 1) 0) (b0_1.getD (Int.toNat v11) ((0,(0,(0,(0,(0,0))))),((0,0),0))).1.2.2.2.2.1 (cond (Nat.beq ((((((Int.toNat v9) - 1) - 1) - 1) - 1) - 1) 0) (b0_1.getD (Int.toNat v11) ((0,(0,(0,(0,(0,0))))),((0,0),0))).1.2.2.2.2.2 0)))))))))))) b0_0 b0_1 b0_2 b0_3 b0_4 b1 b2 b3)
      (none))
     (none))
    (none))
   (none))
  (none))
 ((C275 n v10).bind fun r0 =>
  cond (decide (((b3.length+((r0.1.1.1.1,r0.1.1.1.2) :: []).length)*17)≤70368744177664))
  (g8 ((IntKind.wrap .i64 (v9+1))) v7 b0_0 b0_1 b0_2 b0_3 b0_4 ((b3++((r0.1.1.1.1,r0.1.1.1.2) :: []))) b1 b2)
  (none))
noncomputable def C216_l12 (n:Nat) (g4:Int→Int→(List OB9)→Bool→Int→Int→(List FQ9)→(List (List FQ9))→RT23) (g8:Int→Int→Int→(List OB9)→Bool→Int→Int→(List FQ9)→(List FQ9)→(List (List FQ9))→RT23):Nat→Int→Int→Int→Int→Int→(List OB9)→Bool→Int→Int→(List FQ9)→(List (List FQ9))→(List FQ9)→RT23
 | 0,_,_,_,_,_,_,_,_,_,_,_,_=>none
 | k+1,v11,v9,v7,v10,b0_0,b0_1,b0_2,b0_3,b0_4,b1,b2,b3=>C216_t12 n g4 g8 (C216_l12 n g4 g8 k) v11 v9 v7 v10 b0_0 b0_1 b0_2 b0_3 b0_4 b1 b2 b3
noncomputable def C216_t18 (n:Nat) (g4:Int→Int→(List OB9)→Bool→Int→Int→(List FQ9)→(List (List FQ9))→RT23) (g18:Int→Int→Int→(List OB9)→Bool→Int→Int→Int→Int→(List FQ9)→(List (List FQ9))→(List FQ9)→RT23) (v13:Int) (v7:Int) (b0_0:Int) (b0_1:List OB9) (b0_2:Bool) (b0_3:Int) (b0_4:Int) (b1_0:Int) (b1_1:Int) (b2:List FQ9) (b3:List (List FQ9)) (b4:List FQ9):RT23 :=
 cond (decide (v13 < ((b0_1.length:Nat):Int)))
 (cond ((decide (0≤v13)&&decide (v13 < ((b0_1.length:Nat):Int))))
  (cond ((decide (0≤v13)&&decide (v13 < ((b0_1.length:Nat):Int))))
   (cond ((decide (0≤v7)&&decide (v7 < 6)))
    ((C275 n ((IntKind.wrap .i64 ((b0_1.getD (Int.toNat v13) ((0,(0,(0,(0,(0,0))))),((0,0),0))).2.2*(IntKind.wrap .i64 (cond (Nat.beq (Int.toNat v7) 0) (b0_1.getD (Int.toNat v13) ((0,(0,(0,(0,(0,0))))),((0,0),0))).1.1 (cond (Nat.beq ((Int.toNat v7) - 1) 0) (b0_1.getD (Int.toNat v13) ((0,(0,(0,(0,(0,0))))),((0,0),0))).1.2.1 (cond (Nat.beq (((Int.toNat v7) - 1) - 1) 0) (b0_1.getD (Int.toNat v13) ((0,(0,(0,(0,(0,0))))),((0,0),0))).1.2.2.1 (cond (Nat.beq ((((Int.toNat v7) - 1) - 1) - 1) 0) (b0_1.getD (Int.toNat v13) ((0,(0,(0,(0,(0,0))))),((0,0),0))).1.2.2.2.1 (cond (Nat.beq (((((Int.toNat v7) - 1) - 1) - 1) - 1) 0) (b0_1.getD (Int.toNat v13) ((0,(0,(0,(0,(0,0))))),((0,0),0))).1.2.2.2.2.1 (cond (Nat.beq ((((((Int.toNat v7) - 1) - 1) - 1) - 1) - 1) 0) (b0_1.getD (Int.toNat v13) ((0,(0,(0,(0,(0,0))))),((0,0),0))).1.2.2.2.2.2 0))))))))))).bind fun r2 =>
     cond ((decide (0≤v13)&&decide (v13 < ((b0_1.length:Nat):Int))))
     ((C393 n ((r2.1.1.1.1,r2.1.1.1.2)) (((b0_1.getD (Int.toNat v13) ((0,(0,(0,(0,(0,0))))),((0,0),0))).2.1.1,(b0_1.getD (Int.toNat v13) ((0,(0,(0,(0,(0,0))))),((0,0),0))).2.1.2))).bind fun r3 =>
      cond ((r3.1.2.1.1 != 0))
      (some (((([],()),(([],()),((r3.1.2.1.1,()),()))),((b0_0,(b0_1,(b0_2,(b0_3,b0_4)))),()))))
      ((C389 n ((b1_0,b1_1)) ((r3.1.1.1.1,r3.1.1.1.2))).bind fun r4 =>
       cond ((r4.1.2.1.1 != 0))
       (some (((([],()),(([],()),((r4.1.2.1.1,()),()))),((b0_0,(b0_1,(b0_2,(b0_3,b0_4)))),()))))
       (g18 ((IntKind.wrap .i64 (v13+1))) v7 b0_0 b0_1 b0_2 b0_3 b0_4 r4.1.1.1.1 r4.1.1.1.2 b2 b3 b4)))
     (none))
    (none))
   (none))
  (none))
 (cond b0_2
  ((C275 n 1).bind fun r5 =>
   cond (decide (((b4.length+((r5.1.1.1.1,r5.1.1.1.2) :: []).length)*17)≤70368744177664))
   (cond (decide (((b3.length+((b4++((r5.1.1.1.1,r5.1.1.1.2) :: [])) :: []).length)*25)≤70368744177664))
    (cond (decide (((b2.length+((b1_0,b1_1) :: []).length)*17)≤70368744177664))
     (g4 ((IntKind.wrap .i64 (v7+1))) b0_0 b0_1 b0_2 b0_3 b0_4 ((b2++((b1_0,b1_1) :: []))) ((b3++((b4++((r5.1.1.1.1,r5.1.1.1.2) :: [])) :: []))))
     (none))
    (none))
   (none))
  (cond (decide (((b3.length+(b4 :: []).length)*25)≤70368744177664))
   (cond (decide (((b2.length+((b1_0,b1_1) :: []).length)*17)≤70368744177664))
    (g4 ((IntKind.wrap .i64 (v7+1))) b0_0 b0_1 b0_2 b0_3 b0_4 ((b2++((b1_0,b1_1) :: []))) ((b3++(b4 :: []))))
    (none))
   (none)))
noncomputable def C216_l18 (n:Nat) (g4:Int→Int→(List OB9)→Bool→Int→Int→(List FQ9)→(List (List FQ9))→RT23):Nat→Int→Int→Int→(List OB9)→Bool→Int→Int→Int→Int→(List FQ9)→(List (List FQ9))→(List FQ9)→RT23
 | 0,_,_,_,_,_,_,_,_,_,_,_,_=>none
 | k+1,v13,v7,b0_0,b0_1,b0_2,b0_3,b0_4,b1_0,b1_1,b2,b3,b4=>C216_t18 n g4 (C216_l18 n g4 k) v13 v7 b0_0 b0_1 b0_2 b0_3 b0_4 b1_0 b1_1 b2 b3 b4
noncomputable def C216_t8 (n:Nat) (h12:Nat→Int→Int→Int→Int→Int→(List OB9)→Bool→Int→Int→(List FQ9)→(List (List FQ9))→(List FQ9)→RT23) (h18:Nat→Int→Int→Int→(List OB9)→Bool→Int→Int→Int→Int→(List FQ9)→(List (List FQ9))→(List FQ9)→RT23) (g4:Int→Int→(List OB9)→Bool→Int→Int→(List FQ9)→(List (List FQ9))→RT23) (g8:Int→Int→Int→(List OB9)→Bool→Int→Int→(List FQ9)→(List FQ9)→(List (List FQ9))→RT23) (v9:Int) (v7:Int) (b0_0:Int) (b0_1:List OB9) (b0_2:Bool) (b0_3:Int) (b0_4:Int) (b1:List FQ9) (b2:List FQ9) (b3:List (List FQ9)):RT23 :=
 cond (decide (v9 < b0_0))
 (h12 n 0 v9 v7 0 b0_0 b0_1 b0_2 b0_3 b0_4 b2 b3 b1)
 ((C275 n 0).bind fun r1 =>
  h18 n 0 v7 b0_0 b0_1 b0_2 b0_3 b0_4 r1.1.1.1.1 r1.1.1.1.2 b2 b3 b1)
noncomputable def C216_l8 (n:Nat) (g4:Int→Int→(List OB9)→Bool→Int→Int→(List FQ9)→(List (List FQ9))→RT23):Nat→Int→Int→Int→(List OB9)→Bool→Int→Int→(List FQ9)→(List FQ9)→(List (List FQ9))→RT23
 | 0,_,_,_,_,_,_,_,_,_,_=>none
 | k+1,v9,v7,b0_0,b0_1,b0_2,b0_3,b0_4,b1,b2,b3=>C216_t8 n (C216_l12 n g4 (C216_l8 n g4 k)) (C216_l18 n g4) g4 (C216_l8 n g4 k) v9 v7 b0_0 b0_1 b0_2 b0_3 b0_4 b1 b2 b3
noncomputable def C216_t34 (n:Nat) (g34:Int→Int→(List OB9)→Bool→Int→Int→(List FQ9)→(List FQ9)→(List (List FQ9))→RT23) (v19:Int) (b0_0:Int) (b0_1:List OB9) (b0_2:Bool) (b0_3:Int) (b0_4:Int) (b1:List FQ9) (b2:List FQ9) (b3:List (List FQ9)):RT23 :=
 cond (decide (v19 < b0_0))
 ((C275 n 1).bind fun r6 =>
  cond (decide (((b1.length+((r6.1.1.1.1,r6.1.1.1.2) :: []).length)*17)≤70368744177664))
  (g34 ((IntKind.wrap .i64 (v19+1))) b0_0 b0_1 b0_2 b0_3 b0_4 ((b1++((r6.1.1.1.1,r6.1.1.1.2) :: []))) b2 b3)
  (none))
 ((C275 n 0).bind fun r7 =>
  cond (decide (((b1.length+((r7.1.1.1.1,r7.1.1.1.2) :: []).length)*17)≤70368744177664))
  (cond (decide (((b3.length+((b1++((r7.1.1.1.1,r7.1.1.1.2) :: [])) :: []).length)*25)≤70368744177664))
   (cond (decide (((b2.length+((b0_3,b0_4) :: []).length)*17)≤70368744177664))
    (some (((((b3++((b1++((r7.1.1.1.1,r7.1.1.1.2) :: [])) :: [])),()),(((b2++((b0_3,b0_4) :: [])),()),((0,()),()))),((b0_0,(b0_1,(b0_2,(b0_3,b0_4)))),()))))
    (none))
   (none))
  (none))
noncomputable def C216_l34 (n:Nat):Nat→Int→Int→(List OB9)→Bool→Int→Int→(List FQ9)→(List FQ9)→(List (List FQ9))→RT23
 | 0,_,_,_,_,_,_,_,_,_=>none
 | k+1,v19,b0_0,b0_1,b0_2,b0_3,b0_4,b1,b2,b3=>C216_t34 n (C216_l34 n k) v19 b0_0 b0_1 b0_2 b0_3 b0_4 b1 b2 b3
noncomputable def C216_t4 (n:Nat) (h8:Nat→Int→Int→Int→(List OB9)→Bool→Int→Int→(List FQ9)→(List FQ9)→(List (List FQ9))→RT23) (h34:Nat→Int→Int→(List OB9)→Bool→Int→Int→(List FQ9)→(List FQ9)→(List (List FQ9))→RT23) (g4:Int→Int→(List OB9)→Bool→Int→Int→(List FQ9)→(List (List FQ9))→RT23) (v7:Int) (b0_0:Int) (b0_1:List OB9) (b0_2:Bool) (b0_3:Int) (b0_4:Int) (b1:List FQ9) (b2:List (List FQ9)):RT23 :=
 cond (decide (v7 < b0_0))
 (h8 n 0 v7 b0_0 b0_1 b0_2 b0_3 b0_4 [] b1 b2)
 (cond b0_2
  (h34 n 0 b0_0 b0_1 b0_2 b0_3 b0_4 [] b1 b2)
  (some ((((b2,()),((b1,()),((0,()),()))),((b0_0,(b0_1,(b0_2,(b0_3,b0_4)))),())))))
noncomputable def C216_l4 (n:Nat):Nat→Int→Int→(List OB9)→Bool→Int→Int→(List FQ9)→(List (List FQ9))→RT23
 | 0,_,_,_,_,_,_,_,_=>none
 | k+1,v7,b0_0,b0_1,b0_2,b0_3,b0_4,b1,b2=>C216_t4 n (C216_l8 n (C216_l4 n k)) (C216_l34 n) (C216_l4 n k) v7 b0_0 b0_1 b0_2 b0_3 b0_4 b1 b2
noncomputable def C216_t (n:Nat) (h4:Nat→Int→Int→(List OB9)→Bool→Int→Int→(List FQ9)→(List (List FQ9))→RT23) (b0:(Int)×((List OB9)×((Bool)×FQ9))):RT23 :=
 h4 n 0 b0.1 b0.2.1 b0.2.2.1 b0.2.2.2.1 b0.2.2.2.2 [] []
noncomputable def C216 (n:Nat) (b0:(Int)×((List OB9)×((Bool)×FQ9))):RT23:=C216_t n (C216_l4 n) b0
noncomputable def C288_t3 (n:Nat) (g3:Int→Bool→Int→((Int)×((Int)×((Int)×((Int)×FQ9))))×(FQ9×(Int))→RT1) (v6:Int) (v5:Bool) (v1:Int) (v0:((Int)×((Int)×((Int)×((Int)×FQ9))))×(FQ9×(Int))):RT1 :=
 cond (decide (v6 < 6))
 (cond ((decide (0≤v6)&&decide (v6 < 6)))
  (cond (decide ((cond (Nat.beq (Int.toNat v6) 0) v0.1.1 (cond (Nat.beq ((Int.toNat v6) - 1) 0) v0.1.2.1 (cond (Nat.beq (((Int.toNat v6) - 1) - 1) 0) v0.1.2.2.1 (cond (Nat.beq ((((Int.toNat v6) - 1) - 1) - 1) 0) v0.1.2.2.2.1 (cond (Nat.beq (((((Int.toNat v6) - 1) - 1) - 1) - 1) 0) v0.1.2.2.2.2.1 (cond (Nat.beq ((((((Int.toNat v6) - 1) - 1) - 1) - 1) - 1) 0) v0.1.2.2.2.2.2 0)))))) < (-3)))
   (some ((((false,()),()),())))
   (cond (decide ((cond (Nat.beq (Int.toNat v6) 0) v0.1.1 (cond (Nat.beq ((Int.toNat v6) - 1) 0) v0.1.2.1 (cond (Nat.beq (((Int.toNat v6) - 1) - 1) 0) v0.1.2.2.1 (cond (Nat.beq ((((Int.toNat v6) - 1) - 1) - 1) 0) v0.1.2.2.2.1 (cond (Nat.beq (((((Int.toNat v6) - 1) - 1) - 1) - 1) 0) v0.1.2.2.2.2.1 (cond (Nat.beq ((((((Int.toNat v6) - 1) - 1) - 1) - 1) - 1) 0) v0.1.2.2.2.2.2 0)))))) > 3))
    (some ((((false,()),()),())))
    (cond (decide (v6≥v1))
     (cond (((cond (Nat.beq (Int.toNat v6) 0) v0.1.1 (cond (Nat.beq ((Int.toNat v6) - 1) 0) v0.1.2.1 (cond (Nat.beq (((Int.toNat v6) - 1) - 1) 0) v0.1.2.2.1 (cond (Nat.beq ((((Int.toNat v6) - 1) - 1) - 1) 0) v0.1.2.2.2.1 (cond (Nat.beq (((((Int.toNat v6) - 1) - 1) - 1) - 1) 0) v0.1.2.2.2.2.1 (cond (Nat.beq ((((((Int.toNat v6) - 1) - 1) - 1) - 1) - 1) 0) v0.1.2.2.2.2.2 0)))))) != 0))
      (some ((((false,()),()),())))
      (cond v5
       (g3 ((IntKind.wrap .i64 (v6+1))) true v1 v0)
       (g3 ((IntKind.wrap .i64 (v6+1))) (((cond (Nat.beq (Int.toNat v6) 0) v0.1.1 (cond (Nat.beq ((Int.toNat v6) - 1) 0) v0.1.2.1 (cond (Nat.beq (((Int.toNat v6) - 1) - 1) 0) v0.1.2.2.1 (cond (Nat.beq ((((Int.toNat v6) - 1) - 1) - 1) 0) v0.1.2.2.2.1 (cond (Nat.beq (((((Int.toNat v6) - 1) - 1) - 1) - 1) 0) v0.1.2.2.2.2.1 (cond (Nat.beq ((((((Int.toNat v6) - 1) - 1) - 1) - 1) - 1) 0) v0.1.2.2.2.2.2 0)))))) != 0)) v1 v0)))
     (cond v5
      (g3 ((IntKind.wrap .i64 (v6+1))) true v1 v0)
      (g3 ((IntKind.wrap .i64 (v6+1))) (((cond (Nat.beq (Int.toNat v6) 0) v0.1.1 (cond (Nat.beq ((Int.toNat v6) - 1) 0) v0.1.2.1 (cond (Nat.beq (((Int.toNat v6) - 1) - 1) 0) v0.1.2.2.1 (cond (Nat.beq ((((Int.toNat v6) - 1) - 1) - 1) 0) v0.1.2.2.2.1 (cond (Nat.beq (((((Int.toNat v6) - 1) - 1) - 1) - 1) 0) v0.1.2.2.2.2.1 (cond (Nat.beq ((((((Int.toNat v6) - 1) - 1) - 1) - 1) - 1) 0) v0.1.2.2.2.2.2 0)))))) != 0)) v1 v0)))))
  (none))
 (cond v5
  ((C415 n ((v0.2.1.1,v0.2.1.2))).bind fun r0 =>
   cond r0.1.1.1
   ((C414 n v0.2.2 1 100).bind fun r1 =>
    some ((((r1.1.1.1,()),()),())))
   (some ((((false,()),()),()))))
  (some ((((false,()),()),()))))
noncomputable def C288_l3 (n:Nat):Nat→Int→Bool→Int→((Int)×((Int)×((Int)×((Int)×FQ9))))×(FQ9×(Int))→RT1
 | 0,_,_,_,_=>none
 | k+1,v6,v5,v1,v0=>C288_t3 n (C288_l3 n k) v6 v5 v1 v0
noncomputable def C288_t (n:Nat) (h3:Nat→Int→Bool→Int→((Int)×((Int)×((Int)×((Int)×FQ9))))×(FQ9×(Int))→RT1) (a0:((Int)×((Int)×((Int)×((Int)×FQ9))))×(FQ9×(Int))) (a1:Int):RT1 :=
 h3 n 0 false a1 a0
noncomputable def C288 (n:Nat) (a0:((Int)×((Int)×((Int)×((Int)×FQ9))))×(FQ9×(Int))) (a1:Int):RT1:=C288_t n (C288_l3 n) a0 a1
noncomputable def C418_t4 (n:Nat) (g4:Int→Int→(List OB9)→Bool→Int→Int→RT24) (v3:Int) (b0_0:Int) (b0_1:List OB9) (b0_2:Bool) (b0_3:Int) (b0_4:Int):RT24 :=
 cond (decide (v3 < ((b0_1.length:Nat):Int)))
 (cond ((decide (0≤v3)&&decide (v3 < ((b0_1.length:Nat):Int))))
  ((C288 n ((((b0_1.getD (Int.toNat v3) ((0,(0,(0,(0,(0,0))))),((0,0),0))).1.1,((b0_1.getD (Int.toNat v3) ((0,(0,(0,(0,(0,0))))),((0,0),0))).1.2.1,((b0_1.getD (Int.toNat v3) ((0,(0,(0,(0,(0,0))))),((0,0),0))).1.2.2.1,((b0_1.getD (Int.toNat v3) ((0,(0,(0,(0,(0,0))))),((0,0),0))).1.2.2.2.1,((b0_1.getD (Int.toNat v3) ((0,(0,(0,(0,(0,0))))),((0,0),0))).1.2.2.2.2.1,(b0_1.getD (Int.toNat v3) ((0,(0,(0,(0,(0,0))))),((0,0),0))).1.2.2.2.2.2))))),(((b0_1.getD (Int.toNat v3) ((0,(0,(0,(0,(0,0))))),((0,0),0))).2.1.1,(b0_1.getD (Int.toNat v3) ((0,(0,(0,(0,(0,0))))),((0,0),0))).2.1.2),(b0_1.getD (Int.toNat v3) ((0,(0,(0,(0,(0,0))))),((0,0),0))).2.2))) b0_0).bind fun r2 =>
   cond (!r2.1.1.1)
   (some ((((false,()),()),((b0_0,(b0_1,(b0_2,(b0_3,b0_4)))),()))))
   (g4 ((IntKind.wrap .i64 (v3+1))) b0_0 b0_1 b0_2 b0_3 b0_4))
  (none))
 (some ((((true,()),()),((b0_0,(b0_1,(b0_2,(b0_3,b0_4)))),()))))
noncomputable def C418_l4 (n:Nat):Nat→Int→Int→(List OB9)→Bool→Int→Int→RT24
 | 0,_,_,_,_,_,_=>none
 | k+1,v3,b0_0,b0_1,b0_2,b0_3,b0_4=>C418_t4 n (C418_l4 n k) v3 b0_0 b0_1 b0_2 b0_3 b0_4
noncomputable def C418_t (n:Nat) (h4:Nat→Int→Int→(List OB9)→Bool→Int→Int→RT24) (b0:(Int)×((List OB9)×((Bool)×FQ9))):RT24 :=
 (C414 n b0.1 1 6).bind fun r0 =>
 cond (!r0.1.1.1)
 (some ((((false,()),()),((b0.1,(b0.2.1,(b0.2.2.1,(b0.2.2.2.1,b0.2.2.2.2)))),()))))
 (cond (decide (((b0.2.1.length:Nat):Int) > 24))
  (some ((((false,()),()),((b0.1,(b0.2.1,(b0.2.2.1,(b0.2.2.2.1,b0.2.2.2.2)))),()))))
  ((C415 n ((b0.2.2.2.1,b0.2.2.2.2))).bind fun r1 =>
   cond (!r1.1.1.1)
   (some ((((false,()),()),((b0.1,(b0.2.1,(b0.2.2.1,(b0.2.2.2.1,b0.2.2.2.2)))),()))))
   (cond (!b0.2.2.1)
    (cond ((b0.2.2.2.1 != 0))
     (some ((((false,()),()),((b0.1,(b0.2.1,(b0.2.2.1,(b0.2.2.2.1,b0.2.2.2.2)))),()))))
     (h4 n 0 b0.1 b0.2.1 b0.2.2.1 b0.2.2.2.1 b0.2.2.2.2))
    (h4 n 0 b0.1 b0.2.1 b0.2.2.1 b0.2.2.2.1 b0.2.2.2.2))))
noncomputable def C418 (n:Nat) (b0:(Int)×((List OB9)×((Bool)×FQ9))):RT24:=C418_t n (C418_l4 n) b0
noncomputable def C269_t (n:Nat) (a0:(Int)×((List OB9)×((Bool)×FQ9))):RT25 :=
 (C418 n ((a0.1,(a0.2.1,(a0.2.2.1,(a0.2.2.2.1,a0.2.2.2.2)))))).bind fun r0 =>
 cond (!r0.1.1.1)
 (some (((([],()),(([],()),((1,()),()))),())))
 ((C216 n ((r0.2.1.1,(r0.2.1.2.1,(r0.2.1.2.2.1,(r0.2.1.2.2.2.1,r0.2.1.2.2.2.2)))))).bind fun r1 =>
  some ((((r1.1.1.1,()),((r1.1.2.1.1,()),((r1.1.2.2.1.1,()),()))),())))
noncomputable def C269 (n:Nat) (a0:(Int)×((List OB9)×((Bool)×FQ9))):RT25:=C269_t n a0
noncomputable def C391_t (n:Nat) (a0:(Int)×(Int)) (a1:(Int)×(Int)):RT17 :=
 (C146 n ((IntKind.wrap .i64 (a0.1*a1.2))) ((IntKind.wrap .i64 (a0.2*a1.1)))).bind fun r0 =>
 some (((((r0.1.1.1.1,r0.1.1.1.2),()),((r0.1.2.1.1,()),())),()))
noncomputable def C391 (n:Nat) (a0:(Int)×(Int)) (a1:(Int)×(Int)):RT17:=C391_t n a0 a1
noncomputable def C285_t3 (n:Nat) (g3:Int→(List (List FQ9))→Int→(List Nat)→(List (List FQ9))→(List FQ9)→RT26) (v6:Int) (v0:List (List FQ9)) (b0_2:Int) (b1p:List Nat) (b1i:List (List FQ9)) (b2:List FQ9):RT26 :=
 cond (decide (v6 < ((v0.length:Nat):Int)))
 (cond ((decide (0≤v6)&&decide (v6 < ((v0.length:Nat):Int))))
  (cond (decide (((0+(v0.getD (Int.toNat v6) []).length)*17)≤70368744177664))
   (cond (decide (((b1p.length+1)*25)≤70368744177664))
    (g3 ((IntKind.wrap .i64 (v6+1))) v0 b0_2 ((b1p++(b1i.length :: []))) ((b1i++(([]++(v0.getD (Int.toNat v6) [])) :: []))) b2)
    (none))
   (none))
  (none))
 (some ((((((b1p,b1i),(b2,(b0_2,()))),()),()),())))
noncomputable def C285_l3 (n:Nat):Nat→Int→(List (List FQ9))→Int→(List Nat)→(List (List FQ9))→(List FQ9)→RT26
 | 0,_,_,_,_,_,_=>none
 | k+1,v6,v0,b0_2,b1p,b1i,b2=>C285_t3 n (C285_l3 n k) v6 v0 b0_2 b1p b1i b2
noncomputable def C285_t (n:Nat) (h3:Nat→Int→(List (List FQ9))→Int→(List Nat)→(List (List FQ9))→(List FQ9)→RT26) (a0:List (List FQ9)) (a1:List FQ9):RT26 :=
 cond (decide (((0+a1.length)*17)≤70368744177664))
 (h3 n 0 a0 0 [] [] (([]++a1)))
 (none)
noncomputable def C285 (n:Nat) (a0:List (List FQ9)) (a1:List FQ9):RT26:=C285_t n (C285_l3 n) a0 a1
noncomputable def C394_t (n:Nat) (a0:(Int)×(Int)):RT3 :=
 some ((((((IntKind.wrap .i64 (0 - a0.1)),a0.2),()),()),()))
noncomputable def C394 (n:Nat) (a0:(Int)×(Int)):RT3:=C394_t n a0
noncomputable def C395_t (n:Nat) (a0:(Int)×(Int)) (a1:(Int)×(Int)):RT17 :=
 (C394 n ((a1.1,a1.2))).bind fun r0 =>
 (C389 n ((a0.1,a0.2)) ((r0.1.1.1.1,r0.1.1.1.2))).bind fun r1 =>
 some (((((r1.1.1.1.1,r1.1.1.1.2),()),((r1.1.2.1.1,()),())),()))
noncomputable def C395 (n:Nat) (a0:(Int)×(Int)) (a1:(Int)×(Int)):RT17:=C395_t n a0 a1
noncomputable def C347_t (n:Nat) (a0:(Int)×(Int)) (a1:(Int)×(Int)) (a2:(Int)×(Int)):RT17 :=
 (C393 n ((a1.1,a1.2)) ((a2.1,a2.2))).bind fun r0 =>
 cond ((r0.1.2.1.1 != 0))
 (some (((((0,0),()),((r0.1.2.1.1,()),())),())))
 ((C395 n ((a0.1,a0.2)) ((r0.1.1.1.1,r0.1.1.1.2))).bind fun r1 =>
  some (((((r1.1.1.1.1,r1.1.1.1.2),()),((r1.1.2.1.1,()),())),())))
noncomputable def C347 (n:Nat) (a0:(Int)×(Int)) (a1:(Int)×(Int)) (a2:(Int)×(Int)):RT17:=C347_t n a0 a1 a2
noncomputable def C49_t7 (n:Nat) (g1:Int→Int→Int→Int→(List Nat)→(List (List FQ9))→(List FQ9)→RT27) (g7:Int→Int→Int→Int→Int→(List Nat)→(List (List FQ9))→(List FQ9)→Int→Int→RT27) (v9:Int) (v6:Int) (v1:Int) (v2:Int) (b0_2:Int) (b1p:List Nat) (b1i:List (List FQ9)) (b2:List FQ9) (b3_0:Int) (b3_1:Int):RT27 :=
 cond (decide (v9 < ((b1p.length:Nat):Int)))
 (cond ((b0_2==0))
  (cond ((decide (0≤v6)&&decide (v6 < ((b1p.length:Nat):Int))))
   (cond ((decide (0≤v9)&&decide (v9 < (((b1i.getD (b1p.getD (Int.toNat v6) 0) []).length:Nat):Int))))
    (cond ((decide (0≤v1)&&decide (v1 < ((b1p.length:Nat):Int))))
     (cond ((decide (0≤v9)&&decide (v9 < (((b1i.getD (b1p.getD (Int.toNat v1) 0) []).length:Nat):Int))))
      ((C347 n ((((b1i.getD (b1p.getD (Int.toNat v6) 0) []).getD (Int.toNat v9) (0,0)).1,((b1i.getD (b1p.getD (Int.toNat v6) 0) []).getD (Int.toNat v9) (0,0)).2)) ((b3_0,b3_1)) ((((b1i.getD (b1p.getD (Int.toNat v1) 0) []).getD (Int.toNat v9) (0,0)).1,((b1i.getD (b1p.getD (Int.toNat v1) 0) []).getD (Int.toNat v9) (0,0)).2))).bind fun r1 =>
       cond ((decide (0≤v6)&&decide (v6 < ((b1p.length:Nat):Int))))
       (cond ((decide (0≤v9)&&decide (v9 < (((b1i.getD (b1p.getD (Int.toNat v6) 0) []).length:Nat):Int))))
        (g7 ((IntKind.wrap .i64 (v9+1))) v6 v1 v2 r1.1.2.1.1 b1p ((b1i.set (b1p.getD (Int.toNat v6) 0) ((b1i.getD (b1p.getD (Int.toNat v6) 0) []).set (Int.toNat v9) (r1.1.1.1.1,r1.1.1.1.2)))) b2 b3_0 b3_1)
        (none))
       (none))
      (none))
     (none))
    (none))
   (none))
  (cond ((b0_2==0))
   (cond ((decide (0≤v6)&&decide (v6 < ((b2.length:Nat):Int))))
    (cond ((decide (0≤v1)&&decide (v1 < ((b2.length:Nat):Int))))
     ((C347 n (((b2.getD (Int.toNat v6) (0,0)).1,(b2.getD (Int.toNat v6) (0,0)).2)) ((b3_0,b3_1)) (((b2.getD (Int.toNat v1) (0,0)).1,(b2.getD (Int.toNat v1) (0,0)).2))).bind fun r2 =>
      cond ((decide (0≤v6)&&decide (v6 < ((b2.length:Nat):Int))))
      (g1 ((IntKind.wrap .i64 (v6+1))) v1 v2 r2.1.2.1.1 b1p b1i ((b2.set (Int.toNat v6) (r2.1.1.1.1,r2.1.1.1.2))))
      (none))
     (none))
    (none))
   (g1 ((IntKind.wrap .i64 (v6+1))) v1 v2 b0_2 b1p b1i b2)))
 (cond ((b0_2==0))
  (cond ((decide (0≤v6)&&decide (v6 < ((b2.length:Nat):Int))))
   (cond ((decide (0≤v1)&&decide (v1 < ((b2.length:Nat):Int))))
    ((C347 n (((b2.getD (Int.toNat v6) (0,0)).1,(b2.getD (Int.toNat v6) (0,0)).2)) ((b3_0,b3_1)) (((b2.getD (Int.toNat v1) (0,0)).1,(b2.getD (Int.toNat v1) (0,0)).2))).bind fun r3 =>
     cond ((decide (0≤v6)&&decide (v6 < ((b2.length:Nat):Int))))
     (g1 ((IntKind.wrap .i64 (v6+1))) v1 v2 r3.1.2.1.1 b1p b1i ((b2.set (Int.toNat v6) (r3.1.1.1.1,r3.1.1.1.2))))
     (none))
    (none))
   (none))
  (g1 ((IntKind.wrap .i64 (v6+1))) v1 v2 b0_2 b1p b1i b2))
noncomputable def C49_l7 (n:Nat) (g1:Int→Int→Int→Int→(List Nat)→(List (List FQ9))→(List FQ9)→RT27):Nat→Int→Int→Int→Int→Int→(List Nat)→(List (List FQ9))→(List FQ9)→Int→Int→RT27
 | 0,_,_,_,_,_,_,_,_,_,_=>none
 | k+1,v9,v6,v1,v2,b0_2,b1p,b1i,b2,b3_0,b3_1=>C49_t7 n g1 (C49_l7 n g1 k) v9 v6 v1 v2 b0_2 b1p b1i b2 b3_0 b3_1
noncomputable def C49_t1 (n:Nat) (h7:Nat→Int→Int→Int→Int→Int→(List Nat)→(List (List FQ9))→(List FQ9)→Int→Int→RT27) (g1:Int→Int→Int→Int→(List Nat)→(List (List FQ9))→(List FQ9)→RT27) (v6:Int) (v1:Int) (v2:Int) (b0_2:Int) (b1p:List Nat) (b1i:List (List FQ9)) (b2:List FQ9):RT27 :=
 cond (decide (v6 < ((b1p.length:Nat):Int)))
 (cond ((b0_2==0))
  (cond ((v6==v1))
   (g1 ((IntKind.wrap .i64 (v6+1))) v1 v2 b0_2 b1p b1i b2)
   (cond ((decide (0≤v6)&&decide (v6 < ((b1p.length:Nat):Int))))
    (cond ((decide (0≤v2)&&decide (v2 < (((b1i.getD (b1p.getD (Int.toNat v6) 0) []).length:Nat):Int))))
     (cond ((((b1i.getD (b1p.getD (Int.toNat v6) 0) []).getD (Int.toNat v2) (0,0)).1==0))
      (g1 ((IntKind.wrap .i64 (v6+1))) v1 v2 b0_2 b1p b1i b2)
      (cond ((decide (0≤v6)&&decide (v6 < ((b1p.length:Nat):Int))))
       (cond ((decide (0≤v2)&&decide (v2 < (((b1i.getD (b1p.getD (Int.toNat v6) 0) []).length:Nat):Int))))
        (cond ((decide (0≤v1)&&decide (v1 < ((b1p.length:Nat):Int))))
         (cond ((decide (0≤v2)&&decide (v2 < (((b1i.getD (b1p.getD (Int.toNat v1) 0) []).length:Nat):Int))))
          ((C391 n ((((b1i.getD (b1p.getD (Int.toNat v6) 0) []).getD (Int.toNat v2) (0,0)).1,((b1i.getD (b1p.getD (Int.toNat v6) 0) []).getD (Int.toNat v2) (0,0)).2)) ((((b1i.getD (b1p.getD (Int.toNat v1) 0) []).getD (Int.toNat v2) (0,0)).1,((b1i.getD (b1p.getD (Int.toNat v1) 0) []).getD (Int.toNat v2) (0,0)).2))).bind fun r0 =>
           h7 n v2 v6 v1 v2 r0.1.2.1.1 b1p b1i b2 r0.1.1.1.1 r0.1.1.1.2)
          (none))
         (none))
        (none))
       (none)))
     (none))
    (none)))
  (some (((),((b0_2,()),((b1p,b1i),(b2,())))))))
 (some (((),((b0_2,()),((b1p,b1i),(b2,()))))))
noncomputable def C49_l1 (n:Nat):Nat→Int→Int→Int→Int→(List Nat)→(List (List FQ9))→(List FQ9)→RT27
 | 0,_,_,_,_,_,_,_=>none
 | k+1,v6,v1,v2,b0_2,b1p,b1i,b2=>C49_t1 n (C49_l7 n (C49_l1 n k)) (C49_l1 n k) v6 v1 v2 b0_2 b1p b1i b2
noncomputable def C49_t (n:Nat) (h1:Nat→Int→Int→Int→Int→(List Nat)→(List (List FQ9))→(List FQ9)→RT27) (a1:Int) (a2:Int) (b0:(Int)×(Unit)) (b1:(List Nat)×(List (List FQ9))) (b2:List FQ9):RT27 :=
 h1 n 0 a1 a2 b0.1 b1.1 b1.2 b2
noncomputable def C49 (n:Nat) (a1:Int) (a2:Int) (b0:(Int)×(Unit)) (b1:(List Nat)×(List (List FQ9))) (b2:List FQ9):RT27:=C49_t n (C49_l1 n) a1 a2 b0 b1 b2
noncomputable def C56_t2 (n:Nat) (g2:Int→Int→Int→(List Nat)→(List (List FQ9))→(List FQ9)→RT28) (v7:Int) (v2:Int) (b0_2:Int) (b1p:List Nat) (b1i:List (List FQ9)) (b2:List FQ9):RT28 :=
 cond (decide (v7 < ((b1p.length:Nat):Int)))
 (cond ((decide (0≤v7)&&decide (v7 < ((b1p.length:Nat):Int))))
  (cond ((decide (0≤v2)&&decide (v2 < (((b1i.getD (b1p.getD (Int.toNat v7) 0) []).length:Nat):Int))))
   (cond ((((b1i.getD (b1p.getD (Int.toNat v7) 0) []).getD (Int.toNat v2) (0,0)).1 != 0))
    (some ((((v7,()),()),((b0_2,()),((b1p,b1i),(b2,()))))))
    (g2 ((IntKind.wrap .i64 (v7+1))) v2 b0_2 b1p b1i b2))
   (none))
  (none))
 (some (((((-1),()),()),((b0_2,()),((b1p,b1i),(b2,()))))))
noncomputable def C56_l2 (n:Nat):Nat→Int→Int→Int→(List Nat)→(List (List FQ9))→(List FQ9)→RT28
 | 0,_,_,_,_,_,_=>none
 | k+1,v7,v2,b0_2,b1p,b1i,b2=>C56_t2 n (C56_l2 n k) v7 v2 b0_2 b1p b1i b2
noncomputable def C56_t (n:Nat) (h2:Nat→Int→Int→Int→(List Nat)→(List (List FQ9))→(List FQ9)→RT28) (a1:Int) (a2:Int) (b0:(Int)×(Unit)) (b1:(List Nat)×(List (List FQ9))) (b2:List FQ9):RT28 :=
 h2 n a1 a2 b0.1 b1.1 b1.2 b2
noncomputable def C56 (n:Nat) (a1:Int) (a2:Int) (b0:(Int)×(Unit)) (b1:(List Nat)×(List (List FQ9))) (b2:List FQ9):RT28:=C56_t n (C56_l2 n) a1 a2 b0 b1 b2
noncomputable def C57_t (n:Nat) (a1:Int) (a2:Int) (b0:(Int)×(Unit)) (b1:(List Nat)×(List (List FQ9))) (b2:List FQ9):RT27 :=
 cond ((decide (0≤a1)&&decide (a1 < ((b1.1.length:Nat):Int))))
 (cond ((decide (0≤a2)&&decide (a2 < ((b1.1.length:Nat):Int))))
  (cond ((decide (0≤a1)&&decide (a1 < ((b1.1.length:Nat):Int))))
   (cond ((decide (0≤a2)&&decide (a2 < (((b1.1.set (Int.toNat a1) (b1.1.getD (Int.toNat a2) 0)).length:Nat):Int))))
    (cond ((decide (0≤a1)&&decide (a1 < ((b2.length:Nat):Int))))
     (cond ((decide (0≤a2)&&decide (a2 < ((b2.length:Nat):Int))))
      (cond ((decide (0≤a1)&&decide (a1 < ((b2.length:Nat):Int))))
       (cond ((decide (0≤a2)&&decide (a2 < (((b2.set (Int.toNat a1) ((b2.getD (Int.toNat a2) (0,0)).1,(b2.getD (Int.toNat a2) (0,0)).2)).length:Nat):Int))))
        (some (((),((b0.1,()),((((b1.1.set (Int.toNat a1) (b1.1.getD (Int.toNat a2) 0)).set (Int.toNat a2) (b1.1.getD (Int.toNat a1) 0)),b1.2),(((b2.set (Int.toNat a1) ((b2.getD (Int.toNat a2) (0,0)).1,(b2.getD (Int.toNat a2) (0,0)).2)).set (Int.toNat a2) ((b2.getD (Int.toNat a1) (0,0)).1,(b2.getD (Int.toNat a1) (0,0)).2)),()))))))
        (none))
       (none))
      (none))
     (none))
    (none))
   (none))
  (none))
 (none)
noncomputable def C57 (n:Nat) (a1:Int) (a2:Int) (b0:(Int)×(Unit)) (b1:(List Nat)×(List (List FQ9))) (b2:List FQ9):RT27:=C57_t n a1 a2 b0 b1 b2
noncomputable def C290_t14 (n:Nat) (g14:Int→(List (List FQ9))→(List FQ9)→Int→(List Nat)→(List (List FQ9))→(List FQ9)→RT13) (v10:Int) (v0:List (List FQ9)) (b0:List FQ9) (b1_2:Int) (b2p:List Nat) (b2i:List (List FQ9)) (b3:List FQ9):RT13 :=
 cond (decide (v10 < ((v0.length:Nat):Int)))
 (cond ((decide (0≤v10)&&decide (v10 < ((b3.length:Nat):Int))))
  (cond ((decide (0≤v10)&&decide (v10 < ((b2p.length:Nat):Int))))
   (cond ((decide (0≤v10)&&decide (v10 < (((b2i.getD (b2p.getD (Int.toNat v10) 0) []).length:Nat):Int))))
    ((C391 n (((b3.getD (Int.toNat v10) (0,0)).1,(b3.getD (Int.toNat v10) (0,0)).2)) ((((b2i.getD (b2p.getD (Int.toNat v10) 0) []).getD (Int.toNat v10) (0,0)).1,((b2i.getD (b2p.getD (Int.toNat v10) 0) []).getD (Int.toNat v10) (0,0)).2))).bind fun r4 =>
     cond ((r4.1.2.1.1 != 0))
     (some (((([],()),((r4.1.2.1.1,()),())),())))
     (cond (decide (((b0.length+((r4.1.1.1.1,r4.1.1.1.2) :: []).length)*17)≤70368744177664))
      (g14 ((IntKind.wrap .i64 (v10+1))) v0 ((b0++((r4.1.1.1.1,r4.1.1.1.2) :: []))) b1_2 b2p b2i b3)
      (none)))
    (none))
   (none))
  (none))
 (some ((((b0,()),((0,()),())),())))
noncomputable def C290_l14 (n:Nat):Nat→Int→(List (List FQ9))→(List FQ9)→Int→(List Nat)→(List (List FQ9))→(List FQ9)→RT13
 | 0,_,_,_,_,_,_,_=>none
 | k+1,v10,v0,b0,b1_2,b2p,b2i,b3=>C290_t14 n (C290_l14 n k) v10 v0 b0 b1_2 b2p b2i b3
noncomputable def C290_t3 (n:Nat) (h14:Nat→Int→(List (List FQ9))→(List FQ9)→Int→(List Nat)→(List (List FQ9))→(List FQ9)→RT13) (g3:Int→(List (List FQ9))→Int→(List Nat)→(List (List FQ9))→(List FQ9)→RT13) (v7:Int) (v0:List (List FQ9)) (b0_2:Int) (b1p:List Nat) (b1i:List (List FQ9)) (b2:List FQ9):RT13 :=
 cond (decide (v7 < ((v0.length:Nat):Int)))
 ((C56 n v7 v7 ((b0_2,())) ((b1p,b1i)) b2).bind fun r1 =>
  cond (decide (r1.1.1.1 < 0))
  (some (((([],()),((4,()),())),())))
  ((C57 n v7 r1.1.1.1 ((r1.2.1.1,())) ((r1.2.2.1.1,r1.2.2.1.2)) r1.2.2.2.1).bind fun r2 =>
   (C49 n v7 v7 ((r2.2.1.1,())) ((r2.2.2.1.1,r2.2.2.1.2)) r2.2.2.2.1).bind fun r3 =>
   cond ((r3.2.1.1 != 0))
   (some (((([],()),((r3.2.1.1,()),())),())))
   (g3 ((IntKind.wrap .i64 (v7+1))) v0 r3.2.1.1 r3.2.2.1.1 r3.2.2.1.2 r3.2.2.2.1)))
 (h14 n 0 v0 [] b0_2 b1p b1i b2)
noncomputable def C290_l3 (n:Nat):Nat→Int→(List (List FQ9))→Int→(List Nat)→(List (List FQ9))→(List FQ9)→RT13
 | 0,_,_,_,_,_,_=>none
 | k+1,v7,v0,b0_2,b1p,b1i,b2=>C290_t3 n (C290_l14 n) (C290_l3 n k) v7 v0 b0_2 b1p b1i b2
noncomputable def C290_t (n:Nat) (h3:Nat→Int→(List (List FQ9))→Int→(List Nat)→(List (List FQ9))→(List FQ9)→RT13) (a0:List (List FQ9)) (a1:List FQ9):RT13 :=
 (C285 n a0 a1).bind fun r0 =>
 h3 n 0 a0 r0.1.1.1.2.2.1 r0.1.1.1.1.1 r0.1.1.1.1.2 r0.1.1.1.2.1
noncomputable def C290 (n:Nat) (a0:List (List FQ9)) (a1:List FQ9):RT13:=C290_t n (C290_l3 n) a0 a1
noncomputable def C65_t (n:Nat) (a0:(Int)×((List OB9)×((Bool)×FQ9))):RT13 :=
 (C269 n ((a0.1,(a0.2.1,(a0.2.2.1,(a0.2.2.2.1,a0.2.2.2.2)))))).bind fun r0 =>
 cond ((r0.1.2.2.1.1 != 0))
 (some (((([],()),((r0.1.2.2.1.1,()),())),())))
 ((C290 n r0.1.1.1 r0.1.2.1.1).bind fun r1 =>
  cond ((r1.1.2.1.1 != 0))
  (some (((([],()),((r1.1.2.1.1,()),())),())))
  (cond ((decide (0≤a0.1)&&decide (a0.1≤((r1.1.1.1.length:Nat):Int))))
   (cond (decide (((0+((r1.1.1.1.drop 0).take ((Int.toNat a0.1) - (Int.toNat 0))).length)*17)≤70368744177664))
    (some ((((([]++((r1.1.1.1.drop 0).take ((Int.toNat a0.1) - (Int.toNat 0)))),()),((0,()),())),())))
    (none))
   (none)))
noncomputable def C65 (n:Nat) (a0:(Int)×((List OB9)×((Bool)×FQ9))):RT13:=C65_t n a0
noncomputable def C381_t8 (n:Nat) (g8:Int→Int→Int→Int→(List (List FQ9))→(List Nat)→(List (List FQ9))→(List FQ9)→RT5) (v10:Int) (v8:Int) (v9:Int) (b0_2:Int) (b1:List (List FQ9)) (b2p:List Nat) (b2i:List (List FQ9)) (b3:List FQ9):RT5 :=
 cond (decide (v10 < ((b1.length:Nat):Int)))
 ((C56 n v9 v10 ((b0_2,())) ((b2p,b2i)) b3).bind fun r2 =>
  cond (decide (r2.1.1.1 < 0))
  (g8 ((IntKind.wrap .i64 (v10+1))) ((IntKind.wrap .i64 (v8+1))) v9 r2.2.1.1 b1 r2.2.2.1.1 r2.2.2.1.2 r2.2.2.2.1)
  ((C57 n v9 r2.1.1.1 ((r2.2.1.1,())) ((r2.2.2.1.1,r2.2.2.1.2)) r2.2.2.2.1).bind fun r3 =>
   (C49 n v9 v10 ((r3.2.1.1,())) ((r3.2.2.1.1,r3.2.2.1.2)) r3.2.2.2.1).bind fun r4 =>
   cond ((r4.2.1.1 != 0))
   (some ((((0,()),((r4.2.1.1,()),())),())))
   (g8 ((IntKind.wrap .i64 (v10+1))) v8 ((IntKind.wrap .i64 (v9+1))) r4.2.1.1 b1 r4.2.2.1.1 r4.2.2.1.2 r4.2.2.2.1)))
 (some ((((v8,()),((0,()),())),())))
noncomputable def C381_l8 (n:Nat):Nat→Int→Int→Int→Int→(List (List FQ9))→(List Nat)→(List (List FQ9))→(List FQ9)→RT5
 | 0,_,_,_,_,_,_,_,_=>none
 | k+1,v10,v8,v9,b0_2,b1,b2p,b2i,b3=>C381_t8 n (C381_l8 n k) v10 v8 v9 b0_2 b1 b2p b2i b3
noncomputable def C381_t (n:Nat) (h8:Nat→Int→Int→Int→Int→(List (List FQ9))→(List Nat)→(List (List FQ9))→(List FQ9)→RT5) (a0:(Int)×((List OB9)×((Bool)×FQ9))):RT5 :=
 (C269 n ((a0.1,(a0.2.1,(a0.2.2.1,(a0.2.2.2.1,a0.2.2.2.2)))))).bind fun r0 =>
 cond ((r0.1.2.2.1.1 != 0))
 (some ((((0,()),((r0.1.2.2.1.1,()),())),())))
 ((C285 n r0.1.1.1 r0.1.2.1.1).bind fun r1 =>
  h8 n 0 0 0 r1.1.1.1.2.2.1 r0.1.1.1 r1.1.1.1.1.1 r1.1.1.1.1.2 r1.1.1.1.2.1)
noncomputable def C381 (n:Nat) (a0:(Int)×((List OB9)×((Bool)×FQ9))):RT5:=C381_t n (C381_l8 n) a0
noncomputable def C329_t (n:Nat) (a0:List (Int)):RT29 :=
 some (((((a0,(0,0)),()),()),()))
noncomputable def C329 (n:Nat) (a0:List (Int)):RT29:=C329_t n a0
noncomputable def C107_t (n:Nat) (b0:(List (Int))×FQ9):RT30 :=
 cond (decide (b0.2.1 < ((b0.1.length:Nat):Int)))
 (cond ((decide (0≤b0.2.1)&&decide (b0.2.1 < ((b0.1.length:Nat):Int))))
  (cond (decide ((IntKind.wrap .i64 (b0.2.1+1))≤((b0.1.length:Nat):Int)))
   (some (((((IntKind.wrap .i64 (b0.1.getD (Int.toNat b0.2.1) 0)),()),()),((b0.1,((IntKind.wrap .i64 (b0.2.1+1)),(IntKind.wrap .u64 ((IntKind.wrap .u64 ((IntKind.wrap .u64 (b0.2.2*6364136223846793005))+(IntKind.wrap .u64 (IntKind.wrap .i64 (b0.1.getD (Int.toNat b0.2.1) 0)))))+1442695040888963407)))),()))))
   (some (((((IntKind.wrap .i64 (andInt .u64 (shrInt .u64 (IntKind.wrap .u64 ((IntKind.wrap .u64 ((IntKind.wrap .u64 (b0.2.2*6364136223846793005))+(IntKind.wrap .u64 (IntKind.wrap .i64 (b0.1.getD (Int.toNat b0.2.1) 0)))))+1442695040888963407)) 40) 255)),()),()),((b0.1,((IntKind.wrap .i64 (b0.2.1+1)),(IntKind.wrap .u64 ((IntKind.wrap .u64 ((IntKind.wrap .u64 (b0.2.2*6364136223846793005))+(IntKind.wrap .u64 (IntKind.wrap .i64 (b0.1.getD (Int.toNat b0.2.1) 0)))))+1442695040888963407)))),())))))
  (none))
 (cond (decide ((IntKind.wrap .i64 (b0.2.1+1))≤((b0.1.length:Nat):Int)))
  (some ((((0,()),()),((b0.1,((IntKind.wrap .i64 (b0.2.1+1)),(IntKind.wrap .u64 ((IntKind.wrap .u64 ((IntKind.wrap .u64 (b0.2.2*6364136223846793005))+(IntKind.wrap .u64 0)))+1442695040888963407)))),()))))
  (some (((((IntKind.wrap .i64 (andInt .u64 (shrInt .u64 (IntKind.wrap .u64 ((IntKind.wrap .u64 ((IntKind.wrap .u64 (b0.2.2*6364136223846793005))+(IntKind.wrap .u64 0)))+1442695040888963407)) 40) 255)),()),()),((b0.1,((IntKind.wrap .i64 (b0.2.1+1)),(IntKind.wrap .u64 ((IntKind.wrap .u64 ((IntKind.wrap .u64 (b0.2.2*6364136223846793005))+(IntKind.wrap .u64 0)))+1442695040888963407)))),())))))
noncomputable def C107 (n:Nat) (b0:(List (Int))×FQ9):RT30:=C107_t n b0
noncomputable def C108_t (n:Nat) (a1:Int) (b0:(List (Int))×FQ9):RT30 :=
 cond (decide (a1≤1))
 (some ((((0,()),()),((b0.1,(b0.2.1,b0.2.2)),()))))
 ((C107 n ((b0.1,(b0.2.1,b0.2.2)))).bind fun r0 =>
  cond (decide (a1 > 200))
  ((C107 n ((r0.2.1.1,(r0.2.1.2.1,r0.2.1.2.2)))).bind fun r1 =>
   cond ((a1 != 0))
   (some (((((Int.tmod (IntKind.wrap .i64 ((IntKind.wrap .i64 (r0.1.1.1*256))+r1.1.1.1)) a1),()),()),((r1.2.1.1,(r1.2.1.2.1,r1.2.1.2.2)),()))))
   (none))
  (cond ((a1 != 0))
   (some (((((Int.tmod r0.1.1.1 a1),()),()),((r0.2.1.1,(r0.2.1.2.1,r0.2.1.2.2)),()))))
   (none)))
noncomputable def C108 (n:Nat) (a1:Int) (b0:(List (Int))×FQ9):RT30:=C108_t n a1 b0
noncomputable def C81_t (n:Nat) (b0:(List (Int))×FQ9) (b1:List (Int)):RT31 :=
 (C108 n (((b1.length:Nat):Int)) ((b0.1,(b0.2.1,b0.2.2)))).bind fun r0 =>
 cond ((decide (0≤r0.1.1.1)&&decide (r0.1.1.1 < ((b1.length:Nat):Int))))
 (some (((((b1.getD (Int.toNat r0.1.1.1) 0),()),()),((r0.2.1.1,(r0.2.1.2.1,r0.2.1.2.2)),(b1,())))))
 (none)
noncomputable def C81 (n:Nat) (b0:(List (Int))×FQ9) (b1:List (Int)):RT31:=C81_t n b0 b1
noncomputable def C289_t (n:Nat) (b0:(List (Int))×FQ9):RT32 :=
 (C108 n 41 ((b0.1,(b0.2.1,b0.2.2)))).bind fun r0 =>
 (C81 n ((r0.2.1.1,(r0.2.1.2.1,r0.2.1.2.2))) ((1 :: (1 :: (2 :: (4 :: [])))))).bind fun r1 =>
 (C146 n ((IntKind.wrap .i64 (r0.1.1.1 - 20))) r1.1.1.1).bind fun r2 =>
 some (((((r2.1.1.1.1,r2.1.1.1.2),()),()),((r1.2.1.1,(r1.2.1.2.1,r1.2.1.2.2)),())))
noncomputable def C289 (n:Nat) (b0:(List (Int))×FQ9):RT32:=C289_t n b0
noncomputable def C194_t4 (n:Nat) (g4:Int→(List (Int))→Int→Int→(List FQ9)→Int→(List OB9)→Bool→Int→Int→RT6) (v7:Int) (b0_0:List (Int)) (b0_1:Int) (b0_2:Int) (b1:List FQ9) (b2_0:Int) (b2_1:List OB9) (b2_2:Bool) (b2_3:Int) (b2_4:Int):RT6 :=
 cond (decide (v7 < b2_0))
 ((C289 n ((b0_0,(b0_1,b0_2)))).bind fun r1 =>
  cond (decide (((b1.length+((r1.1.1.1.1,r1.1.1.1.2) :: []).length)*17)≤70368744177664))
  (g4 ((IntKind.wrap .i64 (v7+1))) r1.2.1.1 r1.2.1.2.1 r1.2.1.2.2 ((b1++((r1.1.1.1.1,r1.1.1.1.2) :: []))) b2_0 b2_1 b2_2 b2_3 b2_4)
  (none))
 (some ((((b1,()),()),())))
noncomputable def C194_l4 (n:Nat):Nat→Int→(List (Int))→Int→Int→(List FQ9)→Int→(List OB9)→Bool→Int→Int→RT6
 | 0,_,_,_,_,_,_,_,_,_,_=>none
 | k+1,v7,b0_0,b0_1,b0_2,b1,b2_0,b2_1,b2_2,b2_3,b2_4=>C194_t4 n (C194_l4 n k) v7 b0_0 b0_1 b0_2 b1 b2_0 b2_1 b2_2 b2_3 b2_4
noncomputable def C194_t (n:Nat) (h4:Nat→Int→(List (Int))→Int→Int→(List FQ9)→Int→(List OB9)→Bool→Int→Int→RT6) (a0:List (Int)) (a1:(Int)×((List OB9)×((Bool)×FQ9))):RT6 :=
 (C329 n a0).bind fun r0 =>
 h4 n 0 r0.1.1.1.1 r0.1.1.1.2.1 r0.1.1.1.2.2 [] a1.1 a1.2.1 a1.2.2.1 a1.2.2.2.1 a1.2.2.2.2
noncomputable def C194 (n:Nat) (a0:List (Int)) (a1:(Int)×((List OB9)×((Bool)×FQ9))):RT6:=C194_t n (C194_l4 n) a0 a1
noncomputable def C144_t (n:Nat) (a1:Int) (b0:(List (Int))×FQ9):RT33 :=
 (C108 n a1 ((b0.1,(b0.2.1,b0.2.2)))).bind fun r0 =>
 some (((((r0.1.1.1==0),()),()),((r0.2.1.1,(r0.2.1.2.1,r0.2.1.2.2)),())))
noncomputable def C144 (n:Nat) (a1:Int) (b0:(List (Int))×FQ9):RT33:=C144_t n a1 b0
noncomputable def C286_t9 (n:Nat) (g5:Int→(List (Int))→Int→Int→Int→Bool→Int→Int→Int→Bool→Int→Int→(List OB9)→RT34) (g9:Int→Int→(List (Int))→Int→Int→Int→Int→Int→Int→Int→Int→Int→Int→Int→Int→Bool→Int→Int→Int→Bool→Int→Int→(List OB9)→RT34) (v6:Int) (v4:Int) (b0_0:List (Int)) (b0_1:Int) (b0_2:Int) (b1_0:Int) (b1_1:Int) (b1_2:Int) (b1_3:Int) (b1_4:Int) (b1_5:Int) (b1_6:Int) (b1_7:Int) (b1_8:Int) (b2_0:Int) (b2_2:Bool) (b2_3:Int) (b2_4:Int) (b3_0:Int) (b3_2:Bool) (b3_3:Int) (b3_4:Int) (b4:List OB9):RT34 :=
 cond (decide (v6 < b2_0))
 ((C81 n ((b0_0,(b0_1,b0_2))) ((0 :: (1 :: ((-1) :: (0 :: (1 :: (2 :: [])))))))).bind fun r7 =>
  cond ((decide (0≤v6)&&decide (v6 < 6)))
  (g9 ((IntKind.wrap .i64 (v6+1))) v4 r7.2.1.1 r7.2.1.2.1 r7.2.1.2.2 ((cond (Nat.beq (Int.toNat v6) 0) (IntKind.wrap .i8 r7.1.1.1) b1_0)) ((cond (Nat.beq (Int.toNat v6) 1) (IntKind.wrap .i8 r7.1.1.1) b1_1)) ((cond (Nat.beq (Int.toNat v6) 2) (IntKind.wrap .i8 r7.1.1.1) b1_2)) ((cond (Nat.beq (Int.toNat v6) 3) (IntKind.wrap .i8 r7.1.1.1) b1_3)) ((cond (Nat.beq (Int.toNat v6) 4) (IntKind.wrap .i8 r7.1.1.1) b1_4)) ((cond (Nat.beq (Int.toNat v6) 5) (IntKind.wrap .i8 r7.1.1.1) b1_5)) b1_6 b1_7 b1_8 b2_0 b2_2 b2_3 b2_4 b3_0 b3_2 b3_3 b3_4 b4)
  (none))
 ((C108 n b2_0 ((b0_0,(b0_1,b0_2)))).bind fun r8 =>
  cond ((decide (0≤r8.1.1.1)&&decide (r8.1.1.1 < 6)))
  (cond (decide (((b4.length+((((cond (Nat.beq (Int.toNat r8.1.1.1) 0) 1 b1_0),((cond (Nat.beq (Int.toNat r8.1.1.1) 1) 1 b1_1),((cond (Nat.beq (Int.toNat r8.1.1.1) 2) 1 b1_2),((cond (Nat.beq (Int.toNat r8.1.1.1) 3) 1 b1_3),((cond (Nat.beq (Int.toNat r8.1.1.1) 4) 1 b1_4),(cond (Nat.beq (Int.toNat r8.1.1.1) 5) 1 b1_5)))))),((b1_6,b1_7),b1_8)) :: []).length)*33)≤70368744177664))
   (g5 ((IntKind.wrap .i64 (v4 - 1))) r8.2.1.1 r8.2.1.2.1 r8.2.1.2.2 b2_0 b2_2 b2_3 b2_4 b3_0 b3_2 b3_3 b3_4 ((b4++((((cond (Nat.beq (Int.toNat r8.1.1.1) 0) 1 b1_0),((cond (Nat.beq (Int.toNat r8.1.1.1) 1) 1 b1_1),((cond (Nat.beq (Int.toNat r8.1.1.1) 2) 1 b1_2),((cond (Nat.beq (Int.toNat r8.1.1.1) 3) 1 b1_3),((cond (Nat.beq (Int.toNat r8.1.1.1) 4) 1 b1_4),(cond (Nat.beq (Int.toNat r8.1.1.1) 5) 1 b1_5)))))),((b1_6,b1_7),b1_8)) :: []))))
   (none))
  (none))
noncomputable def C286_l9 (n:Nat) (g5:Int→(List (Int))→Int→Int→Int→Bool→Int→Int→Int→Bool→Int→Int→(List OB9)→RT34):Nat→Int→Int→(List (Int))→Int→Int→Int→Int→Int→Int→Int→Int→Int→Int→Int→Int→Bool→Int→Int→Int→Bool→Int→Int→(List OB9)→RT34
 | 0,_,_,_,_,_,_,_,_,_,_,_,_,_,_,_,_,_,_,_,_,_,_,_=>none
 | k+1,v6,v4,b0_0,b0_1,b0_2,b1_0,b1_1,b1_2,b1_3,b1_4,b1_5,b1_6,b1_7,b1_8,b2_0,b2_2,b2_3,b2_4,b3_0,b3_2,b3_3,b3_4,b4=>C286_t9 n g5 (C286_l9 n g5 k) v6 v4 b0_0 b0_1 b0_2 b1_0 b1_1 b1_2 b1_3 b1_4 b1_5 b1_6 b1_7 b1_8 b2_0 b2_2 b2_3 b2_4 b3_0 b3_2 b3_3 b3_4 b4
noncomputable def C286_t5 (n:Nat) (h9:Nat→Int→Int→(List (Int))→Int→Int→Int→Int→Int→Int→Int→Int→Int→Int→Int→Int→Bool→Int→Int→Int→Bool→Int→Int→(List OB9)→RT34) (g5:Int→(List (Int))→Int→Int→Int→Bool→Int→Int→Int→Bool→Int→Int→(List OB9)→RT34) (v4:Int) (b0_0:List (Int)) (b0_1:Int) (b0_2:Int) (b1_0:Int) (b1_2:Bool) (b1_3:Int) (b1_4:Int) (b2_0:Int) (b2_2:Bool) (b2_3:Int) (b2_4:Int) (b3:List OB9):RT34 :=
 cond (decide (v4 > 0))
 ((C289 n ((b0_0,(b0_1,b0_2)))).bind fun r5 =>
  (C108 n 3 ((r5.2.1.1,(r5.2.1.2.1,r5.2.1.2.2)))).bind fun r6 =>
  h9 n 0 v4 r6.2.1.1 r6.2.1.2.1 r6.2.1.2.2 0 0 0 0 0 0 r5.1.1.1.1 r5.1.1.1.2 ((IntKind.wrap .i64 (1+r6.1.1.1))) b1_0 b1_2 b1_3 b1_4 b2_0 b2_2 b2_3 b2_4 b3)
 (some (((((b1_0,(b3,(b1_2,(b1_3,b1_4)))),()),()),((b0_0,(b0_1,b0_2)),()))))
noncomputable def C286_l5 (n:Nat):Nat→Int→(List (Int))→Int→Int→Int→Bool→Int→Int→Int→Bool→Int→Int→(List OB9)→RT34
 | 0,_,_,_,_,_,_,_,_,_,_,_,_,_=>none
 | k+1,v4,b0_0,b0_1,b0_2,b1_0,b1_2,b1_3,b1_4,b2_0,b2_2,b2_3,b2_4,b3=>C286_t5 n (C286_l9 n (C286_l5 n k)) (C286_l5 n k) v4 b0_0 b0_1 b0_2 b1_0 b1_2 b1_3 b1_4 b2_0 b2_2 b2_3 b2_4 b3
noncomputable def C286_t4 (n:Nat) (h5:Nat→Int→(List (Int))→Int→Int→Int→Bool→Int→Int→Int→Bool→Int→Int→(List OB9)→RT34) (b0_0:List (Int)) (b0_1:Int) (b0_2:Int) (b1_0:Int) (b1_2:Bool) (b1_3:Int) (b1_4:Int) (b2_0:Int) (b2_2:Bool) (b2_3:Int) (b2_4:Int):RT34 :=
 (C108 n 8 ((b0_0,(b0_1,b0_2)))).bind fun r4 =>
 h5 n r4.1.1.1 r4.2.1.1 r4.2.1.2.1 r4.2.1.2.2 b1_0 b1_2 b1_3 b1_4 b2_0 b2_2 b2_3 b2_4 []
noncomputable def C286_j4 (n:Nat) (b0_0:List (Int)) (b0_1:Int) (b0_2:Int) (b1_0:Int) (b1_2:Bool) (b1_3:Int) (b1_4:Int) (b2_0:Int) (b2_2:Bool) (b2_3:Int) (b2_4:Int):RT34:=C286_t4 n (C286_l5 n) b0_0 b0_1 b0_2 b1_0 b1_2 b1_3 b1_4 b2_0 b2_2 b2_3 b2_4
noncomputable def C286_t (n:Nat) (h4:(List (Int))→Int→Int→Int→Bool→Int→Int→Int→Bool→Int→Int→RT34) (b0:(List (Int))×FQ9):RT34 :=
 (C108 n 4 ((b0.1,(b0.2.1,b0.2.2)))).bind fun r0 =>
 (C275 n 0).bind fun r1 =>
 (C144 n 3 ((r0.2.1.1,(r0.2.1.2.1,r0.2.1.2.2)))).bind fun r2 =>
 cond r2.1.1.1
 ((C289 n ((r2.2.1.1,(r2.2.1.2.1,r2.2.1.2.2)))).bind fun r3 =>
  h4 r3.2.1.1 r3.2.1.2.1 r3.2.1.2.2 ((IntKind.wrap .i64 (1+r0.1.1.1))) r2.1.1.1 r3.1.1.1.1 r3.1.1.1.2 0 false 0 0)
 (h4 r2.2.1.1 r2.2.1.2.1 r2.2.1.2.2 ((IntKind.wrap .i64 (1+r0.1.1.1))) r2.1.1.1 r1.1.1.1.1 r1.1.1.1.2 0 false 0 0)
noncomputable def C286 (n:Nat) (b0:(List (Int))×FQ9):RT34:=C286_t n (C286_j4 n) b0
noncomputable def C325_t (n:Nat) (a0:List (Int)):RT35 :=
 (C329 n a0).bind fun r0 =>
 (C286 n ((r0.1.1.1.1,(r0.1.1.1.2.1,r0.1.1.1.2.2)))).bind fun r1 =>
 some (((((r1.1.1.1.1,(r1.1.1.1.2.1,(r1.1.1.1.2.2.1,(r1.1.1.1.2.2.2.1,r1.1.1.1.2.2.2.2)))),()),()),()))
noncomputable def C325 (n:Nat) (a0:List (Int)):RT35:=C325_t n a0
noncomputable def C287_t2 (n:Nat) (g2:Int→(List FQ9)→RT1) (v3:Int) (v0:List FQ9):RT1 :=
 cond (decide (v3 < ((v0.length:Nat):Int)))
 (cond ((decide (0≤v3)&&decide (v3 < ((v0.length:Nat):Int))))
  ((C415 n (((v0.getD (Int.toNat v3) (0,0)).1,(v0.getD (Int.toNat v3) (0,0)).2))).bind fun r0 =>
   cond (!r0.1.1.1)
   (some ((((false,()),()),())))
   (g2 ((IntKind.wrap .i64 (v3+1))) v0))
  (none))
 (some ((((true,()),()),())))
noncomputable def C287_l2 (n:Nat):Nat→Int→(List FQ9)→RT1
 | 0,_,_=>none
 | k+1,v3,v0=>C287_t2 n (C287_l2 n k) v3 v0
noncomputable def C287_t (n:Nat) (h2:Nat→Int→(List FQ9)→RT1) (a0:List FQ9):RT1 :=
 h2 n 0 a0
noncomputable def C287 (n:Nat) (a0:List FQ9):RT1:=C287_t n (C287_l2 n) a0
noncomputable def C284_t (n:Nat) (a1:List FQ9) (b0:(Int)×((List OB9)×((Bool)×FQ9))):RT36 :=
 (C418 n ((b0.1,(b0.2.1,(b0.2.2.1,(b0.2.2.2.1,b0.2.2.2.2)))))).bind fun r0 =>
 cond (!r0.1.1.1)
 (some ((((1,()),()),((r0.2.1.1,(r0.2.1.2.1,(r0.2.1.2.2.1,(r0.2.1.2.2.2.1,r0.2.1.2.2.2.2)))),()))))
 ((C287 n a1).bind fun r1 =>
  cond (!r1.1.1.1)
  (some ((((1,()),()),((r0.2.1.1,(r0.2.1.2.1,(r0.2.1.2.2.1,(r0.2.1.2.2.2.1,r0.2.1.2.2.2.2)))),()))))
  (cond ((((a1.length:Nat):Int) != r0.2.1.1))
   (some ((((2,()),()),((r0.2.1.1,(r0.2.1.2.1,(r0.2.1.2.2.1,(r0.2.1.2.2.2.1,r0.2.1.2.2.2.2)))),()))))
   (some ((((0,()),()),((r0.2.1.1,(r0.2.1.2.1,(r0.2.1.2.2.1,(r0.2.1.2.2.2.1,r0.2.1.2.2.2.2)))),()))))))
noncomputable def C284 (n:Nat) (a1:List FQ9) (b0:(Int)×((List OB9)×((Bool)×FQ9))):RT36:=C284_t n a1 b0
noncomputable def C67_t3 (n:Nat) (g3:Int→(List FQ9)→((Int)×((Int)×((Int)×((Int)×FQ9))))×(FQ9×(Int))→Int→Int→Int→Int→RT17) (v7:Int) (v1:List FQ9) (v0:((Int)×((Int)×((Int)×((Int)×FQ9))))×(FQ9×(Int))) (b0_0:Int) (b0_1:Int) (b1_0:Int) (b1_1:Int):RT17 :=
 cond (decide (v7 < ((v1.length:Nat):Int)))
 (cond ((decide (0≤v7)&&decide (v7 < 6)))
  (cond (((cond (Nat.beq (Int.toNat v7) 0) v0.1.1 (cond (Nat.beq ((Int.toNat v7) - 1) 0) v0.1.2.1 (cond (Nat.beq (((Int.toNat v7) - 1) - 1) 0) v0.1.2.2.1 (cond (Nat.beq ((((Int.toNat v7) - 1) - 1) - 1) 0) v0.1.2.2.2.1 (cond (Nat.beq (((((Int.toNat v7) - 1) - 1) - 1) - 1) 0) v0.1.2.2.2.2.1 (cond (Nat.beq ((((((Int.toNat v7) - 1) - 1) - 1) - 1) - 1) 0) v0.1.2.2.2.2.2 0))))))==0))
   (g3 ((IntKind.wrap .i64 (v7+1))) v1 v0 b0_0 b0_1 b1_0 b1_1)
   (cond ((decide (0≤v7)&&decide (v7 < 6)))
    ((C275 n ((IntKind.wrap .i64 (cond (Nat.beq (Int.toNat v7) 0) v0.1.1 (cond (Nat.beq ((Int.toNat v7) - 1) 0) v0.1.2.1 (cond (Nat.beq (((Int.toNat v7) - 1) - 1) 0) v0.1.2.2.1 (cond (Nat.beq ((((Int.toNat v7) - 1) - 1) - 1) 0) v0.1.2.2.2.1 (cond (Nat.beq (((((Int.toNat v7) - 1) - 1) - 1) - 1) 0) v0.1.2.2.2.2.1 (cond (Nat.beq ((((((Int.toNat v7) - 1) - 1) - 1) - 1) - 1) 0) v0.1.2.2.2.2.2 0))))))))).bind fun r0 =>
     cond ((decide (0≤v7)&&decide (v7 < ((v1.length:Nat):Int))))
     ((C347 n ((b1_0,b1_1)) ((r0.1.1.1.1,r0.1.1.1.2)) (((v1.getD (Int.toNat v7) (0,0)).1,(v1.getD (Int.toNat v7) (0,0)).2))).bind fun r1 =>
      cond ((r1.1.2.1.1 != 0))
      (some (((((0,0),()),((r1.1.2.1.1,()),())),())))
      (g3 ((IntKind.wrap .i64 (v7+1))) v1 v0 b0_0 b0_1 r1.1.1.1.1 r1.1.1.1.2))
     (none))
    (none)))
  (none))
 (some (((((b1_0,b1_1),()),((0,()),())),())))
noncomputable def C67_l3 (n:Nat):Nat→Int→(List FQ9)→((Int)×((Int)×((Int)×((Int)×FQ9))))×(FQ9×(Int))→Int→Int→Int→Int→RT17
 | 0,_,_,_,_,_,_,_=>none
 | k+1,v7,v1,v0,b0_0,b0_1,b1_0,b1_1=>C67_t3 n (C67_l3 n k) v7 v1 v0 b0_0 b0_1 b1_0 b1_1
noncomputable def C67_t (n:Nat) (h3:Nat→Int→(List FQ9)→((Int)×((Int)×((Int)×((Int)×FQ9))))×(FQ9×(Int))→Int→Int→Int→Int→RT17) (a0:((Int)×((Int)×((Int)×((Int)×FQ9))))×(FQ9×(Int))) (a1:List FQ9):RT17 :=
 h3 n 0 a1 a0 0 0 a0.2.1.1 a0.2.1.2
noncomputable def C67 (n:Nat) (a0:((Int)×((Int)×((Int)×((Int)×FQ9))))×(FQ9×(Int))) (a1:List FQ9):RT17:=C67_t n (C67_l3 n) a0 a1
noncomputable def C105_t6 (n:Nat) (g6:Int→(List FQ9)→(List FQ9)→Int→(List OB9)→Bool→Int→Int→RT13) (v8:Int) (v1:List FQ9) (b0:List FQ9) (b1_0:Int) (b1_1:List OB9) (b1_2:Bool) (b1_3:Int) (b1_4:Int):RT13 :=
 cond (decide (v8 < ((b1_1.length:Nat):Int)))
 (cond ((decide (0≤v8)&&decide (v8 < ((b1_1.length:Nat):Int))))
  ((C67 n ((((b1_1.getD (Int.toNat v8) ((0,(0,(0,(0,(0,0))))),((0,0),0))).1.1,((b1_1.getD (Int.toNat v8) ((0,(0,(0,(0,(0,0))))),((0,0),0))).1.2.1,((b1_1.getD (Int.toNat v8) ((0,(0,(0,(0,(0,0))))),((0,0),0))).1.2.2.1,((b1_1.getD (Int.toNat v8) ((0,(0,(0,(0,(0,0))))),((0,0),0))).1.2.2.2.1,((b1_1.getD (Int.toNat v8) ((0,(0,(0,(0,(0,0))))),((0,0),0))).1.2.2.2.2.1,(b1_1.getD (Int.toNat v8) ((0,(0,(0,(0,(0,0))))),((0,0),0))).1.2.2.2.2.2))))),(((b1_1.getD (Int.toNat v8) ((0,(0,(0,(0,(0,0))))),((0,0),0))).2.1.1,(b1_1.getD (Int.toNat v8) ((0,(0,(0,(0,(0,0))))),((0,0),0))).2.1.2),(b1_1.getD (Int.toNat v8) ((0,(0,(0,(0,(0,0))))),((0,0),0))).2.2))) v1).bind fun r1 =>
   cond ((r1.1.2.1.1 != 0))
   (some (((([],()),((r1.1.2.1.1,()),())),())))
   (cond (decide (((b0.length+((r1.1.1.1.1,r1.1.1.1.2) :: []).length)*17)≤70368744177664))
    (g6 ((IntKind.wrap .i64 (v8+1))) v1 ((b0++((r1.1.1.1.1,r1.1.1.1.2) :: []))) b1_0 b1_1 b1_2 b1_3 b1_4)
    (none)))
  (none))
 (some ((((b0,()),((0,()),())),())))
noncomputable def C105_l6 (n:Nat):Nat→Int→(List FQ9)→(List FQ9)→Int→(List OB9)→Bool→Int→Int→RT13
 | 0,_,_,_,_,_,_,_,_=>none
 | k+1,v8,v1,b0,b1_0,b1_1,b1_2,b1_3,b1_4=>C105_t6 n (C105_l6 n k) v8 v1 b0 b1_0 b1_1 b1_2 b1_3 b1_4
noncomputable def C105_t (n:Nat) (h6:Nat→Int→(List FQ9)→(List FQ9)→Int→(List OB9)→Bool→Int→Int→RT13) (a0:(Int)×((List OB9)×((Bool)×FQ9))) (a1:List FQ9):RT13 :=
 (C284 n a1 ((a0.1,(a0.2.1,(a0.2.2.1,(a0.2.2.2.1,a0.2.2.2.2)))))).bind fun r0 =>
 cond ((r0.1.1.1 != 0))
 (some (((([],()),((r0.1.1.1,()),())),())))
 (h6 n 0 a1 [] r0.2.1.1 r0.2.1.2.1 r0.2.1.2.2.1 r0.2.1.2.2.2.1 r0.2.1.2.2.2.2)
noncomputable def C105 (n:Nat) (a0:(Int)×((List OB9)×((Bool)×FQ9))) (a1:List FQ9):RT13:=C105_t n (C105_l6 n) a0 a1
noncomputable def C200_t4 (n:Nat) (g4:Int→(List FQ9)→(List FQ9)→RT1) (v5:Int) (v1:List FQ9) (v0:List FQ9):RT1 :=
 cond (decide (v5 < ((v0.length:Nat):Int)))
 (cond ((decide (0≤v5)&&decide (v5 < ((v0.length:Nat):Int))))
  (cond ((decide (0≤v5)&&decide (v5 < ((v1.length:Nat):Int))))
   (cond ((!(((v0.getD (Int.toNat v5) (0,0)).1==(v1.getD (Int.toNat v5) (0,0)).1)&&(((v0.getD (Int.toNat v5) (0,0)).2==(v1.getD (Int.toNat v5) (0,0)).2)&&true))))
    (some ((((false,()),()),())))
    (g4 ((IntKind.wrap .i64 (v5+1))) v1 v0))
   (none))
  (none))
 (some ((((true,()),()),())))
noncomputable def C200_l4 (n:Nat):Nat→Int→(List FQ9)→(List FQ9)→RT1
 | 0,_,_,_=>none
 | k+1,v5,v1,v0=>C200_t4 n (C200_l4 n k) v5 v1 v0
noncomputable def C200_t (n:Nat) (h4:Nat→Int→(List FQ9)→(List FQ9)→RT1) (a0:List FQ9) (a1:List FQ9):RT1 :=
 cond ((((a0.length:Nat):Int) != ((a1.length:Nat):Int)))
 (some ((((false,()),()),())))
 (h4 n 0 a1 a0)
noncomputable def C200 (n:Nat) (a0:List FQ9) (a1:List FQ9):RT1:=C200_t n (C200_l4 n) a0 a1
noncomputable def C201_t4 (n:Nat) (g4:Int→Int→(List OB9)→Bool→Int→Int→Int→(List OB9)→Bool→Int→Int→RT1) (v5:Int) (b0_0:Int) (b0_1:List OB9) (b0_2:Bool) (b0_3:Int) (b0_4:Int) (b1_0:Int) (b1_1:List OB9) (b1_2:Bool) (b1_3:Int) (b1_4:Int):RT1 :=
 cond (decide (v5 < ((b1_1.length:Nat):Int)))
 (cond ((decide (0≤v5)&&decide (v5 < ((b1_1.length:Nat):Int))))
  (cond ((decide (0≤v5)&&decide (v5 < ((b0_1.length:Nat):Int))))
   (cond ((!(((b1_1.getD (Int.toNat v5) ((0,(0,(0,(0,(0,0))))),((0,0),0))).1.1==(b0_1.getD (Int.toNat v5) ((0,(0,(0,(0,(0,0))))),((0,0),0))).1.1)&&(((b1_1.getD (Int.toNat v5) ((0,(0,(0,(0,(0,0))))),((0,0),0))).1.2.1==(b0_1.getD (Int.toNat v5) ((0,(0,(0,(0,(0,0))))),((0,0),0))).1.2.1)&&(((b1_1.getD (Int.toNat v5) ((0,(0,(0,(0,(0,0))))),((0,0),0))).1.2.2.1==(b0_1.getD (Int.toNat v5) ((0,(0,(0,(0,(0,0))))),((0,0),0))).1.2.2.1)&&(((b1_1.getD (Int.toNat v5) ((0,(0,(0,(0,(0,0))))),((0,0),0))).1.2.2.2.1==(b0_1.getD (Int.toNat v5) ((0,(0,(0,(0,(0,0))))),((0,0),0))).1.2.2.2.1)&&(((b1_1.getD (Int.toNat v5) ((0,(0,(0,(0,(0,0))))),((0,0),0))).1.2.2.2.2.1==(b0_1.getD (Int.toNat v5) ((0,(0,(0,(0,(0,0))))),((0,0),0))).1.2.2.2.2.1)&&(((b1_1.getD (Int.toNat v5) ((0,(0,(0,(0,(0,0))))),((0,0),0))).1.2.2.2.2.2==(b0_1.getD (Int.toNat v5) ((0,(0,(0,(0,(0,0))))),((0,0),0))).1.2.2.2.2.2)&&(((b1_1.getD (Int.toNat v5) ((0,(0,(0,(0,(0,0))))),((0,0),0))).2.1.1==(b0_1.getD (Int.toNat v5) ((0,(0,(0,(0,(0,0))))),((0,0),0))).2.1.1)&&(((b1_1.getD (Int.toNat v5) ((0,(0,(0,(0,(0,0))))),((0,0),0))).2.1.2==(b0_1.getD (Int.toNat v5) ((0,(0,(0,(0,(0,0))))),((0,0),0))).2.1.2)&&(((b1_1.getD (Int.toNat v5) ((0,(0,(0,(0,(0,0))))),((0,0),0))).2.2==(b0_1.getD (Int.toNat v5) ((0,(0,(0,(0,(0,0))))),((0,0),0))).2.2)&&true)))))))))))
    (some ((((false,()),()),())))
    (g4 ((IntKind.wrap .i64 (v5+1))) b0_0 b0_1 b0_2 b0_3 b0_4 b1_0 b1_1 b1_2 b1_3 b1_4))
   (none))
  (none))
 (some ((((true,()),()),())))
noncomputable def C201_l4 (n:Nat):Nat→Int→Int→(List OB9)→Bool→Int→Int→Int→(List OB9)→Bool→Int→Int→RT1
 | 0,_,_,_,_,_,_,_,_,_,_,_=>none
 | k+1,v5,b0_0,b0_1,b0_2,b0_3,b0_4,b1_0,b1_1,b1_2,b1_3,b1_4=>C201_t4 n (C201_l4 n k) v5 b0_0 b0_1 b0_2 b0_3 b0_4 b1_0 b1_1 b1_2 b1_3 b1_4
noncomputable def C201_t (n:Nat) (h4:Nat→Int→Int→(List OB9)→Bool→Int→Int→Int→(List OB9)→Bool→Int→Int→RT1) (a0:(Int)×((List OB9)×((Bool)×FQ9))) (a1:(Int)×((List OB9)×((Bool)×FQ9))):RT1 :=
 cond ((a0.1 != a1.1))
 (some ((((false,()),()),())))
 (cond ((!(a0.2.2.1==a1.2.2.1)))
  (some ((((false,()),()),())))
  (cond ((!((a0.2.2.2.1==a1.2.2.2.1)&&((a0.2.2.2.2==a1.2.2.2.2)&&true))))
   (some ((((false,()),()),())))
   (cond ((((a0.2.1.length:Nat):Int) != ((a1.2.1.length:Nat):Int)))
    (some ((((false,()),()),())))
    (h4 n 0 a1.1 a1.2.1 a1.2.2.1 a1.2.2.2.1 a1.2.2.2.2 a0.1 a0.2.1 a0.2.2.1 a0.2.2.2.1 a0.2.2.2.2))))
noncomputable def C201 (n:Nat) (a0:(Int)×((List OB9)×((Bool)×FQ9))) (a1:(Int)×((List OB9)×((Bool)×FQ9))):RT1:=C201_t n (C201_l4 n) a0 a1
noncomputable def C272_t (n:Nat) (a0:(Int)×(Int)) (a1:(Int)×(Int)):RT17 :=
 (C397 n ((a0.1,a0.2)) ((a1.1,a1.2))).bind fun r0 =>
 cond ((r0.1.1.1 != 0))
 (some (((((0,0),()),((r0.1.1.1,()),())),())))
 ((C395 n ((a0.1,a0.2)) ((a1.1,a1.2))).bind fun r1 =>
  some (((((r1.1.1.1.1,r1.1.1.1.2),()),((r1.1.2.1.1,()),())),())))
noncomputable def C272 (n:Nat) (a0:(Int)×(Int)) (a1:(Int)×(Int)):RT17:=C272_t n a0 a1
noncomputable def C332_t2 (n:Nat) (g2:Int→(List FQ9)→Int→RT0) (v5:Int) (v0:List FQ9) (v1:Int):RT0 :=
 cond (decide (v5 < ((v0.length:Nat):Int)))
 (cond ((decide (0≤v5)&&decide (v5 < ((v0.length:Nat):Int))))
  ((C415 n (((v0.getD (Int.toNat v5) (0,0)).1,(v0.getD (Int.toNat v5) (0,0)).2))).bind fun r0 =>
   cond (!r0.1.1.1)
   (some ((((1,()),()),())))
   (g2 ((IntKind.wrap .i64 (v5+1))) v0 v1))
  (none))
 (cond (decide (((v0.length:Nat):Int) > 64))
  (some ((((2,()),()),())))
  (cond (decide (((v0.length:Nat):Int) < v1))
   (some ((((2,()),()),())))
   (some ((((0,()),()),())))))
noncomputable def C332_l2 (n:Nat):Nat→Int→(List FQ9)→Int→RT0
 | 0,_,_,_=>none
 | k+1,v5,v0,v1=>C332_t2 n (C332_l2 n k) v5 v0 v1
noncomputable def C332_t (n:Nat) (h2:Nat→Int→(List FQ9)→Int→RT0) (a0:List FQ9) (a1:Int):RT0 :=
 h2 n 0 a0 a1
noncomputable def C332 (n:Nat) (a0:List FQ9) (a1:Int):RT0:=C332_t n (C332_l2 n) a0 a1
noncomputable def C396_t3 (n:Nat) (g3:Int→(List FQ9)→Int→Int→Int→Int→RT17) (v5:Int) (v0:List FQ9) (b0_0:Int) (b0_1:Int) (b1_0:Int) (b1_1:Int):RT17 :=
 cond (decide (v5 < ((v0.length:Nat):Int)))
 (cond ((decide (0≤v5)&&decide (v5 < ((v0.length:Nat):Int))))
  ((C389 n ((b1_0,b1_1)) (((v0.getD (Int.toNat v5) (0,0)).1,(v0.getD (Int.toNat v5) (0,0)).2))).bind fun r1 =>
   cond ((r1.1.2.1.1 != 0))
   (some (((((0,0),()),((r1.1.2.1.1,()),())),())))
   (g3 ((IntKind.wrap .i64 (v5+1))) v0 b0_0 b0_1 r1.1.1.1.1 r1.1.1.1.2))
  (none))
 (some (((((b1_0,b1_1),()),((0,()),())),())))
noncomputable def C396_l3 (n:Nat):Nat→Int→(List FQ9)→Int→Int→Int→Int→RT17
 | 0,_,_,_,_,_,_=>none
 | k+1,v5,v0,b0_0,b0_1,b1_0,b1_1=>C396_t3 n (C396_l3 n k) v5 v0 b0_0 b0_1 b1_0 b1_1
noncomputable def C396_t (n:Nat) (h3:Nat→Int→(List FQ9)→Int→Int→Int→Int→RT17) (a0:List FQ9):RT17 :=
 (C275 n 0).bind fun r0 =>
 h3 n 0 a0 0 0 r0.1.1.1.1 r0.1.1.1.2
noncomputable def C396 (n:Nat) (a0:List FQ9):RT17:=C396_t n (C396_l3 n) a0
noncomputable def C413_t (n:Nat) (a0:List FQ9):RT17 :=
 (C332 n a0 0).bind fun r0 =>
 cond ((r0.1.1.1 != 0))
 (some (((((0,0),()),((r0.1.1.1,()),())),())))
 ((C396 n a0).bind fun r1 =>
  some (((((r1.1.1.1.1,r1.1.1.1.2),()),((r1.1.2.1.1,()),())),())))
noncomputable def C413 (n:Nat) (a0:List FQ9):RT17:=C413_t n a0
noncomputable def laws_FnLeast_t54 (n:Nat) (g54:Int→Int→(List FQ9)→(List FQ9)→(List FQ9)→RT1) (v42:Int) (v39:Int) (b0:List FQ9) (b1:List FQ9) (b2:List FQ9):RT1 :=
 cond (decide (v42 < ((b0.length:Nat):Int)))
 (cond ((decide (0≤v42)&&decide (v42 < ((b0.length:Nat):Int))))
  (cond (((b0.getD (Int.toNat v42) (0,0)).1 != 0))
   (some ((((false,()),()),())))
   (g54 ((IntKind.wrap .i64 (v42+1))) v39 b0 b1 b2))
  (none))
 (cond ((v39==3))
  (some ((((true,()),()),())))
  (cond ((v39==0))
   ((C200 n b2 b1).bind fun r28 =>
    some ((((r28.1.1.1,()),()),())))
   (some ((((false,()),()),())))))
noncomputable def laws_FnLeast_l54 (n:Nat):Nat→Int→Int→(List FQ9)→(List FQ9)→(List FQ9)→RT1
 | 0,_,_,_,_,_=>none
 | k+1,v42,v39,b0,b1,b2=>laws_FnLeast_t54 n (laws_FnLeast_l54 n k) v42 v39 b0 b1 b2
noncomputable def laws_FnLeast_t46 (n:Nat) (h54:Nat→Int→Int→(List FQ9)→(List FQ9)→(List FQ9)→RT1) (g46:Int→(List FQ9)→Int→Bool→Int→Int→(List FQ9)→(List OB9)→RT1) (v37:Int) (b0:List FQ9) (b1_0:Int) (b1_2:Bool) (b1_3:Int) (b1_4:Int) (b2:List FQ9) (b3:List OB9):RT1 :=
 cond (decide (v37 < ((b3.length:Nat):Int)))
 (cond ((decide (0≤v37)&&decide (v37 < ((b0.length:Nat):Int))))
  (cond ((decide (0≤v37)&&decide (v37 < ((b0.length:Nat):Int))))
   (cond ((decide (0≤v37)&&decide (v37 < ((b3.length:Nat):Int))))
    (letIn ((b3.set (Int.toNat v37) (((b3.getD (Int.toNat v37) ((0,(0,(0,(0,(0,0))))),((0,0),0))).1.1,((b3.getD (Int.toNat v37) ((0,(0,(0,(0,(0,0))))),((0,0),0))).1.2.1,((b3.getD (Int.toNat v37) ((0,(0,(0,(0,(0,0))))),((0,0),0))).1.2.2.1,((b3.getD (Int.toNat v37) ((0,(0,(0,(0,(0,0))))),((0,0),0))).1.2.2.2.1,((b3.getD (Int.toNat v37) ((0,(0,(0,(0,(0,0))))),((0,0),0))).1.2.2.2.2.1,(b3.getD (Int.toNat v37) ((0,(0,(0,(0,(0,0))))),((0,0),0))).1.2.2.2.2.2))))),(((IntKind.wrap .i64 (0 - (b0.getD (Int.toNat v37) (0,0)).1)),(b0.getD (Int.toNat v37) (0,0)).2),(b3.getD (Int.toNat v37) ((0,(0,(0,(0,(0,0))))),((0,0),0))).2.2)))) fun r25 =>
     g46 ((IntKind.wrap .i64 (v37+1))) b0 b1_0 b1_2 b1_3 b1_4 b2 r25)
    (none))
   (none))
  (none))
 ((C58 n ((b1_0,(b3,(b1_2,(b1_3,b1_4)))))).bind fun r26 =>
  (C91 n ((b1_0,(b3,(b1_2,(b1_3,b1_4))))) b2).bind fun r27 =>
  cond ((r27.1.2.1.1 != 0))
  (some ((((false,()),()),())))
  (cond ((((r27.1.1.1.length:Nat):Int) != ((b3.length:Nat):Int)))
   (some ((((false,()),()),())))
   (h54 n 0 r26.1.2.1.1 r27.1.1.1 b2 r26.1.1.1)))
noncomputable def laws_FnLeast_l46 (n:Nat):Nat→Int→(List FQ9)→Int→Bool→Int→Int→(List FQ9)→(List OB9)→RT1
 | 0,_,_,_,_,_,_,_,_=>none
 | k+1,v37,b0,b1_0,b1_2,b1_3,b1_4,b2,b3=>laws_FnLeast_t46 n (laws_FnLeast_l54 n) (laws_FnLeast_l46 n k) v37 b0 b1_0 b1_2 b1_3 b1_4 b2 b3
noncomputable def laws_FnLeast_t39 (n:Nat) (h46:Nat→Int→(List FQ9)→Int→Bool→Int→Int→(List FQ9)→(List OB9)→RT1) (g39:Int→Int→Bool→Int→Int→(List FQ9)→(List OB9)→RT1) (v34:Int) (b0_0:Int) (b0_2:Bool) (b0_3:Int) (b0_4:Int) (b1:List FQ9) (b2:List OB9):RT1 :=
 cond (decide (v34 < ((b2.length:Nat):Int)))
 (cond ((decide (0≤v34)&&decide (v34 < ((b2.length:Nat):Int))))
  (letIn ((b2.set (Int.toNat v34) (((b2.getD (Int.toNat v34) ((0,(0,(0,(0,(0,0))))),((0,0),0))).1.1,((b2.getD (Int.toNat v34) ((0,(0,(0,(0,(0,0))))),((0,0),0))).1.2.1,((b2.getD (Int.toNat v34) ((0,(0,(0,(0,(0,0))))),((0,0),0))).1.2.2.1,((b2.getD (Int.toNat v34) ((0,(0,(0,(0,(0,0))))),((0,0),0))).1.2.2.2.1,((b2.getD (Int.toNat v34) ((0,(0,(0,(0,(0,0))))),((0,0),0))).1.2.2.2.2.1,(b2.getD (Int.toNat v34) ((0,(0,(0,(0,(0,0))))),((0,0),0))).1.2.2.2.2.2))))),((0,1),(b2.getD (Int.toNat v34) ((0,(0,(0,(0,(0,0))))),((0,0),0))).2.2)))) fun r23 =>
   g39 ((IntKind.wrap .i64 (v34+1))) b0_0 b0_2 b0_3 b0_4 b1 r23)
  (none))
 ((C105 n ((b0_0,(b2,(b0_2,(b0_3,b0_4))))) b1).bind fun r24 =>
  cond ((r24.1.2.1.1 != 0))
  (some ((((true,()),()),())))
  (h46 n 0 r24.1.1.1 b0_0 b0_2 b0_3 b0_4 b1 b2))
noncomputable def laws_FnLeast_l39 (n:Nat):Nat→Int→Int→Bool→Int→Int→(List FQ9)→(List OB9)→RT1
 | 0,_,_,_,_,_,_,_=>none
 | k+1,v34,b0_0,b0_2,b0_3,b0_4,b1,b2=>laws_FnLeast_t39 n (laws_FnLeast_l46 n) (laws_FnLeast_l39 n k) v34 b0_0 b0_2 b0_3 b0_4 b1 b2
noncomputable def laws_FnLeast_t (n:Nat) (h39:Nat→Int→Int→Bool→Int→Int→(List FQ9)→(List OB9)→RT1) (a0:List (Int)) (a1:List (Int)):RT1 :=
 (C409 n a0).bind fun r0 =>
 cond r0.1.1.1
 (some ((((true,()),()),())))
 ((C409 n a1).bind fun r1 =>
  cond r1.1.1.1
  (some ((((true,()),()),())))
  ((C325 n a0).bind fun r2 =>
   (C194 n a1 ((r2.1.1.1.1,(r2.1.1.1.2.1,(r2.1.1.1.2.2.1,(r2.1.1.1.2.2.2.1,r2.1.1.1.2.2.2.2)))))).bind fun r3 =>
   (C169 n ((r2.1.1.1.1,(r2.1.1.1.2.1,(r2.1.1.1.2.2.1,(r2.1.1.1.2.2.2.1,r2.1.1.1.2.2.2.2)))))).bind fun r4 =>
   (C164 n r4.1.1.1).bind fun r5 =>
   (C58 n ((r2.1.1.1.1,(r2.1.1.1.2.1,(r2.1.1.1.2.2.1,(r2.1.1.1.2.2.2.1,r2.1.1.1.2.2.2.2)))))).bind fun r6 =>
   (C65 n ((r2.1.1.1.1,(r2.1.1.1.2.1,(r2.1.1.1.2.2.1,(r2.1.1.1.2.2.2.1,r2.1.1.1.2.2.2.2)))))).bind fun r7 =>
   (C354 n ((r2.1.1.1.1,(r2.1.1.1.2.1,(r2.1.1.1.2.2.1,(r2.1.1.1.2.2.2.1,r2.1.1.1.2.2.2.2)))))).bind fun r8 =>
   (C381 n ((r2.1.1.1.1,(r2.1.1.1.2.1,(r2.1.1.1.2.2.1,(r2.1.1.1.2.2.2.1,r2.1.1.1.2.2.2.2)))))).bind fun r9 =>
   cond ((r5.1.2.1.1 != 0))
   (some ((((false,()),()),())))
   ((C201 n ((r5.1.1.1,(r5.1.1.2.1,(r5.1.1.2.2.1.1,(r5.1.1.2.2.1.2.1,r5.1.1.2.2.1.2.2))))) ((r2.1.1.1.1,(r2.1.1.1.2.1,(r2.1.1.1.2.2.1,(r2.1.1.1.2.2.2.1,r2.1.1.1.2.2.2.2)))))).bind fun r10 =>
    cond (!r10.1.1.1)
    (some ((((false,()),()),())))
    ((C166 n ((r5.1.1.1,(r5.1.1.2.1,(r5.1.1.2.2.1.1,(r5.1.1.2.2.1.2.1,r5.1.1.2.2.1.2.2))))) ((r2.1.1.1.1,(r2.1.1.1.2.1,(r2.1.1.1.2.2.1,(r2.1.1.1.2.2.2.1,r2.1.1.1.2.2.2.2)))))).bind fun r11 =>
     cond (!r11.1.1.1)
     (some ((((false,()),()),())))
     ((C121 n ((r2.1.1.1.1,(r2.1.1.1.2.1,(r2.1.1.1.2.2.1,(r2.1.1.1.2.2.2.1,r2.1.1.1.2.2.2.2)))))).bind fun r12 =>
      cond (!r12.1.1.1)
      (some ((((false,()),()),())))
      (cond ((r6.1.2.1.1 != r7.1.2.1.1))
       (some ((((false,()),()),())))
       ((C200 n r6.1.1.1 r7.1.1.1).bind fun r13 =>
        cond (!r13.1.1.1)
        (some ((((false,()),()),())))
        (cond ((r8.1.2.1.1 != r9.1.2.1.1))
         (some ((((false,()),()),())))
         (cond ((r8.1.1.1 != r9.1.1.1))
          (some ((((false,()),()),())))
          (cond ((r6.1.2.1.1 != 0))
           (cond ((r6.1.2.1.1==3))
            (some ((((true,()),()),())))
            (cond ((r6.1.2.1.1==4))
             (cond ((r8.1.2.1.1==3))
              (some ((((true,()),()),())))
              (some ((((decide (r9.1.1.1 > 0),()),()),()))))
             (some ((((false,()),()),())))))
           ((C296 n ((r2.1.1.1.1,(r2.1.1.1.2.1,(r2.1.1.1.2.2.1,(r2.1.1.1.2.2.2.1,r2.1.1.1.2.2.2.2))))) r7.1.1.1).bind fun r14 =>
            (C168 n ((r2.1.1.1.1,(r2.1.1.1.2.1,(r2.1.1.1.2.2.1,(r2.1.1.1.2.2.2.1,r2.1.1.1.2.2.2.2))))) r7.1.1.1).bind fun r15 =>
            cond ((r14.1.2.1.1==0))
            (cond (!r14.1.1.1)
             (some ((((false,()),()),())))
             (cond ((r14.1.2.1.1 != 0))
              (cond ((r14.1.2.1.1 != 3))
               (some ((((false,()),()),())))
               (cond r2.1.1.1.2.2.1
                ((C413 n r7.1.1.1).bind fun r16 =>
                 cond ((r16.1.2.1.1 != 0))
                 (some ((((false,()),()),())))
                 (cond ((!((r16.1.1.1.1==r2.1.1.1.2.2.2.1)&&((r16.1.1.1.2==r2.1.1.1.2.2.2.2)&&true))))
                  (some ((((false,()),()),())))
                  ((C413 n r3.1.1.1).bind fun r17 =>
                   (C272 n ((r2.1.1.1.2.2.2.1,r2.1.1.1.2.2.2.2)) ((r17.1.1.1.1,r17.1.1.1.2))).bind fun r18 =>
                   cond (decide (0 < ((r3.1.1.1.length:Nat):Int)))
                   ((C264 n (((r3.1.1.1.getD (Int.toNat 0) (0,0)).1,(r3.1.1.1.getD (Int.toNat 0) (0,0)).2)) ((r18.1.1.1.1,r18.1.1.1.2))).bind fun r19 =>
                    cond ((r17.1.2.1.1 != 0))
                    (some ((((true,()),()),())))
                    (cond ((r18.1.2.1.1 != 0))
                     (some ((((true,()),()),())))
                     (cond ((r19.1.2.1.1 != 0))
                      (some ((((true,()),()),())))
                      (cond (decide (0 < ((r3.1.1.1.length:Nat):Int)))
                       ((C168 n ((r2.1.1.1.1,(r2.1.1.1.2.1,(r2.1.1.1.2.2.1,(r2.1.1.1.2.2.2.1,r2.1.1.1.2.2.2.2))))) ((r3.1.1.1.set (Int.toNat 0) (r19.1.1.1.1,r19.1.1.1.2)))).bind fun r20 =>
                        cond ((r15.1.2.1.1==0))
                        (cond ((r20.1.2.1.1==0))
                         ((C372 n ((r20.1.1.1.1,r20.1.1.1.2)) ((r15.1.1.1.1,r15.1.1.1.2))).bind fun r21 =>
                          cond r21.1.1.1
                          (some ((((false,()),()),())))
                          (cond (decide (((0+r2.1.1.1.2.1.length)*33)≤70368744177664))
                           (cond r2.1.1.1.2.2.1
                            ((C413 n ((r3.1.1.1.set (Int.toNat 0) (r19.1.1.1.1,r19.1.1.1.2)))).bind fun r22 =>
                             cond ((r22.1.2.1.1 != 0))
                             (some ((((true,()),()),())))
                             (h39 n 0 r2.1.1.1.1 r2.1.1.1.2.2.1 r22.1.1.1.1 r22.1.1.1.2 ((r3.1.1.1.set (Int.toNat 0) (r19.1.1.1.1,r19.1.1.1.2))) (([]++r2.1.1.1.2.1))))
                            (h39 n 0 r2.1.1.1.1 r2.1.1.1.2.2.1 r2.1.1.1.2.2.2.1 r2.1.1.1.2.2.2.2 ((r3.1.1.1.set (Int.toNat 0) (r19.1.1.1.1,r19.1.1.1.2))) (([]++r2.1.1.1.2.1))))
                           (none)))
                         (cond (decide (((0+r2.1.1.1.2.1.length)*33)≤70368744177664))
                          (cond r2.1.1.1.2.2.1
                           ((C413 n ((r3.1.1.1.set (Int.toNat 0) (r19.1.1.1.1,r19.1.1.1.2)))).bind fun r29 =>
                            cond ((r29.1.2.1.1 != 0))
                            (some ((((true,()),()),())))
                            (h39 n 0 r2.1.1.1.1 r2.1.1.1.2.2.1 r29.1.1.1.1 r29.1.1.1.2 ((r3.1.1.1.set (Int.toNat 0) (r19.1.1.1.1,r19.1.1.1.2))) (([]++r2.1.1.1.2.1))))
                           (h39 n 0 r2.1.1.1.1 r2.1.1.1.2.2.1 r2.1.1.1.2.2.2.1 r2.1.1.1.2.2.2.2 ((r3.1.1.1.set (Int.toNat 0) (r19.1.1.1.1,r19.1.1.1.2))) (([]++r2.1.1.1.2.1))))
                          (none)))
                        (cond (decide (((0+r2.1.1.1.2.1.length)*33)≤70368744177664))
                         (cond r2.1.1.1.2.2.1
                          ((C413 n ((r3.1.1.1.set (Int.toNat 0) (r19.1.1.1.1,r19.1.1.1.2)))).bind fun r30 =>
                           cond ((r30.1.2.1.1 != 0))
                           (some ((((true,()),()),())))
                           (h39 n 0 r2.1.1.1.1 r2.1.1.1.2.2.1 r30.1.1.1.1 r30.1.1.1.2 ((r3.1.1.1.set (Int.toNat 0) (r19.1.1.1.1,r19.1.1.1.2))) (([]++r2.1.1.1.2.1))))
                          (h39 n 0 r2.1.1.1.1 r2.1.1.1.2.2.1 r2.1.1.1.2.2.2.1 r2.1.1.1.2.2.2.2 ((r3.1.1.1.set (Int.toNat 0) (r19.1.1.1.1,r19.1.1.1.2))) (([]++r2.1.1.1.2.1))))
                         (none)))
                       (none)))))
                   (none))))
                ((C168 n ((r2.1.1.1.1,(r2.1.1.1.2.1,(r2.1.1.1.2.2.1,(r2.1.1.1.2.2.2.1,r2.1.1.1.2.2.2.2))))) r3.1.1.1).bind fun r31 =>
                 cond ((r15.1.2.1.1==0))
                 (cond ((r31.1.2.1.1==0))
                  ((C372 n ((r31.1.1.1.1,r31.1.1.1.2)) ((r15.1.1.1.1,r15.1.1.1.2))).bind fun r32 =>
                   cond r32.1.1.1
                   (some ((((false,()),()),())))
                   (cond (decide (((0+r2.1.1.1.2.1.length)*33)≤70368744177664))
                    (cond r2.1.1.1.2.2.1
                     ((C413 n r3.1.1.1).bind fun r33 =>
                      cond ((r33.1.2.1.1 != 0))
                      (some ((((true,()),()),())))
                      (h39 n 0 r2.1.1.1.1 r2.1.1.1.2.2.1 r33.1.1.1.1 r33.1.1.1.2 r3.1.1.1 (([]++r2.1.1.1.2.1))))
                     (h39 n 0 r2.1.1.1.1 r2.1.1.1.2.2.1 r2.1.1.1.2.2.2.1 r2.1.1.1.2.2.2.2 r3.1.1.1 (([]++r2.1.1.1.2.1))))
                    (none)))
                  (cond (decide (((0+r2.1.1.1.2.1.length)*33)≤70368744177664))
                   (cond r2.1.1.1.2.2.1
                    ((C413 n r3.1.1.1).bind fun r34 =>
                     cond ((r34.1.2.1.1 != 0))
                     (some ((((true,()),()),())))
                     (h39 n 0 r2.1.1.1.1 r2.1.1.1.2.2.1 r34.1.1.1.1 r34.1.1.1.2 r3.1.1.1 (([]++r2.1.1.1.2.1))))
                    (h39 n 0 r2.1.1.1.1 r2.1.1.1.2.2.1 r2.1.1.1.2.2.2.1 r2.1.1.1.2.2.2.2 r3.1.1.1 (([]++r2.1.1.1.2.1))))
                   (none)))
                 (cond (decide (((0+r2.1.1.1.2.1.length)*33)≤70368744177664))
                  (cond r2.1.1.1.2.2.1
                   ((C413 n r3.1.1.1).bind fun r35 =>
                    cond ((r35.1.2.1.1 != 0))
                    (some ((((true,()),()),())))
                    (h39 n 0 r2.1.1.1.1 r2.1.1.1.2.2.1 r35.1.1.1.1 r35.1.1.1.2 r3.1.1.1 (([]++r2.1.1.1.2.1))))
                   (h39 n 0 r2.1.1.1.1 r2.1.1.1.2.2.1 r2.1.1.1.2.2.2.1 r2.1.1.1.2.2.2.2 r3.1.1.1 (([]++r2.1.1.1.2.1))))
                  (none)))))
              (cond r2.1.1.1.2.2.1
               ((C413 n r7.1.1.1).bind fun r36 =>
                cond ((r36.1.2.1.1 != 0))
                (some ((((false,()),()),())))
                (cond ((!((r36.1.1.1.1==r2.1.1.1.2.2.2.1)&&((r36.1.1.1.2==r2.1.1.1.2.2.2.2)&&true))))
                 (some ((((false,()),()),())))
                 ((C413 n r3.1.1.1).bind fun r37 =>
                  (C272 n ((r2.1.1.1.2.2.2.1,r2.1.1.1.2.2.2.2)) ((r37.1.1.1.1,r37.1.1.1.2))).bind fun r38 =>
                  cond (decide (0 < ((r3.1.1.1.length:Nat):Int)))
                  ((C264 n (((r3.1.1.1.getD (Int.toNat 0) (0,0)).1,(r3.1.1.1.getD (Int.toNat 0) (0,0)).2)) ((r38.1.1.1.1,r38.1.1.1.2))).bind fun r39 =>
                   cond ((r37.1.2.1.1 != 0))
                   (some ((((true,()),()),())))
                   (cond ((r38.1.2.1.1 != 0))
                    (some ((((true,()),()),())))
                    (cond ((r39.1.2.1.1 != 0))
                     (some ((((true,()),()),())))
                     (cond (decide (0 < ((r3.1.1.1.length:Nat):Int)))
                      ((C168 n ((r2.1.1.1.1,(r2.1.1.1.2.1,(r2.1.1.1.2.2.1,(r2.1.1.1.2.2.2.1,r2.1.1.1.2.2.2.2))))) ((r3.1.1.1.set (Int.toNat 0) (r39.1.1.1.1,r39.1.1.1.2)))).bind fun r40 =>
                       cond ((r15.1.2.1.1==0))
                       (cond ((r40.1.2.1.1==0))
                        ((C372 n ((r40.1.1.1.1,r40.1.1.1.2)) ((r15.1.1.1.1,r15.1.1.1.2))).bind fun r41 =>
                         cond r41.1.1.1
                         (some ((((false,()),()),())))
                         (cond (decide (((0+r2.1.1.1.2.1.length)*33)≤70368744177664))
                          (cond r2.1.1.1.2.2.1
                           ((C413 n ((r3.1.1.1.set (Int.toNat 0) (r39.1.1.1.1,r39.1.1.1.2)))).bind fun r42 =>
                            cond ((r42.1.2.1.1 != 0))
                            (some ((((true,()),()),())))
                            (h39 n 0 r2.1.1.1.1 r2.1.1.1.2.2.1 r42.1.1.1.1 r42.1.1.1.2 ((r3.1.1.1.set (Int.toNat 0) (r39.1.1.1.1,r39.1.1.1.2))) (([]++r2.1.1.1.2.1))))
                           (h39 n 0 r2.1.1.1.1 r2.1.1.1.2.2.1 r2.1.1.1.2.2.2.1 r2.1.1.1.2.2.2.2 ((r3.1.1.1.set (Int.toNat 0) (r39.1.1.1.1,r39.1.1.1.2))) (([]++r2.1.1.1.2.1))))
                          (none)))
                        (cond (decide (((0+r2.1.1.1.2.1.length)*33)≤70368744177664))
                         (cond r2.1.1.1.2.2.1
                          ((C413 n ((r3.1.1.1.set (Int.toNat 0) (r39.1.1.1.1,r39.1.1.1.2)))).bind fun r43 =>
                           cond ((r43.1.2.1.1 != 0))
                           (some ((((true,()),()),())))
                           (h39 n 0 r2.1.1.1.1 r2.1.1.1.2.2.1 r43.1.1.1.1 r43.1.1.1.2 ((r3.1.1.1.set (Int.toNat 0) (r39.1.1.1.1,r39.1.1.1.2))) (([]++r2.1.1.1.2.1))))
                          (h39 n 0 r2.1.1.1.1 r2.1.1.1.2.2.1 r2.1.1.1.2.2.2.1 r2.1.1.1.2.2.2.2 ((r3.1.1.1.set (Int.toNat 0) (r39.1.1.1.1,r39.1.1.1.2))) (([]++r2.1.1.1.2.1))))
                         (none)))
                       (cond (decide (((0+r2.1.1.1.2.1.length)*33)≤70368744177664))
                        (cond r2.1.1.1.2.2.1
                         ((C413 n ((r3.1.1.1.set (Int.toNat 0) (r39.1.1.1.1,r39.1.1.1.2)))).bind fun r44 =>
                          cond ((r44.1.2.1.1 != 0))
                          (some ((((true,()),()),())))
                          (h39 n 0 r2.1.1.1.1 r2.1.1.1.2.2.1 r44.1.1.1.1 r44.1.1.1.2 ((r3.1.1.1.set (Int.toNat 0) (r39.1.1.1.1,r39.1.1.1.2))) (([]++r2.1.1.1.2.1))))
                         (h39 n 0 r2.1.1.1.1 r2.1.1.1.2.2.1 r2.1.1.1.2.2.2.1 r2.1.1.1.2.2.2.2 ((r3.1.1.1.set (Int.toNat 0) (r39.1.1.1.1,r39.1.1.1.2))) (([]++r2.1.1.1.2.1))))
                        (none)))
                      (none)))))
                  (none))))
               ((C168 n ((r2.1.1.1.1,(r2.1.1.1.2.1,(r2.1.1.1.2.2.1,(r2.1.1.1.2.2.2.1,r2.1.1.1.2.2.2.2))))) r3.1.1.1).bind fun r45 =>
                cond ((r15.1.2.1.1==0))
                (cond ((r45.1.2.1.1==0))
                 ((C372 n ((r45.1.1.1.1,r45.1.1.1.2)) ((r15.1.1.1.1,r15.1.1.1.2))).bind fun r46 =>
                  cond r46.1.1.1
                  (some ((((false,()),()),())))
                  (cond (decide (((0+r2.1.1.1.2.1.length)*33)≤70368744177664))
                   (cond r2.1.1.1.2.2.1
                    ((C413 n r3.1.1.1).bind fun r47 =>
                     cond ((r47.1.2.1.1 != 0))
                     (some ((((true,()),()),())))
                     (h39 n 0 r2.1.1.1.1 r2.1.1.1.2.2.1 r47.1.1.1.1 r47.1.1.1.2 r3.1.1.1 (([]++r2.1.1.1.2.1))))
                    (h39 n 0 r2.1.1.1.1 r2.1.1.1.2.2.1 r2.1.1.1.2.2.2.1 r2.1.1.1.2.2.2.2 r3.1.1.1 (([]++r2.1.1.1.2.1))))
                   (none)))
                 (cond (decide (((0+r2.1.1.1.2.1.length)*33)≤70368744177664))
                  (cond r2.1.1.1.2.2.1
                   ((C413 n r3.1.1.1).bind fun r48 =>
                    cond ((r48.1.2.1.1 != 0))
                    (some ((((true,()),()),())))
                    (h39 n 0 r2.1.1.1.1 r2.1.1.1.2.2.1 r48.1.1.1.1 r48.1.1.1.2 r3.1.1.1 (([]++r2.1.1.1.2.1))))
                   (h39 n 0 r2.1.1.1.1 r2.1.1.1.2.2.1 r2.1.1.1.2.2.2.1 r2.1.1.1.2.2.2.2 r3.1.1.1 (([]++r2.1.1.1.2.1))))
                  (none)))
                (cond (decide (((0+r2.1.1.1.2.1.length)*33)≤70368744177664))
                 (cond r2.1.1.1.2.2.1
                  ((C413 n r3.1.1.1).bind fun r49 =>
                   cond ((r49.1.2.1.1 != 0))
                   (some ((((true,()),()),())))
                   (h39 n 0 r2.1.1.1.1 r2.1.1.1.2.2.1 r49.1.1.1.1 r49.1.1.1.2 r3.1.1.1 (([]++r2.1.1.1.2.1))))
                  (h39 n 0 r2.1.1.1.1 r2.1.1.1.2.2.1 r2.1.1.1.2.2.2.1 r2.1.1.1.2.2.2.2 r3.1.1.1 (([]++r2.1.1.1.2.1))))
                 (none))))))
            (cond ((r14.1.2.1.1 != 0))
             (cond ((r14.1.2.1.1 != 3))
              (some ((((false,()),()),())))
              (cond r2.1.1.1.2.2.1
               ((C413 n r7.1.1.1).bind fun r50 =>
                cond ((r50.1.2.1.1 != 0))
                (some ((((false,()),()),())))
                (cond ((!((r50.1.1.1.1==r2.1.1.1.2.2.2.1)&&((r50.1.1.1.2==r2.1.1.1.2.2.2.2)&&true))))
                 (some ((((false,()),()),())))
                 ((C413 n r3.1.1.1).bind fun r51 =>
                  (C272 n ((r2.1.1.1.2.2.2.1,r2.1.1.1.2.2.2.2)) ((r51.1.1.1.1,r51.1.1.1.2))).bind fun r52 =>
                  cond (decide (0 < ((r3.1.1.1.length:Nat):Int)))
                  ((C264 n (((r3.1.1.1.getD (Int.toNat 0) (0,0)).1,(r3.1.1.1.getD (Int.toNat 0) (0,0)).2)) ((r52.1.1.1.1,r52.1.1.1.2))).bind fun r53 =>
                   cond ((r51.1.2.1.1 != 0))
                   (some ((((true,()),()),())))
                   (cond ((r52.1.2.1.1 != 0))
                    (some ((((true,()),()),())))
                    (cond ((r53.1.2.1.1 != 0))
                     (some ((((true,()),()),())))
                     (cond (decide (0 < ((r3.1.1.1.length:Nat):Int)))
                      ((C168 n ((r2.1.1.1.1,(r2.1.1.1.2.1,(r2.1.1.1.2.2.1,(r2.1.1.1.2.2.2.1,r2.1.1.1.2.2.2.2))))) ((r3.1.1.1.set (Int.toNat 0) (r53.1.1.1.1,r53.1.1.1.2)))).bind fun r54 =>
                       cond ((r15.1.2.1.1==0))
                       (cond ((r54.1.2.1.1==0))
                        ((C372 n ((r54.1.1.1.1,r54.1.1.1.2)) ((r15.1.1.1.1,r15.1.1.1.2))).bind fun r55 =>
                         cond r55.1.1.1
                         (some ((((false,()),()),())))
                         (cond (decide (((0+r2.1.1.1.2.1.length)*33)≤70368744177664))
                          (cond r2.1.1.1.2.2.1
                           ((C413 n ((r3.1.1.1.set (Int.toNat 0) (r53.1.1.1.1,r53.1.1.1.2)))).bind fun r56 =>
                            cond ((r56.1.2.1.1 != 0))
                            (some ((((true,()),()),())))
                            (h39 n 0 r2.1.1.1.1 r2.1.1.1.2.2.1 r56.1.1.1.1 r56.1.1.1.2 ((r3.1.1.1.set (Int.toNat 0) (r53.1.1.1.1,r53.1.1.1.2))) (([]++r2.1.1.1.2.1))))
                           (h39 n 0 r2.1.1.1.1 r2.1.1.1.2.2.1 r2.1.1.1.2.2.2.1 r2.1.1.1.2.2.2.2 ((r3.1.1.1.set (Int.toNat 0) (r53.1.1.1.1,r53.1.1.1.2))) (([]++r2.1.1.1.2.1))))
                          (none)))
                        (cond (decide (((0+r2.1.1.1.2.1.length)*33)≤70368744177664))
                         (cond r2.1.1.1.2.2.1
                          ((C413 n ((r3.1.1.1.set (Int.toNat 0) (r53.1.1.1.1,r53.1.1.1.2)))).bind fun r57 =>
                           cond ((r57.1.2.1.1 != 0))
                           (some ((((true,()),()),())))
                           (h39 n 0 r2.1.1.1.1 r2.1.1.1.2.2.1 r57.1.1.1.1 r57.1.1.1.2 ((r3.1.1.1.set (Int.toNat 0) (r53.1.1.1.1,r53.1.1.1.2))) (([]++r2.1.1.1.2.1))))
                          (h39 n 0 r2.1.1.1.1 r2.1.1.1.2.2.1 r2.1.1.1.2.2.2.1 r2.1.1.1.2.2.2.2 ((r3.1.1.1.set (Int.toNat 0) (r53.1.1.1.1,r53.1.1.1.2))) (([]++r2.1.1.1.2.1))))
                         (none)))
                       (cond (decide (((0+r2.1.1.1.2.1.length)*33)≤70368744177664))
                        (cond r2.1.1.1.2.2.1
                         ((C413 n ((r3.1.1.1.set (Int.toNat 0) (r53.1.1.1.1,r53.1.1.1.2)))).bind fun r58 =>
                          cond ((r58.1.2.1.1 != 0))
                          (some ((((true,()),()),())))
                          (h39 n 0 r2.1.1.1.1 r2.1.1.1.2.2.1 r58.1.1.1.1 r58.1.1.1.2 ((r3.1.1.1.set (Int.toNat 0) (r53.1.1.1.1,r53.1.1.1.2))) (([]++r2.1.1.1.2.1))))
                         (h39 n 0 r2.1.1.1.1 r2.1.1.1.2.2.1 r2.1.1.1.2.2.2.1 r2.1.1.1.2.2.2.2 ((r3.1.1.1.set (Int.toNat 0) (r53.1.1.1.1,r53.1.1.1.2))) (([]++r2.1.1.1.2.1))))
                        (none)))
                      (none)))))
                  (none))))
               ((C168 n ((r2.1.1.1.1,(r2.1.1.1.2.1,(r2.1.1.1.2.2.1,(r2.1.1.1.2.2.2.1,r2.1.1.1.2.2.2.2))))) r3.1.1.1).bind fun r59 =>
                cond ((r15.1.2.1.1==0))
                (cond ((r59.1.2.1.1==0))
                 ((C372 n ((r59.1.1.1.1,r59.1.1.1.2)) ((r15.1.1.1.1,r15.1.1.1.2))).bind fun r60 =>
                  cond r60.1.1.1
                  (some ((((false,()),()),())))
                  (cond (decide (((0+r2.1.1.1.2.1.length)*33)≤70368744177664))
                   (cond r2.1.1.1.2.2.1
                    ((C413 n r3.1.1.1).bind fun r61 =>
                     cond ((r61.1.2.1.1 != 0))
                     (some ((((true,()),()),())))
                     (h39 n 0 r2.1.1.1.1 r2.1.1.1.2.2.1 r61.1.1.1.1 r61.1.1.1.2 r3.1.1.1 (([]++r2.1.1.1.2.1))))
                    (h39 n 0 r2.1.1.1.1 r2.1.1.1.2.2.1 r2.1.1.1.2.2.2.1 r2.1.1.1.2.2.2.2 r3.1.1.1 (([]++r2.1.1.1.2.1))))
                   (none)))
                 (cond (decide (((0+r2.1.1.1.2.1.length)*33)≤70368744177664))
                  (cond r2.1.1.1.2.2.1
                   ((C413 n r3.1.1.1).bind fun r62 =>
                    cond ((r62.1.2.1.1 != 0))
                    (some ((((true,()),()),())))
                    (h39 n 0 r2.1.1.1.1 r2.1.1.1.2.2.1 r62.1.1.1.1 r62.1.1.1.2 r3.1.1.1 (([]++r2.1.1.1.2.1))))
                   (h39 n 0 r2.1.1.1.1 r2.1.1.1.2.2.1 r2.1.1.1.2.2.2.1 r2.1.1.1.2.2.2.2 r3.1.1.1 (([]++r2.1.1.1.2.1))))
                  (none)))
                (cond (decide (((0+r2.1.1.1.2.1.length)*33)≤70368744177664))
                 (cond r2.1.1.1.2.2.1
                  ((C413 n r3.1.1.1).bind fun r63 =>
                   cond ((r63.1.2.1.1 != 0))
                   (some ((((true,()),()),())))
                   (h39 n 0 r2.1.1.1.1 r2.1.1.1.2.2.1 r63.1.1.1.1 r63.1.1.1.2 r3.1.1.1 (([]++r2.1.1.1.2.1))))
                  (h39 n 0 r2.1.1.1.1 r2.1.1.1.2.2.1 r2.1.1.1.2.2.2.1 r2.1.1.1.2.2.2.2 r3.1.1.1 (([]++r2.1.1.1.2.1))))
                 (none)))))
             (cond r2.1.1.1.2.2.1
              ((C413 n r7.1.1.1).bind fun r64 =>
               cond ((r64.1.2.1.1 != 0))
               (some ((((false,()),()),())))
               (cond ((!((r64.1.1.1.1==r2.1.1.1.2.2.2.1)&&((r64.1.1.1.2==r2.1.1.1.2.2.2.2)&&true))))
                (some ((((false,()),()),())))
                ((C413 n r3.1.1.1).bind fun r65 =>
                 (C272 n ((r2.1.1.1.2.2.2.1,r2.1.1.1.2.2.2.2)) ((r65.1.1.1.1,r65.1.1.1.2))).bind fun r66 =>
                 cond (decide (0 < ((r3.1.1.1.length:Nat):Int)))
                 ((C264 n (((r3.1.1.1.getD (Int.toNat 0) (0,0)).1,(r3.1.1.1.getD (Int.toNat 0) (0,0)).2)) ((r66.1.1.1.1,r66.1.1.1.2))).bind fun r67 =>
                  cond ((r65.1.2.1.1 != 0))
                  (some ((((true,()),()),())))
                  (cond ((r66.1.2.1.1 != 0))
                   (some ((((true,()),()),())))
                   (cond ((r67.1.2.1.1 != 0))
                    (some ((((true,()),()),())))
                    (cond (decide (0 < ((r3.1.1.1.length:Nat):Int)))
                     ((C168 n ((r2.1.1.1.1,(r2.1.1.1.2.1,(r2.1.1.1.2.2.1,(r2.1.1.1.2.2.2.1,r2.1.1.1.2.2.2.2))))) ((r3.1.1.1.set (Int.toNat 0) (r67.1.1.1.1,r67.1.1.1.2)))).bind fun r68 =>
                      cond ((r15.1.2.1.1==0))
                      (cond ((r68.1.2.1.1==0))
                       ((C372 n ((r68.1.1.1.1,r68.1.1.1.2)) ((r15.1.1.1.1,r15.1.1.1.2))).bind fun r69 =>
                        cond r69.1.1.1
                        (some ((((false,()),()),())))
                        (cond (decide (((0+r2.1.1.1.2.1.length)*33)≤70368744177664))
                         (cond r2.1.1.1.2.2.1
                          ((C413 n ((r3.1.1.1.set (Int.toNat 0) (r67.1.1.1.1,r67.1.1.1.2)))).bind fun r70 =>
                           cond ((r70.1.2.1.1 != 0))
                           (some ((((true,()),()),())))
                           (h39 n 0 r2.1.1.1.1 r2.1.1.1.2.2.1 r70.1.1.1.1 r70.1.1.1.2 ((r3.1.1.1.set (Int.toNat 0) (r67.1.1.1.1,r67.1.1.1.2))) (([]++r2.1.1.1.2.1))))
                          (h39 n 0 r2.1.1.1.1 r2.1.1.1.2.2.1 r2.1.1.1.2.2.2.1 r2.1.1.1.2.2.2.2 ((r3.1.1.1.set (Int.toNat 0) (r67.1.1.1.1,r67.1.1.1.2))) (([]++r2.1.1.1.2.1))))
                         (none)))
                       (cond (decide (((0+r2.1.1.1.2.1.length)*33)≤70368744177664))
                        (cond r2.1.1.1.2.2.1
                         ((C413 n ((r3.1.1.1.set (Int.toNat 0) (r67.1.1.1.1,r67.1.1.1.2)))).bind fun r71 =>
                          cond ((r71.1.2.1.1 != 0))
                          (some ((((true,()),()),())))
                          (h39 n 0 r2.1.1.1.1 r2.1.1.1.2.2.1 r71.1.1.1.1 r71.1.1.1.2 ((r3.1.1.1.set (Int.toNat 0) (r67.1.1.1.1,r67.1.1.1.2))) (([]++r2.1.1.1.2.1))))
                         (h39 n 0 r2.1.1.1.1 r2.1.1.1.2.2.1 r2.1.1.1.2.2.2.1 r2.1.1.1.2.2.2.2 ((r3.1.1.1.set (Int.toNat 0) (r67.1.1.1.1,r67.1.1.1.2))) (([]++r2.1.1.1.2.1))))
                        (none)))
                      (cond (decide (((0+r2.1.1.1.2.1.length)*33)≤70368744177664))
                       (cond r2.1.1.1.2.2.1
                        ((C413 n ((r3.1.1.1.set (Int.toNat 0) (r67.1.1.1.1,r67.1.1.1.2)))).bind fun r72 =>
                         cond ((r72.1.2.1.1 != 0))
                         (some ((((true,()),()),())))
                         (h39 n 0 r2.1.1.1.1 r2.1.1.1.2.2.1 r72.1.1.1.1 r72.1.1.1.2 ((r3.1.1.1.set (Int.toNat 0) (r67.1.1.1.1,r67.1.1.1.2))) (([]++r2.1.1.1.2.1))))
                        (h39 n 0 r2.1.1.1.1 r2.1.1.1.2.2.1 r2.1.1.1.2.2.2.1 r2.1.1.1.2.2.2.2 ((r3.1.1.1.set (Int.toNat 0) (r67.1.1.1.1,r67.1.1.1.2))) (([]++r2.1.1.1.2.1))))
                       (none)))
                     (none)))))
                 (none))))
              ((C168 n ((r2.1.1.1.1,(r2.1.1.1.2.1,(r2.1.1.1.2.2.1,(r2.1.1.1.2.2.2.1,r2.1.1.1.2.2.2.2))))) r3.1.1.1).bind fun r73 =>
               cond ((r15.1.2.1.1==0))
               (cond ((r73.1.2.1.1==0))
                ((C372 n ((r73.1.1.1.1,r73.1.1.1.2)) ((r15.1.1.1.1,r15.1.1.1.2))).bind fun r74 =>
                 cond r74.1.1.1
                 (some ((((false,()),()),())))
                 (cond (decide (((0+r2.1.1.1.2.1.length)*33)≤70368744177664))
                  (cond r2.1.1.1.2.2.1
                   ((C413 n r3.1.1.1).bind fun r75 =>
                    cond ((r75.1.2.1.1 != 0))
                    (some ((((true,()),()),())))
                    (h39 n 0 r2.1.1.1.1 r2.1.1.1.2.2.1 r75.1.1.1.1 r75.1.1.1.2 r3.1.1.1 (([]++r2.1.1.1.2.1))))
                   (h39 n 0 r2.1.1.1.1 r2.1.1.1.2.2.1 r2.1.1.1.2.2.2.1 r2.1.1.1.2.2.2.2 r3.1.1.1 (([]++r2.1.1.1.2.1))))
                  (none)))
                (cond (decide (((0+r2.1.1.1.2.1.length)*33)≤70368744177664))
                 (cond r2.1.1.1.2.2.1
                  ((C413 n r3.1.1.1).bind fun r76 =>
                   cond ((r76.1.2.1.1 != 0))
                   (some ((((true,()),()),())))
                   (h39 n 0 r2.1.1.1.1 r2.1.1.1.2.2.1 r76.1.1.1.1 r76.1.1.1.2 r3.1.1.1 (([]++r2.1.1.1.2.1))))
                  (h39 n 0 r2.1.1.1.1 r2.1.1.1.2.2.1 r2.1.1.1.2.2.2.1 r2.1.1.1.2.2.2.2 r3.1.1.1 (([]++r2.1.1.1.2.1))))
                 (none)))
               (cond (decide (((0+r2.1.1.1.2.1.length)*33)≤70368744177664))
                (cond r2.1.1.1.2.2.1
                 ((C413 n r3.1.1.1).bind fun r77 =>
                  cond ((r77.1.2.1.1 != 0))
                  (some ((((true,()),()),())))
                  (h39 n 0 r2.1.1.1.1 r2.1.1.1.2.2.1 r77.1.1.1.1 r77.1.1.1.2 r3.1.1.1 (([]++r2.1.1.1.2.1))))
                 (h39 n 0 r2.1.1.1.1 r2.1.1.1.2.2.1 r2.1.1.1.2.2.2.1 r2.1.1.1.2.2.2.2 r3.1.1.1 (([]++r2.1.1.1.2.1))))
                (none))))))))))))))))
noncomputable def laws_FnLeast (n:Nat) (a0:List (Int)) (a1:List (Int)):RT1:=laws_FnLeast_t n (laws_FnLeast_l39 n) a0 a1
end Go.Abs
