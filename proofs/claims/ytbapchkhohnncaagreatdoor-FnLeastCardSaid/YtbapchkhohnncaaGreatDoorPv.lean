import Derived.Calls
import Derived.Orders
set_option linter.unusedSimpArgs false
set_option linter.unusedSectionVars false
set_option linter.unusedVariables false
namespace Go.Abs
inductive Tc where
 | int (k:IntKind) | bool | str | list (t:Tc) | pair (a b:Tc) | unit | nil
 deriving DecidableEq
@[reducible] def Tc.den:Tc→Type
 | .int _=>Int
 | .bool=>Bool
 | .str=>ByteArray
 | .list t=>List t.den
 | .pair a b=>a.den×b.den
 | .unit=>Unit
 | .nil=>Unit
def Tc.sz:Tc→Nat
 | .int _ | .bool | .str | .list _ | .nil=>1
 | .pair a b=>a.sz+b.sz
 | .unit=>0
def Tc.dflt:(t:Tc)→t.den
 | .int _=>(0:Int)
 | .bool=>false
 | .str=>(ByteArray.empty:ByteArray)
 | .list _=>[]
 | .pair a b=>(a.dflt,b.dflt)
 | .unit=>()
 | .nil=>()
inductive Lf where
 | sc (v:Value)
 | list (bor:Bool) (t:Tc) (xs:List t.den)
 | slice (b ver:Nat) (rng:Option (Nat×Nat))
 | ref (b ver i base len d:Nat)
 | eref (bor:Bool) (t:Tc) (xs:List t.den) (i base len d:Nat)
 | arr (b ver i base n hi:Nat)
 | clos (f:Nat) (caps:List Nat)
 | inn (b p:Nat)
 | iref (b p i base len d:Nat)
 | ub (p:Bool)
 | dead
inductive PV where
 | one (l:Lf)
 | agg (ls:List Lf)
 | tup (xs:List (Bool×List Lf))
inductive Box where
 | var (T:Nat) (cells:List Lf)
 | row (ver:Nat) (t:Tc) (xs:List t.den)
 | pool (ver:Nat) (t:Tc) (pos:List Nat) (inn:List (List t.den))
 | gone
structure St where
 env:List (Nat×PV)
 bx:List (Nat×Box)
 nx:Nat
def look {α:Type} (k:Nat):List (Nat×α)→Option α
 | []=>none
 | (j,a) :: r=>bif Nat.beq k j then some a else look k r
def St.get (st:St) (t:Nat):PV:=match look t st.env with | some v=>v | none=>.one .dead
def St.set (st:St) (t:Nat) (v:PV):St:={ st with env:=(t,v) :: st.env }
def Z413:List (Nat×Box)→List (Nat×Box)→List (Nat×Box)
 | [],l=>l
 | p :: u,l=>p :: Z413 u l
inductive Ds where
 | int (k:IntKind) | bool | str | slice (e:Nat) | arr (n e:Nat) | struct (fs:List (Nat×Nat)) | ptr (e:Nat) | other
structure TyI where
 ag:Bool
 sz:Nat
 by_:Nat
 zero:List Value
 ds:Ds
 tc:Tc
 cmp:Bool:=false
 pool:Bool:=false
def fl (bor:Bool):(t:Tc)→t.den→List Lf
 | .int k,n=>[.sc (.int k n)]
 | .bool,b=>[.sc (.bool b)]
 | .str,s=>[.sc (.string s)]
 | .list t,xs=>[.list bor t xs]
 | .pair a b,x=>fl bor a x.1++fl bor b x.2
 | .unit,_=>[]
 | .nil,_=>[.sc (.pointer none)]
def castL (t t':Tc) (xs:List t.den):Option (List t'.den) :=
 if h:t=t' then some (h ▸ xs) else none
def unfl (bor:Bool):(t:Tc)→List Lf→Option (t.den×List Lf)
 | .int k,.sc (.int k' n) :: r=>if k=k' then some (n,r) else none
 | .bool,.sc (.bool b) :: r=>some (b,r)
 | .str,.sc (.string s) :: r=>some (s,r)
 | .list t,.list b t' xs :: r=>bif b&&!bor then none else (match castL t' t xs with | some ys=>some (ys,r) | none=>none)
 | .list _,.sc (.slice none 0 0) :: r=>some ([],r)
 | .pair a b,ls=>match unfl bor a ls with
  | some (x,r)=>match unfl bor b r with
   | some (y,r')=>some ((x,y),r')
   | none=>none
  | none=>none
 | .unit,ls=>some ((),ls)
 | .nil,.sc (.pointer none) :: r=>some ((),r)
 | _,_=>none
def solid (get:Nat→Option Box):Lf→Bool
 | .sc (.agg _)=>false
 | .sc (.tuple _)=>false
 | .sc _=>true
 | .list ..=>true
 | .eref ..=>true
 | .clos ..=>true
 | .slice b ver rng=>match get b with | some (.row ver' _ _)=>Nat.beq ver ver' | some (.pool ver' _ _ _)=>rng.isNone&&Nat.beq ver ver' | _=>false
 | .ref b ver ..=>match get b with | some (.row ver' _ _)=>Nat.beq ver ver' | some (.pool ver' _ _ _)=>Nat.beq ver ver' | some (.var ..)=>true | _=>false
 | .arr b ver ..=>match get b with | some (.row ver' _ _)=>Nat.beq ver ver' | some (.pool ver' _ _ _)=>Nat.beq ver ver' | some (.var ..)=>true | _=>false
 | .inn ..=>true
 | .iref ..=>true
 | .dead=>false
 | .ub _=>false
def rdOf:Lf→List Nat
 | .slice b _ _=>[b]
 | .ref b ..=>[b]
 | .arr b ..=>[b]
 | .inn b _=>[b]
 | .iref b ..=>[b]
 | _=>[]
def solids (get:Nat→Option Box):List Lf→Bool
 | []=>true
 | l :: r=>solid get l&&solids get r
def rdsOf:List Lf→List Nat
 | []=>[]
 | l :: r=>rdOf l++rdsOf r
def PV.leaves (get:Nat→Option Box):PV→Option (List Lf×List Nat)
 | .one l=>bif solid get l then some ([l],rdOf l) else none
 | .agg ls=>some (ls,[])
 | .tup _=>none
def PV.stored (get:Nat→Option Box):PV→Option (List Lf×List Nat)
 | .one l=>bif solid get l then some ([l],rdOf l) else none
 | .agg ls=>bif solids get ls then some (ls,rdsOf ls) else none
 | .tup _=>none
def mkv (ag:Bool) (ls:List Lf):PV :=
 bif ag then .agg ls else match ls with
  | [l]=>.one l
  | _=>.one .dead
def mkvO (ag:Bool) (ls:List Lf):Option PV :=
 match ag,ls with
 | true,ls=>some (.agg ls)
 | false,[l]=>some (.one l)
 | _,_=>none
def takeL:Nat→List Lf→Option (List Lf)
 | 0,_=>some []
 | _+1,[]=>none
 | n+1,x :: r=>match takeL n r with | some l=>some (x :: l) | none=>none
def dropL:Nat→List Lf→List Lf
 | 0,l=>l
 | _+1,[]=>[]
 | n+1,_ :: r=>dropL n r
def subL (off n:Nat) (l:List Lf):Option (List Lf):=takeL n (dropL off l)
def asInts (k:IntKind):List Lf→Option (List Int)
 | []=>some []
 | .sc (.int k' n) :: r=>if k=k' then (match asInts k r with | some l=>some (n :: l) | none=>none) else none
 | _=>none
def kindOf:List Lf→Option IntKind
 | .sc (.int k _) :: _=>some k
 | _=>none
def nthI:List Int→Nat→Int
 | [],_=>0
 | x :: r,d=>bif Nat.beq d 0 then x else nthI r (d - 1)
def pickL (ls:List Lf) (d:Nat):Option Lf :=
 match kindOf ls with
 | some k=>match asInts k ls with
  | some ns=>some (.sc (.int k (nthI ns d)))
  | none=>none
 | none=>none
def setI (k:IntKind) (v:Int):Nat→Nat→List Int→List Lf
 | _,_,[]=>[]
 | j,d,n :: r=>.sc (.int k (bif Nat.beq d j then v else n)) :: setI k v (j+1) d r
def putL (ls:List Lf) (d:Nat) (v:Lf):Option (List Lf) :=
 match kindOf ls,v with
 | some k,.sc (.int k' n)=>if k=k' then (match asInts k ls with | some ns=>some (setI k n 0 d ns) | none=>none) else none
 | _,_=>none
def loadL (ls:List Lf) (s base len d:Nat):Option (List Lf) :=
 match len with
 | 0=>subL base s ls
 | len+1=>match s with
  | 1=>match subL base (len+1) ls with
   | some sub=>match pickL sub d with | some l=>some [l] | none=>none
   | none=>none
  | _=>none
def storeL (ls:List Lf) (s base len d:Nat) (vs:List Lf):Option (List Lf) :=
 match len with
 | 0=>match takeL base ls,subL base s ls with
  | some h,some _=>bif Nat.beq vs.length s then some (h++vs++dropL (base+s) ls) else none
  | _,_=>none
 | len+1=>match s,vs with
  | 1,[v]=>match takeL base ls,subL base (len+1) ls with
   | some h,some sub=>match putL sub d v with | some sub'=>some (h++sub'++dropL (base+(len+1)) ls) | none=>none
   | _,_=>none
  | _,_=>none
def Z699 (a b:ByteArray):Bool:=Nat.ble (a.size+b.size) 9223372036854775807
def binV (ds:Ds) (op:BinOp):Value→Value→Option (Bool×Value)
 | .int k a,.int k' b =>
  match op with
  | .shl=>some (decide (0≤b),.int k (k.wrap (a*2 ^ (min b.toNat k.bits))))
  | .shr=>some (decide (0≤b),.int k (a.fdiv (2 ^ (min b.toNat k.bits))))
  | _ =>
  if k=k' then
   match op with
   | .add=>some (true,.int k (k.wrap (a+b)))
   | .sub=>some (true,.int k (k.wrap (a - b)))
   | .mul=>some (true,.int k (k.wrap (a*b)))
   | .quo=>some (!(b==0),.int k (k.wrap (a.tdiv b)))
   | .rem=>some (!(b==0),.int k (a.tmod b))
   | .eql=>some (true,.bool (a==b))
   | .neq=>some (true,.bool (a != b))
   | .lss=>some (true,.bool (decide (a < b)))
   | .leq=>some (true,.bool (decide (a≤b)))
   | .gtr=>some (true,.bool (decide (a > b)))
   | .geq=>some (true,.bool (decide (a≥b)))
   | .and=>some (true,.int k (k.wrap (BitVec.ofInt k.bits a &&& BitVec.ofInt k.bits b).toNat))
   | .or=>some (true,.int k (k.wrap (BitVec.ofInt k.bits a ||| BitVec.ofInt k.bits b).toNat))
   | .xor=>some (true,.int k (k.wrap (BitVec.ofInt k.bits a ^^^ BitVec.ofInt k.bits b).toNat))
   | _=>none
  else none
 | .bool a,.bool b =>
  match ds,op with
  | .bool,.eql=>some (true,.bool (a==b))
  | .bool,.neq=>some (true,.bool (!(a==b)))
  | _,_=>none
 | .string a,.string b =>
  match op with
  | .add=>some (Z699 a b,.string (a++b))
  | .eql=>some (true,.bool (a.toList==b.toList))
  | .neq=>some (true,.bool (!(a.toList==b.toList)))
  | .lss=>some (true,.bool (Op.bytesLess a.toList b.toList))
  | .leq=>some (true,.bool (Op.bytesLess a.toList b.toList||a.toList==b.toList))
  | .gtr=>some (true,.bool (!(Op.bytesLess a.toList b.toList||a.toList==b.toList)))
  | .geq=>some (true,.bool (!(Op.bytesLess a.toList b.toList)))
  | _=>none
 | _,_=>none
def scVals:List Lf→Option (List Value)
 | []=>some []
 | .sc v :: r=>match scVals r with | some l=>some (v :: l) | none=>none
 | _=>none
def eqVs:List Value→List Value→List Value→Option Bool
 | [],[],[]=>some true
 | .int _ _ :: z,.int k a :: r,.int k' b :: s=>if k=k' then (match eqVs z r s with | some e=>some ((a==b)&&e) | none=>none) else none
 | .bool _ :: z,.bool a :: r,.bool b :: s=>match eqVs z r s with | some e=>some ((a==b)&&e) | none=>none
 | .string _ :: z,.string a :: r,.string b :: s=>match eqVs z r s with | some e=>some ((a==b)&&e) | none=>none
 | _,_,_=>none
def unV (op:UnOp):Value→Option Value
 | .int k n=>match op with | .neg=>some (.int k (k.wrap (0 - n))) | _=>none
 | .bool b=>match op with | .not=>some (.bool (!b)) | _=>none
 | _=>none
structure Eff where
 g:Bool
 v:PV
 upd:List (Nat×Box)
 rd:List Nat
def bsize (s:ByteArray):Nat:=s.size
def byteAt (s:ByteArray) (i:Int):Int:=((s.data[i.toNat]?).getD 0).toNat
def view {t:Tc} (rng:Option (Nat×Nat)) (xs:List t.den):List t.den :=
 match rng with
 | none=>xs
 | some (off,n)=>(xs.drop off).take n
def mem (b:Nat):List Nat→Bool
 | []=>false
 | c :: r=>Nat.beq b c||mem b r
def immL (get:Nat→Option Box):List Lf→Option (List Lf×List Nat)
 | []=>some ([],[])
 | .slice b ver rng :: r=>match get b with
  | some (.row ver' t xs)=>bif Nat.beq ver ver' then
    (match immL get r with | some (ls,gone)=>bif mem b gone then none else some (.list false t (view rng xs) :: ls,b :: gone) | none=>none) else none
  | _=>none
 | l :: r=>match immL get r with | some (ls,gone)=>some (l :: ls,gone) | none=>none
def fillL (place:Nat→Option (Nat×Nat)) (cells:List Lf):List (Nat×List Lf)→Option (List Lf)
 | []=>some cells
 | (i,v) :: rest=>match place i with
  | none=>none
  | some (off,s)=>match storeL cells s off 0 0 v with
   | some c=>fillL place c rest
   | none=>none
def nth {α:Type}:List α→Nat→Option α
 | [],_=>none
 | x :: _,0=>some x
 | _ :: r,n+1=>nth r n
def repL (z:List Lf):Nat→List Lf
 | 0=>[]
 | n+1=>z++repL z n
def unflN (t:Tc):Nat→List Lf→Option (List t.den)
 | 0,[]=>some []
 | 0,_=>none
 | n+1,ls=>match unfl false t ls with
  | some (x,r)=>match unflN t n r with | some xs=>some (x :: xs) | none=>none
  | none=>none
def goneU (ids:List Nat):List (Nat×Box):=ids.map fun b=>(b,.gone)
section
variable (ty:Nat→Option TyI)
def sizeT (t:Nat):Option Nat:=match ty t with | some i=>some i.sz | none=>none
def flatT:Tc→Bool
 | .list _=>false
 | .pair a b=>flatT a&&flatT b
 | _=>true
def Z596 (get:Nat→Option Box):Lf→Option (Σ t:Tc,List t.den)
 | .list bor t xs=>bif !bor||flatT t then some ⟨t,xs⟩ else none
 | .slice b ver rng=>match get b with
  | some (.row ver' t xs)=>bif Nat.beq ver ver' then some ⟨t,view rng xs⟩ else none
  | _=>none
 | _=>none
def eff (v:PV) (rd:List Nat:=[]):Option Eff:=some { g:=true,v,upd:=[],rd }
def effO (v:Option PV) (rd:List Nat:=[]):Option Eff:=match v with
 | some v=>some { g:=true,v,upd:=[],rd }
 | none=>none
def Z535 (get:Nat→Option Box) (T:Nat) (l:Lf):Option Eff :=
 match ty T with
 | none=>none
 | some i=>match l with
  | .eref bor t xs ix base len d=>match loadL (fl bor t (xs.getD ix t.dflt)) i.sz base len d with
   | some ls=>effO (mkvO i.ag ls)
   | none=>none
  | .ref b ver ix base len d=>match get b with
   | some (.var _ cells)=>match loadL cells i.sz base len d with
    | some ls=>effO (mkvO i.ag ls) [b]
    | none=>none
   | some (.row ver' t xs)=>bif Nat.beq ver ver' then
     (match loadL (fl false t (xs.getD ix t.dflt)) i.sz base len d with
     | some ls=>effO (mkvO i.ag ls) [b]
     | none=>none) else none
   | _=>none
  | _=>none
def Z378 (get:Nat→Option Box) (T:Nat) (l:Lf) (v:PV):Option Eff :=
 match ty T,l,v.stored get with
 | some i,.ref b ver ix base len d,some (vl,rv)=>match get b with
  | some (.var T' cells)=>match storeL cells i.sz base len d vl with
   | some cells'=>some { g:=true,v:=.one .dead,upd:=[(b,.var T' cells')],rd:=b :: rv }
   | none=>none
  | some (.row ver' t xs)=>bif Nat.beq ver ver' then
    (match immL get vl with
    | some (vi,gone)=>bif (mem b gone||Nat.beq i.sz 0) then none else match storeL (fl false t (xs.getD ix t.dflt)) i.sz base len d vi with
     | some cells'=>match unfl false t cells' with
      | some (x,[])=>some { g:=true,v:=.one .dead,upd:=(b,.row ver' t (xs.set ix x)) :: goneU gone,rd:=b :: gone++rv }
      | _=>none
     | none=>none
    | none=>none) else none
  | _=>none
 | _,_,_=>none
def Z62 (get:Nat→Option Box) (T:Nat) (l:Lf) (i:Int):Option Eff :=
 match ty T with
 | none=>none
 | some I=>match I.ds,l with
  | .slice el,.list bor t xs=>match ty el with
   | some E=>if E.tc=t then some { g:=decide (0≤i)&&decide (i < (xs.length:Int)),v:=.one (.eref bor t xs i.toNat 0 0 0),upd:=[],rd:=[] } else none
   | none=>none
  | .slice el,.slice b ver rng=>match ty el with
   | some E=>match get b with
    | some (.row ver' t xs)=>bif Nat.beq ver ver' then
      (if E.tc=t then
       (match rng with
       | none=>some { g:=decide (0≤i)&&decide (i < (xs.length:Int)),v:=.one (.ref b ver i.toNat 0 0 0),upd:=[],rd:=[b] }
       | some (off,n)=>some { g:=decide (0≤i)&&decide (i < (((xs.drop off).take n).length:Int)),v:=.one (.ref b ver (off+i.toNat) 0 0 0),upd:=[],rd:=[b] }) else none) else none
    | _=>none
   | none=>none
  | .slice el,.arr b ver ix base n hi=>match sizeT ty el with
   | some 1=>bif solid get (.ref b ver ix base 0 0) then some { g:=decide (0≤i)&&decide (i < (hi:Int)),v:=.one (.ref b ver ix base n i.toNat),upd:=[],rd:=[b] } else none
   | _=>none
  | .arr n e,.ref b ver ix base len _=>match len,sizeT ty e with
   | 0,some 1=>bif solid get (.ref b ver ix base 0 0) then some { g:=decide (0≤i)&&decide (i < (n:Int)),v:=.one (.ref b ver ix base n i.toNat),upd:=[],rd:=[b] } else none
   | _,_=>none
  | .arr n e,.eref bor t xs ix base len _=>match len,sizeT ty e with
   | 0,some 1=>some { g:=decide (0≤i)&&decide (i < (n:Int)),v:=.one (.eref bor t xs ix base n i.toNat),upd:=[],rd:=[] }
   | _,_=>none
  | _,_=>none
def Z416 (lo hi len:Int):Bool:=decide (0≤lo)&&decide (lo≤hi)&&decide (hi≤len)
def Z377 (get:Nat→Option Box) (T:Nat) (l:Lf) (lo hi:Option Int):Option Eff :=
 match ty T with
 | none=>none
 | some I=>match I.ds,l with
  | .str,.sc (.string s) =>
   some { g:=Z416 (lo.getD 0) (hi.getD (s.size:Int)) (s.size:Int),v:=.one (.sc (.string (s.extract (lo.getD 0).toNat (hi.getD (s.size:Int)).toNat))),upd:=[],rd:=[] }
  | .slice el,.list bor t xs=>match ty el with
   | some E=>if E.tc=t then
     some { g:=Z416 (lo.getD 0) (hi.getD (xs.length:Int)) (xs.length:Int),v:=.one (.list bor t ((xs.drop (lo.getD 0).toNat).take ((hi.getD (xs.length:Int)).toNat - (lo.getD 0).toNat))),upd:=[],rd:=[] } else none
   | none=>none
  | .slice el,.slice b ver none=>match ty el with
   | some E=>match get b with
    | some (.row ver' t xs)=>bif Nat.beq ver ver' then
      (if E.tc=t then
       some { g:=Z416 (lo.getD 0) (hi.getD (xs.length:Int)) (xs.length:Int),v:=.one (.slice b ver (some ((lo.getD 0).toNat,(hi.getD (xs.length:Int)).toNat - (lo.getD 0).toNat))),upd:=[],rd:=[b] } else none) else none
    | _=>none
   | none=>none
  | .slice el,.slice b ver (some (off,n))=>match ty el with
   | some E=>match get b with
    | some (.row ver' t xs)=>bif Nat.beq ver ver' then
      (if E.tc=t then
       some { g:=Z416 (lo.getD 0) (hi.getD (((xs.drop off).take n).length:Int)) ((xs.length - off:Nat):Int),v:=.one (.slice b ver (some (off+(lo.getD 0).toNat,(hi.getD (((xs.drop off).take n).length:Int)).toNat - (lo.getD 0).toNat))),upd:=[],rd:=[b] } else none) else none
    | _=>none
   | none=>none
  | .arr n e,.ref b ver ix base len _=>match len,sizeT ty e,lo with
   | 0,some 1,none=>bif solid get (.ref b ver ix base 0 0) then some { g:=Z416 0 (hi.getD (n:Int)) (n:Int),v:=.one (.arr b ver ix base n (hi.getD (n:Int)).toNat),upd:=[],rd:=[b] } else none
   | _,_,_=>none
  | _,_=>none
def Z258 (get:Nat→Option Box) (T:Nat) (l:Lf) (lo hi m:Int):Option Eff :=
 match ty T with
 | none=>none
 | some I=>match I.ds,l with
  | .slice el,.slice b ver none=>match ty el,get b with
   | some _,some (.row ver' _ xs)=>bif Nat.beq ver ver' then some { g:=Z416 lo hi m&&decide (m≤(xs.length:Int)),v:=.one .dead,upd:=[],rd:=[b] } else none
   | _,_=>none
  | _,_=>none
def Z716 (get:Nat→Option Box) (T:Nat) (l:Lf):Option Eff :=
 match ty T with
 | none=>none
 | some I=>match I.ds,l with
  | .str,.sc (.string s)=>eff (.one (.sc (.int .i64 (s.size:Int))))
  | .slice _,.sc (.slice none 0 0)=>eff (.one (.sc (.int .i64 0)))
  | .slice _,.list _ _ xs=>eff (.one (.sc (.int .i64 (xs.length:Int))))
  | .slice _,.arr _ _ _ _ _ hi=>eff (.one (.sc (.int .i64 (hi:Int))))
  | .slice _,.slice b ver rng=>match get b with
   | some (.row ver' _ xs)=>bif Nat.beq ver ver' then
     (match rng with
     | none=>eff (.one (.sc (.int .i64 (xs.length:Int)))) [b]
     | some (off,n)=>eff (.one (.sc (.int .i64 (((xs.drop off).take n).length:Int)))) [b]) else none
   | _=>none
  | _,_=>none
def copyL {α:Type} (xs:List α) (off m:Nat) (ys:List α):List α:=xs.take off++ys.take m++xs.drop (off+(ys.take m).length)
def copyN {α:Type} (m:Nat) (ys:List α):Nat:=(ys.take m).length
def room:Nat:=70368744177664
def Z412 (get:Nat→Option Box) (fresh:Nat) (E:TyI) (dst:Lf) (ys:List E.tc.den) (rs:List Nat):Option Eff :=
 match dst with
 | .sc (.slice none 0 0)=>some { g:=decide (ys.length*(E.by_+1)≤room),v:=.one (.slice fresh 0 none),upd:=[(fresh,.row 0 E.tc ys)],rd:=rs }
 | .slice b ver none=>match get b with
  | some (.row ver' t xs)=>bif Nat.beq ver ver' then
    (match castL t E.tc xs with
    | some xs'=>some { g:=decide ((xs'.length+ys.length)*(E.by_+1)≤room),v:=.one (.slice b (ver+1) none),upd:=[(b,.row (ver+1) E.tc (xs'++ys))],rd:=b :: rs }
    | none=>none) else none
  | _=>none
 | .slice b ver (some (off,n))=>match get b with
  | some (.row ver' t xs)=>bif Nat.beq ver ver'&&!(Nat.beq E.sz 0) then
    (match castL t E.tc xs with
    | some xs'=>some { g:=decide (off+((xs'.drop off).take n).length+ys.length≤xs'.length),v:=.one (.slice b ver (some (off,((xs'.drop off).take n).length+ys.length))),upd:=[(b,.row ver E.tc (copyL xs' (off+((xs'.drop off).take n).length) ys.length ys))],rd:=b :: rs }
    | none=>none) else none
  | _=>none
 | _=>none
def Z257 (get:Nat→Option Box) (fresh:Nat) (T:Nat) (dst src:Lf):Option Eff :=
 match ty T with
 | none=>none
 | some I=>match I.ds with
  | .slice e=>match ty e with
   | none=>none
   | some E=>match src with
    | .sc (.slice none 0 0)=>Z412 get fresh E dst [] []
    | _=>match Z596 get src with
     | some ⟨t,ys⟩=>match castL t E.tc ys with
      | some ys'=>Z412 get fresh E dst ys' (rdOf src)
      | none=>none
     | none=>none
  | _=>none
def Z615 (fs:List (Nat×Nat)) (f:Nat):Option (Nat×Nat):=nth fs f
def capIds:List PV→Option (List Nat)
 | []=>some []
 | .one (.ref b 0 0 0 0 0) :: r=>match capIds r with | some l=>some (b :: l) | none=>none
 | _=>none
def partsL (get:Nat→Option Box) (ρ:Operand→PV):List (Nat×Operand)→Option (List (Nat×List Lf)×List Nat)
 | []=>some ([],[])
 | (i,x) :: r=>match (ρ x).leaves get,partsL get ρ r with
  | some (ls,rd),some (ps,rds)=>some ((i,ls) :: ps,rd++rds)
  | _,_=>none
def Z483 (get:Nat→Option Box):Lf→Bool
 | .ref b ver i base len d=>solid get (.ref b ver i base len d)
 | .eref ..=>true
 | _=>false
def allSc:List Lf→Bool
 | []=>true
 | .sc _ :: r=>allSc r
 | _=>false
def intOf?:PV→Option Int
 | .one (.sc (.int _ n))=>some n
 | _=>none
def optInt (ρ:Operand→PV):Option Operand→Option (Option Int)
 | none=>some none
 | some x=>match intOf? (ρ x) with | some n=>some (some n) | none=>none
def letIn {α X:Type} (a:α) (f:α→Option X):Option X:=f a
open Classical in
noncomputable def eith {X:Type} (a b:Option X):Option X:=if a=b then a else none
def emptyL {α:Type} (xs:List α):Bool:=Nat.beq xs.length 0
def eqNil (get:Nat→Option Box) (T:Nat) (l:Lf):Option Eff:=match ty T with
 | some I=>match I.ds with
  | .slice _=>match Z596 get l with
   | some ⟨_,xs⟩=>eff (.one (.ub (emptyL xs))) (rdOf l)
   | none=>none
  | _=>none
 | none=>none
def begOf:Option (Nat×Nat)→Nat
 | none=>0
 | some (off,_)=>off
def Z534 (get:Nat→Option Box) (T:Nat) (dst src:Lf):Option Eff:=match ty T,dst,Z596 get src with
 | some I,.slice b ver rng,some ⟨t',ys⟩=>match I.ds,get b with
  | .slice e,some (.row ver' t xs)=>match ty e,castL t' t ys with
   | some E,some ys'=>bif Nat.beq ver ver'&&!(Nat.beq E.sz 0) then (if E.tc=t then
     some { g:=true,v:=.one (.sc (.int .i64 ((copyN (view rng xs).length ys':Nat):Int))),upd:=[(b,.row ver' t (copyL xs (begOf rng) (view rng xs).length ys'))],rd:=b :: rdOf src } else none) else none
   | _,_=>none
  | _,_=>none
 | _,_,_=>none
def Z376 (get:Nat→Option Box) (T:Nat) (l:Lf):Option Eff:=match ty T,l with
 | some I,.slice b ver (some (off,n))=>match I.ds,get b with
  | .slice e,some (.row ver' t xs)=>match ty e with
   | some E=>bif Nat.beq ver ver'&&!(Nat.beq E.sz 0) then (if E.tc=t then
     some { g:=true,v:=.one (.sc (.tuple #[])),upd:=[(b,.row ver' t (copyL xs off ((xs.drop off).take n).length (List.replicate ((xs.drop off).take n).length t.dflt)))],rd:=[b] } else none) else none
   | none=>none
  | _,_=>none
 | _,_=>none
def Z581 (xs:List Int):ByteArray:=xs.foldl (fun r n=>r.push (UInt8.ofNat n.toNat)) ByteArray.empty
def stepOp (get:Nat→Option Box) (fresh:Nat) (ρ:Operand→PV) (o:Op):Option Eff :=
 match o with
 | .move x | .assign x=>eff (ρ x)
 | .alloc T=>match ty T with
  | some i=>some { g:=true,v:=.one (.ref fresh 0 0 0 0 0),upd:=[(fresh,.var T (i.zero.map .sc))],rd:=[] }
  | none=>none
 | .box T x=>match (ρ x).leaves get with
  | some (ls,rd)=>some { g:=true,v:=.one (.ref fresh 0 0 0 0 0),upd:=[(fresh,.var T ls)],rd }
  | none=>none
 | .build T parts=>match ty T,partsL get ρ parts.toList with
  | some I,some (ps,rd)=>match I.ds with
   | .struct fs=>match fillL (fun i=>match nth fs i with | some (off,t)=>(match sizeT ty t with | some s=>some (off,s) | none=>none) | none=>none) (I.zero.map .sc) ps with
    | some ls=>eff (.agg ls) rd
    | none=>none
   | .arr _ e=>match sizeT ty e with
    | some s=>match fillL (fun i=>some (i*s,s)) (I.zero.map .sc) ps with
     | some ls=>eff (.agg ls) rd
     | none=>none
    | none=>none
   | _=>none
  | _,_=>none
 | .buildSlice T len parts=>match ty T,partsL get ρ parts.toList with
  | some I,some (ps,rd)=>match I.ds with
   | .slice e=>match ty e with
    | none=>none
    | some E=>match fillL (fun i=>some (i*E.sz,E.sz)) (repL (E.zero.map .sc) len) ps with
     | none=>none
     | some ls=>match immL get ls with
      | none=>none
      | some (ls',gone)=>match unflN E.tc len ls' with
       | some xs=>some { g:=decide (len*E.sz≤16777216),v:=.one (.slice fresh 0 none),upd:=(fresh,.row 0 E.tc xs) :: goneU gone,rd:=gone++rd }
       | none=>none
   | _=>none
  | _,_=>none
 | .load T a=>match ρ a with
  | .one l=>Z535 ty get T l
  | _=>none
 | .store T a x=>match ρ a with
  | .one l=>Z378 ty get T l (ρ x)
  | _=>none
 | .nilCheck x=>match ρ x with
  | .one l=>bif Z483 get l then eff (.one l) (rdOf l) else none
  | _=>none
 | .binOp op T x y _=>match ρ x,ρ y with
  | .one (.sc a),.one (.sc b)=>match ty T with
   | some I=>match binV I.ds op a b with
    | some (g,v)=>some { g,v:=.one (.sc v),upd:=[],rd:=[] }
    | none=>none
   | none=>none
  | .agg ls,.agg ms=>match ty T,scVals ls,scVals ms with
   | some I,some us,some vs=>bif I.cmp then (match eqVs I.zero us vs with
    | some e=>match op with
     | .eql=>eff (.one (.sc (.bool e)))
     | .neq=>eff (.one (.sc (.bool (!e))))
     | _=>none
    | none=>none) else none
   | _,_,_=>none
  | .one l,.one (.sc (.slice none 0 0))=>match op with
   | .eql=>eqNil ty get T l
   | _=>none
  | _,_=>none
 | .unOp op _ x=>match ρ x with
  | .one (.sc a)=>match unV op a with
   | some v=>eff (.one (.sc v))
   | none=>none
  | _=>none
 | .convert src dst x=>match ty src,ty dst,ρ x with
  | some _,some I,.one (.sc (.int _ n))=>match I.ds with
   | .int k=>eff (.one (.sc (.int k (k.wrap n))))
   | _=>none
  | some S,some I,.one l=>match S.ds,I.ds,Z596 get l with
   | .slice e,.str,some ⟨.int .u8,xs⟩=>match ty e with
    | some E=>match E.ds with
     | .int .u8=>eff (.one (.sc (.string (Z581 xs)))) (rdOf l)
     | _=>none
    | none=>none
   | _,_,_=>none
  | _,_,_=>none
 | .makeFunc (.func f) first captured=>match first.toList,capIds (captured.toList.map ρ) with
  | [],some ids=>eff (.one (.clos f ids))
  | _,_=>none
 | .makeSlice T l c=>match ty T,intOf? (ρ l),intOf? (ρ c) with
  | some I,some n,some m=>match I.ds with
   | .slice e=>match ty e with
    | some E=>some { g:=decide (n=m)&&decide (0≤n)&&decide (n.toNat*(E.by_+1)≤room),v:=.one (.slice fresh 0 none),upd:=[(fresh,.row 0 E.tc (List.replicate n.toNat E.tc.dflt))],rd:=[] }
    | none=>none
   | _=>none
  | _,_,_=>none
 | .slice T x lo hi none=>match ρ x,optInt ρ lo,optInt ρ hi with
  | .one l,some lo,some hi=>Z377 ty get T l lo hi
  | _,_,_=>none
 | .slice T x (some lo) (some hi) (some m)=>match ρ x,intOf? (ρ lo),intOf? (ρ hi),intOf? (ρ m) with
  | .one l,some lo,some hi,some m=>Z258 ty get T l lo hi m
  | _,_,_,_=>none
 | .fieldAddr S x f=>match ty S with
  | none=>none
  | some I=>match I.ds with
   | .struct fs=>match nth fs f with
    | some (off,t)=>match sizeT ty t with
     | some (_+1)=>match ρ x with
      | .one (.ref b ver i base 0 0)=>bif solid get (.ref b ver i base 0 0) then eff (.one (.ref b ver i (base+off) 0 0)) [b] else none
      | .one (.eref bor t xs i base 0 0)=>eff (.one (.eref bor t xs i (base+off) 0 0))
      | _=>none
     | _=>none
    | none=>none
   | _=>none
 | .field S x f=>match ty S with
  | none=>none
  | some I=>match I.ds,ρ x with
   | .struct fs,.agg ls=>match nth fs f with
    | some (off,t)=>match ty t with
     | some F=>match subL off F.sz ls with
      | some sub=>effO (mkvO F.ag sub)
      | none=>none
     | none=>none
    | none=>none
   | _,_=>none
 | .indexAddr T x i=>match ρ x,intOf? (ρ i) with
  | .one l,some n=>Z62 ty get T l n
  | _,_=>none
 | .index T x i=>match ty T,intOf? (ρ i) with
  | some I,some n=>match I.ds,ρ x with
   | .str,.one (.sc (.string s))=>some { g:=decide (0≤n)&&decide (n < (s.size:Int)),v:=.one (.sc (.int .u8 (byteAt s n))),upd:=[],rd:=[] }
   | .arr len e,.agg ls=>match ty e with
    | some E=>match E.ag,E.sz,subL 0 len ls with
     | false,1,some sub=>match pickL sub n.toNat with
      | some l=>some { g:=decide (0≤n)&&decide (n < (len:Int)),v:=.one l,upd:=[],rd:=[] }
      | none=>none
     | _,_,_=>none
    | none=>none
   | _,_=>none
  | _,_=>none
 | .extract t ix=>match ρ t with
  | .tup xs=>match nth xs ix with
   | some (ag,ls)=>effO (mkvO ag ls)
   | none=>none
  | _=>none
 | .call c=>match c.callee with
  | .builtin .len=>match c.args.toList,c.argTypes.toList with
   | [x],[T]=>match ρ x with
    | .one l=>Z716 ty get T l
    | _=>none
   | _,_=>none
  | .builtin .append=>match c.args.toList,c.argTypes.toList with
   | [x,y],[T,T']=>match ρ x,ρ y with
    | .one d,.one s=>bif Nat.beq T T' then Z257 ty get fresh T d s else none
    | _,_=>none
   | _,_=>none
  | .builtin .copy=>match c.args.toList,c.argTypes.toList with
   | [x,y],[T,_]=>match ρ x,ρ y with
    | .one d,.one s=>Z534 ty get T d s
    | _,_=>none
   | _,_=>none
  | .builtin .clear=>match c.args.toList,c.argTypes.toList with
   | [x],[T]=>match ρ x with
    | .one l=>Z376 ty get T l
    | _=>none
   | _,_=>none
  | .builtin .min=>match c.args.toList with
   | [x,y]=>match ρ x,ρ y with
    | .one (.sc (.int k a)),.one (.sc (.int k' b))=>if k=k' then eff (.one (.sc (.int k (if b < a then b else a)))) else none
    | _,_=>none
   | _=>none
  | .builtin .max=>match c.args.toList with
   | [x,y]=>match ρ x,ρ y with
    | .one (.sc (.int k a)),.one (.sc (.int k' b))=>if k=k' then eff (.one (.sc (.int k (if a < b then b else a)))) else none
    | _,_=>none
   | _=>none
  | _=>none
 | _=>none
def rowsAt {α:Type} (pos:List Nat) (inn:List (List α)):List (List α):=pos.map fun p=>inn.getD p []
def poolT (T:Nat):Option (Tc×TyI):=match ty T with
 | some I=>bif I.pool then (match I.ds with
  | .slice e=>match ty e with
   | some E=>match E.tc with
    | .list t=>some (t,E)
    | _=>none
   | none=>none
  | _=>none) else none
 | none=>none
def elemT (T:Nat):Option Tc:=match ty T with
 | some I=>match I.ds with
  | .slice e=>match ty e with
   | some E=>some E.tc
   | none=>none
  | _=>none
 | none=>none
def ownOf (get:Nat→Option Box) (t:Tc):Lf→Option (List t.den×Nat)
 | .slice c ver none=>match get c with
  | some (.row ver' t' xs)=>bif Nat.beq ver ver' then (match castL t' t xs with | some ys=>some (ys,c) | none=>none) else none
  | _=>none
 | _=>none
def tempOf (get:Nat→Option Box) (t:Tc):Lf→Option (List t.den×Nat)
 | .slice c ver none=>match get c with
  | some (.pool ver' t' [0] [xs])=>bif Nat.beq ver ver' then (match castL t' t xs with | some ys=>some (ys,c) | none=>none) else none
  | _=>none
 | _=>none
def Z174 (get:Nat→Option Box) (fresh:Nat) (t:Tc) (E:TyI) (d s:Lf):Option Eff :=
 match s with
 | .list _ (.list t') yss=>match castL (.list t') (.list t) yss,d with
  | some zss,.slice b ver none=>match get b with
   | some (.pool ver' t'' pos inn)=>bif Nat.beq ver ver' then (match castL (.list t'') (.list t) inn with
    | some inn'=>some { g:=decide ((pos.length+zss.length)*(E.by_+1)≤room),v:=.one (.list true (.list t) (rowsAt pos inn'++zss)),upd:=[(b,.gone)],rd:=[b] }
    | none=>none) else none
   | _=>none
  | _,_=>none
 | _=>match tempOf get t s with
  | some (ys,c)=>match d with
   | .sc (.slice none 0 0)=>bif Nat.ble (E.by_+1) room then some { g:=true,v:=.one (.slice fresh 0 none),upd:=[(fresh,.pool 0 t [0] [ys]),(c,.gone)],rd:=[c] } else none
   | .slice b ver none=>match get b with
    | some (.pool ver' t'' pos inn)=>bif Nat.beq ver ver'&&!(Nat.beq b c) then (match castL (.list t'') (.list t) inn with
     | some inn'=>some { g:=decide ((pos.length+1)*(E.by_+1)≤room),v:=.one (.slice b (ver+1) none),upd:=[(b,.pool (ver+1) t (pos++[inn'.length]) (inn'++[ys])),(c,.gone)],rd:=[b,c] }
     | none=>none) else none
    | _=>none
   | _=>none
  | none=>none
def Z649 (get:Nat→Option Box) (T:Nat) (l:Lf):Option Eff:=match elemT ty T,l with
 | some _,.slice b ver none=>match get b with
  | some (.pool ver' _ pos _)=>bif Nat.beq ver ver' then eff (.one (.sc (.int .i64 (pos.length:Int)))) [b] else none
  | _=>none
 | some _,.inn b p=>match get b with
  | some (.pool _ _ _ inn)=>eff (.one (.sc (.int .i64 ((inn.getD p []).length:Int)))) [b]
  | _=>none
 | _,_=>none
def Z317 (get:Nat→Option Box) (T:Nat) (l:Lf) (i:Int):Option Eff:=match elemT ty T,l with
 | some e,.slice b ver none=>match get b with
  | some (.pool ver' t pos _)=>bif Nat.beq ver ver' then (if e=.list t then
    some { g:=decide (0≤i)&&decide (i < (pos.length:Int)),v:=.one (.ref b ver i.toNat 0 0 0),upd:=[],rd:=[b] } else none) else none
  | _=>none
 | some e,.inn b p=>match get b with
  | some (.pool _ t _ inn)=>if e=t then
    some { g:=decide (0≤i)&&decide (i < ((inn.getD p []).length:Int)),v:=.one (.iref b p i.toNat 0 0 0),upd:=[],rd:=[b] } else none
  | _=>none
 | _,_=>none
def Z485 (get:Nat→Option Box) (T:Nat) (l:Lf):Option Eff:=match ty T,l with
 | some j,.ref b ver i 0 0 0=>match get b with
  | some (.pool ver' _ pos _)=>bif Nat.beq ver ver'&&!j.ag&&Nat.beq j.sz 1 then eff (.one (.inn b (pos.getD i 0))) [b] else none
  | _=>none
 | some j,.iref b p i base len d=>match get b with
  | some (.pool _ t _ inn)=>match loadL (fl false t ((inn.getD p []).getD i t.dflt)) j.sz base len d with
   | some ls=>effO (mkvO j.ag ls) [b]
   | none=>none
  | _=>none
 | _,_=>none
def Z381 (get:Nat→Option Box) (T:Nat) (l:Lf) (v:PV):Option Eff:=match ty T,l with
 | some j,.ref b ver i 0 0 0=>match get b with
  | some (.pool ver' t pos inn)=>bif Nat.beq ver ver'&&!j.ag&&Nat.beq j.sz 1 then (match v with
   | .one (.inn b' p)=>bif Nat.beq b b' then some { g:=true,v:=.one .dead,upd:=[(b,.pool ver' t (pos.set i p) inn)],rd:=[b] } else none
   | .one l'=>match ownOf get t l' with
    | some (xs,c)=>some { g:=true,v:=.one .dead,upd:=[(b,.pool ver' t (pos.set i inn.length) (inn++[xs])),(c,.gone)],rd:=[b,c] }
    | none=>none
   | _=>none) else none
  | _=>none
 | some j,.iref b p i base len d=>match get b,v.stored get with
  | some (.pool ver' t pos inn),some (vl,rv)=>bif Nat.beq j.sz 0 then none else match storeL (fl false t ((inn.getD p []).getD i t.dflt)) j.sz base len d vl with
   | some cells'=>match unfl false t cells' with
    | some (x,[])=>some { g:=true,v:=.one .dead,upd:=[(b,.pool ver' t pos (inn.set p ((inn.getD p []).set i x)))],rd:=b :: rv }
    | _=>none
   | none=>none
  | _,_=>none
 | _,_=>none
def isPool:Option Box→Bool
 | some (.pool ..)=>true
 | _=>false
def Z536 (get:Nat→Option Box) (fresh:Nat) (ρ:Operand→PV) (o:Op):Option Eff :=
 match o with
 | .buildSlice T len parts=>match poolT ty T with
  | some (t,E)=>match len,parts.toList with
   | 0,[]=>some { g:=true,v:=.one (.slice fresh 0 none),upd:=[(fresh,.pool 0 t [] [])],rd:=[] }
   | 1,[(0,x)]=>match ρ x with
    | .one (.list _ t' xs)=>match castL t' t xs with
     | some ys=>eff (.one (.list true (.list t) [ys]))
     | none=>none
    | .one l=>match ownOf get t l with
     | some (ys,c)=>some { g:=true,v:=.one (.slice fresh 0 none),upd:=[(fresh,.pool 0 t [0] [ys]),(c,.gone)],rd:=[c] }
     | none=>none
    | _=>none
   | _,_=>none
  | none=>none
 | .makeSlice T l c=>match poolT ty T,intOf? (ρ l),intOf? (ρ c) with
  | some (t,E),some n,some m=>match E.zero with
   | [.slice none 0 0]=>some { g:=decide (n=m)&&decide (0≤n)&&decide (n.toNat*(E.by_+1)≤room),v:=.one (.slice fresh 0 none),upd:=[(fresh,.pool 0 t (List.range n.toNat) (List.replicate n.toNat []))],rd:=[] }
   | _=>none
  | _,_,_=>none
 | .indexAddr T x i=>match ρ x,intOf? (ρ i) with
  | .one l,some n=>Z317 ty get T l n
  | _,_=>none
 | .load T a=>match ρ a with
  | .one l=>Z485 ty get T l
  | _=>none
 | .store T a x=>match ρ a with
  | .one l=>Z381 ty get T l (ρ x)
  | _=>none
 | .fieldAddr S x f=>match ty S,ρ x with
  | some I,.one (.iref b p i base 0 0)=>match I.ds with
   | .struct fs=>match nth fs f with
    | some (off,t)=>match sizeT ty t with
     | some (_+1)=>bif isPool (get b) then eff (.one (.iref b p i (base+off) 0 0)) [b] else none
     | _=>none
    | none=>none
   | _=>none
  | _,_=>none
 | .nilCheck x=>match ρ x with
  | .one (.iref b p i base len d)=>bif isPool (get b) then eff (.one (.iref b p i base len d)) [b] else none
  | _=>none
 | .call c=>match c.callee with
  | .builtin .len=>match c.args.toList,c.argTypes.toList with
   | [x],[T]=>match ρ x with
    | .one l=>Z649 ty get T l
    | _=>none
   | _,_=>none
  | .builtin .append=>match c.args.toList,c.argTypes.toList with
   | [x,y],[T,T']=>bif Nat.beq T T' then (match poolT ty T with
    | some (t,E)=>match ρ x,ρ y with
     | .one d,.one s=>Z174 get fresh t E d s
     | _,_=>none
    | none=>none) else none
   | _,_=>none
  | _=>none
 | _=>none
end
end Go.Abs
