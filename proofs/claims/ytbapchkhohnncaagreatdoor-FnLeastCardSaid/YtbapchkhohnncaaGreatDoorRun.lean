import Derived.Test.YtbapchkhohnncaaGreatDoorPv
set_option linter.unusedSimpArgs false
set_option linter.unusedSectionVars false
set_option linter.unusedVariables false
namespace Go.Abs
inductive Pt where
 | sl (b:Nat)
 | v (t:Tc)
@[reducible] def ptDen:List Pt→Type
 | []=>Unit
 | .sl _ :: r=>ptDen r
 | .v t :: r=>t.den×ptDen r
inductive Sp where
 | v (ag:Bool) (t:Tc)
 | ref (b:Nat)
 | sl (b:Nat)
 | cl (f:Nat) (caps:List Nat)
 | er (t:Tc)
 | rc (l:List Pt)
 | inn (b:Nat)
@[reducible] def Sp.den:Sp→Type
 | .v _ t=>t.den
 | .er t=>t.den
 | .rc l=>ptDen l
 | .inn _=>Nat
 | _=>Unit
inductive Bs where
 | var (T:Nat) (t:Tc)
 | row (t:Tc)
 | pv (T k:Nat)
 | pool (t:Tc)
 | rc (T:Nat) (l:List Pt)
@[reducible] def Bs.den:Bs→Type
 | .var _ t=>t.den
 | .row t=>List t.den
 | .pv _ _=>Unit
 | .pool t=>List Nat×List (List t.den)
 | .rc _ l=>ptDen l
inductive Np where
 | row (t:Tc)
 | pool (t:Tc)
 | v (t:Tc)
@[reducible] def npDen:List Np→Type
 | []=>Unit
 | .row t :: r=>List t.den×npDen r
 | .pool t :: r=>(List Nat×List (List t.den))×npDen r
 | .v t :: r=>t.den×npDen r
inductive Rp where
 | v (bor:Bool) (t:Tc)
 | new (t:Tc)
 | nvar (T:Nat) (t:Tc)
 | pre (k:Nat)
 | newp (t:Tc)
 | nrc (T:Nat) (l:List Np)
@[reducible] def Rp.den:Rp→Type
 | .v _ t=>t.den
 | .new t=>List t.den
 | .nvar _ t=>t.den
 | .pre _=>Nat
 | .newp t=>List Nat×List (List t.den)
 | .nrc _ l=>npDen l
@[reducible] def spDen:List Sp→Type
 | []=>Unit
 | s :: r=>s.den×spDen r
@[reducible] def bsDen:List (Bs×Bool)→Type
 | []=>Unit
 | s :: r=>s.1.den×bsDen r
@[reducible] def mutDen:List (Bs×Bool)→Type
 | []=>Unit
 | (s,true) :: r=>s.den×mutDen r
 | (_,false) :: r=>mutDen r
@[reducible] def rpDen:List Rp→Type
 | []=>Unit
 | s :: r=>s.den×rpDen r
@[reducible] def rsDen:List (Bool×List Rp)→Type
 | []=>Unit
 | s :: r=>rpDen s.2×rsDen r
structure Fun where
 id:Nat
 sp:List Sp
 bs:List (Bs×Bool)
 rs:List (Bool×List Rp)
 f:spDen sp→bsDen bs→Option (rsDen rs×mutDen bs)
def Z688:(l:List Pt)→ptDen l→List Lf
 | [],_=>[]
 | .sl b :: r,x=>.slice b 0 none :: Z688 r x
 | .v t :: r,x=>fl true t x.1++Z688 r x.2
def argOf:(s:Sp)→s.den→PV
 | .v ag t,x=>mkv ag (fl true t x)
 | .ref b,_=>.one (.ref b 0 0 0 0 0)
 | .sl b,_=>.one (.slice b 0 none)
 | .cl f caps,_=>.one (.clos f caps)
 | .er t,x=>.one (.eref true t [x] 0 0 0 0)
 | .rc l,x=>.agg (Z688 l x)
 | .inn b,p=>.one (.inn b p)
def argsOf:(l:List Sp)→spDen l→List PV
 | [],_=>[]
 | s :: r,x=>argOf s x.1 :: argsOf r x.2
def boxOf:(s:Bs)→s.den→Box
 | .var T t,x=>.var T (fl true t x)
 | .row t,xs=>.row 0 t xs
 | .pv T k,_=>.var T [.ref k 0 0 0 0 0]
 | .pool t,x=>.pool 0 t x.1 x.2
 | .rc T l,x=>.var T (Z688 l x)
def Z578:(l:List (Bs×Bool))→bsDen l→List Box
 | [],_=>[]
 | s :: r,x=>boxOf s.1 x.1 :: Z578 r x.2
def natsEq:List Nat→List Nat→Bool
 | [],[]=>true
 | a :: r,b :: s=>Nat.beq a b&&natsEq r s
 | _,_=>false
def isRef (b:Nat):PV→Bool
 | .one (.ref b' 0 0 0 0 0)=>Nat.beq b b'
 | _=>false
def isSl (b:Nat):PV→Bool
 | .one (.slice b' 0 none)=>Nat.beq b b'
 | _=>false
def isCl (f:Nat) (caps:List Nat):PV→Bool
 | .one (.clos f' caps')=>Nat.beq f f'&&natsEq caps caps'
 | _=>false
def decV (ag:Bool) (t:Tc) (p:PV):Option t.den :=
 match ag,p with
 | true,.agg ls=>match unfl true t ls with | some (x,[])=>some x | _=>none
 | false,.one l=>match unfl true t [l] with | some (x,[])=>some x | _=>none
 | _,_=>none
def oneOf {α:Type}:List α→Option α
 | [x]=>some x
 | _=>none
def decEr (t:Tc):PV→Option t.den
 | .one (.eref true t' xs 0 0 0 0)=>match castL t' t xs with
  | some ys=>oneOf ys
  | none=>none
 | _=>none
def slNo (b:Nat):Lf→Bool
 | .slice b' 0 none=>Nat.beq b b'
 | _=>false
def decPt:(l:List Pt)→List Lf→Option (ptDen l)
 | [],[]=>some ()
 | .sl b :: r,l :: ls=>bif slNo b l then decPt r ls else none
 | .v t :: r,ls=>match unfl true t ls with
  | some (x,ls')=>match decPt r ls' with
   | some y=>some (x,y)
   | none=>none
  | none=>none
 | _,_=>none
def decRc (l:List Pt):PV→Option (ptDen l)
 | .agg ls=>decPt l ls
 | _=>none
def decInn (b:Nat):PV→Option Nat
 | .one (.inn b' p)=>bif Nat.beq b b' then some p else none
 | _=>none
def decArg:(s:Sp)→PV→Option s.den
 | .v ag t,p=>decV ag t p
 | .ref b,p=>bif isRef b p then some () else none
 | .sl b,p=>bif isSl b p then some () else none
 | .cl f caps,p=>bif isCl f caps p then some () else none
 | .er t,p=>decEr t p
 | .rc l,p=>decRc l p
 | .inn b,p=>decInn b p
def Z599:(l:List Sp)→List PV→Option (spDen l)
 | [],[]=>some ()
 | s :: r,p :: q=>match decArg s p with
  | some x=>match Z599 r q with | some y=>some (x,y) | none=>none
  | none=>none
 | _,_=>none
def isPv (T k:Nat):Box→Bool
 | .var T' [.ref b 0 0 0 0 0]=>Nat.beq T T'&&Nat.beq k b
 | _=>false
def decBox:(s:Bs)→Box→Option s.den
 | .var T t,.var T' ls=>if T=T' then (match unfl true t ls with | some (x,[])=>some x | _=>none) else none
 | .row t,.row 0 t' xs=>castL t' t xs
 | .pv T k,z=>bif isPv T k z then some () else none
 | .pool t,.pool 0 t' pos inn=>match castL (.list t') (.list t) inn with
  | some inn'=>some (pos,inn')
  | none=>none
 | .rc T l,.var T' ls=>bif Nat.beq T T' then decPt l ls else none
 | _,_=>none
def Z289:(l:List (Bs×Bool))→List Box→Option (bsDen l)
 | [],[]=>some ()
 | s :: r,p :: q=>match decBox s.1 p with
  | some x=>match Z289 r q with | some y=>some (x,y) | none=>none
  | none=>none
 | _,_=>none
def isVarB:Option (Bs×Bool)→Bool
 | some (.var ..,_)=>true
 | _=>false
def isSlB:Option (Bs×Bool)→Bool
 | some (.row _,_)=>true
 | some (.pool _,_)=>true
 | _=>false
def ptsOk (all:List (Bs×Bool)):List Pt→Bool
 | []=>true
 | .sl k :: r=>isSlB (nth all k)&&ptsOk all r
 | .v _ :: r=>ptsOk all r
def pvsOk (all:List (Bs×Bool)):List (Bs×Bool)→Bool
 | []=>true
 | (.pv _ k,_) :: r=>isVarB (nth all k)&&pvsOk all r
 | (.rc _ l,_) :: r=>ptsOk all l&&pvsOk all r
 | _ :: r=>pvsOk all r
def Z427 (l:List (Bs×Bool)) (zs:List Box):Option (bsDen l):=bif pvsOk l l then Z289 l zs else none
def npL (k:Nat):(l:List Np)→npDen l→List Lf×List Box
 | [],_=>([],[])
 | .row t :: r,x=>let (ls,bs):=npL (k+1) r x.2; (.slice k 0 none :: ls,.row 0 t x.1 :: bs)
 | .pool t :: r,x=>let (ls,bs):=npL (k+1) r x.2; (.slice k 0 none :: ls,.pool 0 t x.1.1 x.1.2 :: bs)
 | .v t :: r,x=>let (ls,bs):=npL k r x.2; (fl true t x.1++ls,bs)
def npNews:List Np→Nat
 | []=>0
 | .v _ :: r=>npNews r
 | _ :: r=>npNews r+1
def resL (m:Nat):(l:List Rp)→rpDen l→List Lf×List Box
 | [],_=>([],[])
 | .v bor t :: r,x=>let (ls,bs):=resL m r x.2; (fl bor t x.1++ls,bs)
 | .new t :: r,x=>let (ls,bs):=resL (m+1) r x.2; (.slice m 0 none :: ls,.row 0 t x.1 :: bs)
 | .nvar T t :: r,x=>let (ls,bs):=resL (m+1) r x.2; (.ref m 0 0 0 0 0 :: ls,.var T (fl true t x.1) :: bs)
 | .pre k :: r,x=>let (ls,bs):=resL m r x.2; (.slice k 0 (some (0,x.1)) :: ls,bs)
 | .newp t :: r,x=>let (ls,bs):=resL (m+1) r x.2; (.slice m 0 none :: ls,.pool 0 t x.1.1 x.1.2 :: bs)
 | .nrc T l :: r,x=>let (cs,ps):=npL (m+1) l x.1; let (ls,bs):=resL (m+1+npNews l) r x.2; (.ref m 0 0 0 0 0 :: ls,.var T cs :: (ps++bs))
def newsOf:List Rp→Nat
 | []=>0
 | .v _ _ :: r=>newsOf r
 | .pre _ :: r=>newsOf r
 | .nrc _ l :: r=>1+npNews l+newsOf r
 | _ :: r=>newsOf r+1
def resAll (m:Nat):(l:List (Bool×List Rp))→rsDen l→List (Bool×List Lf)×List Box
 | [],_=>([],[])
 | (ag,l) :: r,x=>let (ls,bs):=resL m l x.1; let (rest,bs'):=resAll (m+newsOf l) r x.2; ((ag,ls) :: rest,bs++bs')
def tupV:List (Bool×List Lf)→PV
 | [(ag,ls)]=>mkv ag ls
 | l=>.tup l
def mutOf:(l:List (Bs×Bool))→bsDen l→mutDen l→List Box
 | [],_,_=>[]
 | (s,true) :: r,x,y=>boxOf s y.1 :: mutOf r x.2 y.2
 | (s,false) :: r,x,y=>boxOf s x.1 :: mutOf r x.2 y
def encR (F:Fun) (x:bsDen F.bs) (r:rsDen F.rs×mutDen F.bs):PV×List Box :=
 let (ls,bs):=resAll F.bs.length F.rs r.1
 (tupV ls,mutOf F.bs x r.2++bs)
structure Ren where
 f:Nat→Option Nat
 vf:Nat→Nat→Option Nat
def Z657 (ρ:Ren):List Nat→Option (List Nat)
 | []=>some []
 | b :: r=>match ρ.f b,ρ.vf b 0,Z657 ρ r with
  | some b',some 0,some r'=>some (b' :: r')
  | _,_,_=>none
def renL (ρ:Ren):Lf→Lf
 | .slice b ver rng=>match ρ.f b,ρ.vf b ver with
  | some b',some v'=>.slice b' v' rng
  | _,_=>.dead
 | .ref b ver i base len d=>match ρ.f b,ρ.vf b ver with
  | some b',some v'=>.ref b' v' i base len d
  | _,_=>.dead
 | .arr b ver i base n hi=>match ρ.f b,ρ.vf b ver with
  | some b',some v'=>.arr b' v' i base n hi
  | _,_=>.dead
 | .clos f caps=>match Z657 ρ caps with
  | some c=>.clos f c
  | none=>.dead
 | .inn b p=>match ρ.f b with
  | some b'=>.inn b' p
  | none=>.dead
 | .iref b p i base len d=>match ρ.f b with
  | some b'=>.iref b' p i base len d
  | none=>.dead
 | l=>l
def renLs (ρ:Ren):List Lf→List Lf
 | []=>[]
 | l :: r=>renL ρ l :: renLs ρ r
def renT (ρ:Ren):List (Bool×List Lf)→List (Bool×List Lf)
 | []=>[]
 | (ag,ls) :: r=>(ag,renLs ρ ls) :: renT ρ r
def renV (ρ:Ren):PV→PV
 | .one l=>.one (renL ρ l)
 | .agg ls=>.agg (renLs ρ ls)
 | .tup xs=>.tup (renT ρ xs)
def renB (ρ:Ren) (b:Nat):Box→Option Box
 | .var T cells=>some (.var T (renLs ρ cells))
 | .row ver t xs=>match ρ.vf b ver with
  | some v'=>some (.row v' t xs)
  | none=>none
 | .pool ver t pos inn=>match ρ.vf b ver with
  | some v'=>some (.pool v' t pos inn)
  | none=>none
 | .gone=>some .gone
def idx (b:Nat):List Nat→Option Nat
 | []=>none
 | c :: r=>bif Nat.beq b c then some 0 else match idx b r with | some k=>some (k+1) | none=>none
def addId (b:Nat) (ids:List Nat):List Nat:=bif mem b ids then ids else ids++[b]
def addIds:List Nat→List Nat→List Nat
 | [],ids=>ids
 | b :: r,ids=>addIds r (addId b ids)
def refsL:Lf→List Nat
 | .slice b _ _=>[b]
 | .ref b ..=>[b]
 | .arr b ..=>[b]
 | .clos _ caps=>caps
 | .inn b _=>[b]
 | .iref b ..=>[b]
 | _=>[]
def refsLs:List Lf→List Nat
 | []=>[]
 | l :: r=>refsL l++refsLs r
def refsT:List (Bool×List Lf)→List Nat
 | []=>[]
 | (_,ls) :: r=>refsLs ls++refsT r
def refsV:PV→List Nat
 | .one l=>refsL l
 | .agg ls=>refsLs ls
 | .tup xs=>refsT xs
def refsB:Option Box→List Nat
 | some (.var _ cells)=>refsLs cells
 | _=>[]
def reach (get:Nat→Option Box) (ids:List Nat):List Nat:=addIds (ids.flatMap fun b=>refsB (get b)) ids
def Z418 (m:Nat) (ids:List Nat) (get:Nat→Option Box):Ren where
 f:=fun b=>idx b ids
 vf:=fun b v=>bif Nat.blt b m then some v else match get b with
  | some (.row cur _ _)=>bif Nat.beq v cur then some 0 else none
  | some (.pool cur _ _ _)=>bif Nat.beq v cur then some 0 else none
  | some (.var _ _)=>some v
  | _=>none
def Z423 (get:Nat→Option Box):Lf→Option (Σ t:Tc,List t.den)
 | .slice b ver none=>match get b with
  | some (.pool ver' t pos inn)=>bif Nat.beq ver ver' then some ⟨.list t,rowsAt pos inn⟩ else none
  | _=>none
 | .inn b p=>match get b with
  | some (.pool _ t _ inn)=>some ⟨t,inn.getD p []⟩
  | _=>none
 | _=>none
def lendP (get:Nat→Option Box) (l:Lf) (b:Nat):Lf×List Nat:=match Z423 get l with
 | some ⟨t',xs⟩=>(.list true t' xs,[b])
 | none=>(.dead,[])
def Z650 (get:Nat→Option Box) (t:Tc):Lf→Lf×List Nat
 | .list _ t' xs=>(.list true t' xs,[])
 | .slice b ver rng=>match Z596 get (.slice b ver rng) with
  | some ⟨t',xs⟩=>(.list true t' xs,[b])
  | none=>lendP get (.slice b ver rng) b
 | .inn b p=>lendP get (.inn b p) b
 | .sc (.slice none 0 0)=>(.list true t [],[])
 | l=>(l,[])
def lendL (get:Nat→Option Box):(t:Tc)→List Lf→Option (List Lf×List Nat×List Lf)
 | .list t,l :: r=>some ([(Z650 get t l).1],(Z650 get t l).2,r)
 | .pair a b,ls=>match lendL get a ls with
  | some (x,i,r)=>match lendL get b r with
   | some (y,j,r')=>some (x++y,i++j,r')
   | none=>none
  | none=>none
 | .unit,ls=>some ([],[],ls)
 | _,l :: r=>some ([l],[],r)
 | _,[]=>none
def flatV:Bool→PV→Option (List Lf)
 | true,.agg ls=>some ls
 | false,.one l=>some [l]
 | _,_=>none
def Z539 (t:Tc) (base:Nat) (ls:List Lf):Option t.den :=
 match subL base t.sz ls with
 | some l=>match unfl false t l with
  | some (x,[])=>some x
  | _=>none
 | none=>none
def Z651 (get:Nat→Option Box) (t:Tc):PV→Option (PV×List Nat)
 | .one (.eref _ t0 xs ix base 0 0)=>match Z539 t base (fl false t0 (xs.getD ix t0.dflt)) with
  | some x=>some (.one (.eref true t [x] 0 0 0 0),[])
  | none=>none
 | .one (.ref b ver ix base 0 0)=>match get b with
  | some (.var _ cells)=>match Z539 t base cells with
   | some x=>some (.one (.eref true t [x] 0 0 0 0),[b])
   | none=>none
  | some (.row ver' t0 xs)=>bif Nat.beq ver ver' then (match Z539 t base (fl false t0 (xs.getD ix t0.dflt)) with
   | some x=>some (.one (.eref true t [x] 0 0 0 0),[b])
   | none=>none) else none
  | _=>none
 | _=>none
def lendPt (get:Nat→Option Box):List Pt→List Lf→Option (List Lf×List Nat)
 | [],[]=>some ([],[])
 | .sl _ :: r,x :: ls=>match lendPt get r ls with
  | some (ys,l)=>some (x :: ys,l)
  | none=>none
 | .v t :: r,ls=>match lendL get t ls with
  | some (a,lent,ls')=>match lendPt get r ls' with
   | some (ys,l)=>some (a++ys,lent++l)
   | none=>none
  | none=>none
 | _,_=>none
def lendRc (get:Nat→Option Box) (l:List Pt):PV→Option (PV×List Nat)
 | .agg ls=>match lendPt get l ls with
  | some (ys,lent)=>some (.agg ys,lent)
  | none=>none
 | _=>none
def Z513 (get:Nat→Option Box):List Sp→List PV→Option (List PV×List Nat)
 | [],[]=>some ([],[])
 | .v ag t :: r,p :: q=>match flatV ag p with
  | some pl=>match lendL get t pl with
   | some (ls,lent,[])=>match Z513 get r q with
    | some (ps,l)=>some (mkv ag ls :: ps,lent++l)
    | none=>none
   | _=>none
  | none=>none
 | .er t :: r,p :: q=>match Z651 get t p with
  | some (p',lent)=>match Z513 get r q with
   | some (ps,l)=>some (p' :: ps,lent++l)
   | none=>none
  | none=>none
 | .rc t :: r,p :: q=>match lendRc get t p with
  | some (p',lent)=>match Z513 get r q with
   | some (ps,l)=>some (p' :: ps,lent++l)
   | none=>none
  | none=>none
 | _ :: r,p :: q=>match Z513 get r q with
  | some (ps,l)=>some (p :: ps,l)
  | none=>none
 | _,_=>none
def Z219 (get:Nat→Option Box) (ρ:Ren):List Nat→Option (List Box)
 | []=>some []
 | b :: r=>match get b with
  | some x=>match renB ρ b x,Z219 get ρ r with
   | some y,some l=>some (y :: l)
   | _,_=>none
  | none=>none
def borL:Lf→Bool
 | .list bor ..=>bor
 | .eref bor ..=>bor
 | _=>false
def borLs:List Lf→Bool
 | []=>false
 | l :: r=>borL l||borLs r
def borT:List (Bool×List Lf)→Bool
 | []=>false
 | (_,ls) :: r=>borLs ls||borT r
def borV:PV→Bool
 | .one l=>borL l
 | .agg ls=>borLs ls
 | .tup xs=>borT xs
def borB:Box→Bool
 | .var _ cells=>borLs cells
 | _=>false
def Z431:List Nat→List Nat→Bool
 | [],_=>true
 | b :: r,l=>!(mem b l)&&Z431 r l
def backF (ids:List Nat) (fresh:Nat) (k:Nat):Option Nat :=
 bif Nat.blt k ids.length then nth ids k else bif Nat.blt k 1000000 then some (fresh+(k - ids.length)) else none
def baseV (get:Nat→Option Box) (ids:List Nat) (k:Nat):Nat :=
 match nth ids k with
 | some b=>match get b with
  | some (.row cur _ _)=>cur
  | some (.pool cur _ _ _)=>cur
  | _=>0
 | none=>0
def Z576 (get:Nat→Option Box) (ids:List Nat) (fresh:Nat):Ren:={ f:=backF ids fresh,vf:=fun k v=>some (baseV get ids k+v) }
def Z710:List Lf→Bool
 | []=>true
 | .sc _ :: r=>Z710 r
 | _=>false
def plainX:Box→Bool
 | .var _ cells=>Z710 cells
 | .row ..=>true
 | .pool ..=>true
 | .gone=>false
def Z271 (ρ:Ren):List (Bs×Bool)→Nat→List Box→List (Nat×Box)
 | bs,k,x :: r=>match ρ.f k,renB ρ k x with
  | some b,some y=>bif (match bs with | (_,false) :: _=>plainX x | _=>false) then Z271 ρ bs.tail (k+1) r else (b,y) :: Z271 ρ bs.tail (k+1) r
  | _,_=>[]
 | _,_,[]=>[]
def Z479:Option Box→Bool
 | some (.var ..)=>true
 | _=>false
def fitsSp (get:Nat→Option Box):List Sp→List PV→Bool
 | [],[]=>true
 | .cl f _ :: r,.one (.clos f' _) :: q=>Nat.beq f f'&&fitsSp get r q
 | .cl _ _ :: _,_=>false
 | .ref _ :: r,.one (.ref b _ _ base _ _) :: q=>Nat.beq base 0&&Z479 (get b)&&fitsSp get r q
 | .ref _ :: _,_=>false
 | .sl _ :: r,.one (.slice ..) :: q=>fitsSp get r q
 | .sl _ :: _,_=>false
 | .er _ :: r,.one (.eref ..) :: q=>fitsSp get r q
 | .er _ :: r,.one (.ref ..) :: q=>fitsSp get r q
 | .er _ :: _,_=>false
 | .rc _ :: r,.agg _ :: q=>fitsSp get r q
 | .rc _ :: _,_=>false
 | .inn _ :: r,.one (.inn ..) :: q=>fitsSp get r q
 | .inn _ :: _,_=>false
 | _ :: r,_ :: q=>fitsSp get r q
 | _,_=>false
def findF (get:Nat→Option Box) (g:Nat) (args:List PV):List Fun→Option Fun
 | []=>none
 | F :: r=>bif Nat.beq F.id g&&fitsSp get F.sp args then some F else findF get g args r
def width:Nat:=8
def Z463 (get:Nat→Option Box):Nat→Nat→Bool
 | _,0=>true
 | b,n+1=>(get b).isNone&&Z463 get (b+1) n
def span (b:Nat):Nat→List Nat
 | 0=>[]
 | n+1=>b :: span (b+1) n
section
variable {X:Type} (C:List Fun) (ty:Nat→Option TyI)
def Z703 (get:Nat→Option Box) (fresh:Nat) (g:Nat) (args:List PV) (K:Eff→Option X):Option X :=
 match findF get g args C with
 | none=>none
 | some F=>match Z513 get F.sp args with
  | none=>none
  | some (args',lent) =>
   let ids:=reach get (reach get (addIds (args'.flatMap refsV) []))
   let ρ:Ren:=Z418 0 ids get
   match Z219 get ρ ids with
   | none=>none
   | some σ=>match Z599 F.sp (args'.map (renV ρ)),Z427 F.bs σ with
    | some x,some y =>
     bif Z431 lent ids&&natsEq (reach get ids) ids&&Nat.ble (ids.length+width) 1000000 then
      (F.f x y).bind fun r =>
       match encR F y r with
       | (v,σ') =>
        bif Nat.ble σ'.length (ids.length+width)&&Z463 get fresh (σ'.length - ids.length)&&(natsEq lent []||(!(borV v)&&!(σ'.any borB))) then
         K { g:=true,v:=renV (Z576 get ids fresh) v,upd:=Z271 (Z576 get ids fresh) F.bs 0 σ',rd:=ids++lent++span fresh (σ'.length - ids.length) }
        else none
     else none
    | _,_=>none
def frzOne (get:Nat→Option Box) (b:Nat):Option (List (Nat×Box)):=match get b with
 | some (.var T cells)=>match immL get cells with
  | some (cells',c :: g)=>bif mem b (c :: g) then none else some ((b,.var T cells') :: goneU (c :: g))
  | _=>none
 | _=>none
def Z464 (get:Nat→Option Box):List Nat→Option (List (Nat×Box))
 | []=>none
 | b :: r=>match frzOne get b with
  | some u=>some u
  | none=>Z464 get r
def refB:PV→List Nat
 | .one (.ref b _ _ _ _ _)=>[b]
 | _=>[]
def updG (u:List (Nat×Box)) (get:Nat→Option Box):Nat→Option Box:=fun b=>match look b u with | some x=>some x | none=>get b
def isErF (F:Fun):Bool:=F.sp.any fun s=>match s with | .er _=>true | _=>false
def Z611 (C:List Fun):List Fun:=C.filter isErF++C
def Z673:Option Box→Bool
 | some (.pool ..)=>false
 | _=>true
def plainO:Option Box→Bool
 | some (.pool ..)=>false
 | some .gone=>false
 | _=>true
def ltK:List Nat→Bool
 | []=>true
 | b :: r=>Nat.blt b 1000000&&ltK r
def plainU (get:Nat→Option Box) (rd:List Nat):List (Nat×Box)→Bool
 | []=>true
 | (b,x) :: r=>mem b rd&&Z673 (some x)&&plainO (get b)&&plainU get rd r
def Z519 (get:Nat→Option Box) (fresh:Nat) (g:Nat) (args:List PV) (K:Eff→Option X):Option X :=
 match Z464 get (args.flatMap refB) with
 | none=>Z703 C get fresh g args K
 | some u=>bif plainU get (u.map (·.1)) u then (Z703 (Z611 C) (updG u get) fresh g args fun e=>K { g:=e.g,v:=e.v,upd:=e.upd++u,rd:=u.map (·.1)++e.rd }) else none
def Z417 (ρ:Operand→PV) (f:Operand):Option (Nat×List Nat) :=
 match ρ f with
 | .one (.clos g caps)=>some (g,caps)
 | _=>none
def constV:Value→PV
 | .agg cs=>.agg (cs.toList.map .sc)
 | .func (.func f) ⟨[]⟩ ⟨[]⟩=>.one (.clos f [])
 | v=>.one (.sc v)
def St.val (st:St):Operand→PV
 | .tmp t=>st.get t
 | .const v=>constV v
 | .func f=>.one (.clos f [])
 | .global _=>.one .dead
structure Sig where
 rd:List Nat
 wr:List Nat
def okDst (N:Nat):Option Tmp→Bool
 | some t=>Nat.blt t N
 | none=>true
def dstSet (st:St) (d:Option Tmp) (v:PV):St:=match d with | some t=>st.set t v | none=>st
def putEff (st:St) (d:Option Tmp) (e:Eff):St:={ dstSet st d e.v with bx:=Z413 e.upd st.bx }
def letU (op:Op) (u:List (Nat×Box)) (f:List (Nat×Box)→Option X):Option X:=match op,u with
 | .store ..,(b,.row v t xs) :: r=>bif Nat.ble 5 t.sz then letIn xs (fun xs=>f ((b,.row v t xs) :: r)) else f u
 | _,u=>f u
def updIn (rd:List Nat):List (Nat×Box)→Bool
 | []=>true
 | (b,_) :: r=>mem b rd&&updIn rd r
def Z704 (N:Nat) (st:St) (fresh:Nat) (o:Oper) (K:St→Sig→Option X):Option X :=
 bif okDst N o.dst then
 match o.op with
 | .pick c a b=>match st.val c with
  | .one (.sc (.bool t))=>cond t (K (dstSet st o.dst (st.val a)) ⟨[],[]⟩) (K (dstSet st o.dst (st.val b)) ⟨[],[]⟩)
  | _=>none
 | .call { callee:=.value f,args:=args,argTypes:=_ }=>match Z417 st.val f with
  | some (g,caps)=>Z519 C (fun b=>look b st.bx) fresh g (args.toList.map st.val++caps.map fun b=>.one (.ref b 0 0 0 0 0)) fun e=>bif ltK e.rd then K (putEff st o.dst e) ⟨e.rd,e.upd.map (·.1)⟩ else none
  | none=>none
 | op=>match Z536 ty (fun b=>look b st.bx) fresh st.val op with
  | some e=>bif (look fresh st.bx).isNone&&(ltK (fresh :: e.rd)&&updIn (fresh :: e.rd) e.upd) then cond e.g (K (putEff st o.dst e) ⟨fresh :: e.rd,e.upd.map (·.1)⟩) none else none
  | none=>match stepOp ty (fun b=>look b st.bx) fresh st.val op with
  | some e=>bif (look fresh st.bx).isNone&&(ltK (fresh :: e.rd)&&plainU (fun b=>look b st.bx) (fresh :: e.rd) e.upd) then cond e.g (letU op e.upd fun upd=>K (putEff st o.dst { e with upd:=upd }) ⟨fresh :: e.rd,e.upd.map (·.1)⟩) none else none
  | none=>none
 else none
def Z469 (ops:List Oper) (j:Nat):Option Tmp:=match nth ops j with | some o=>o.dst | none=>none
def runOps (N:Nat) (all:List Oper) (nx:Nat):List Oper→Nat→St→List Sig→(St→List Sig→Option X)→Option X
 | [],_,st,tr,K=>K st tr
 | o :: rest,i,st,tr,K=>match o.guard with
  | none=>Z704 C ty N st (nx+width*i) o fun st' s=>runOps N all nx rest (i+1) st' (tr++[s]) K
  | some (j,want)=>match Z469 all j with
   | some t=>match st.get t with
    | .one (.sc (.bool b)) =>
     let yes:=Z704 C ty N (st.set t (.one (.sc (.bool want)))) (nx+width*i) o fun st' s=>runOps N all nx rest (i+1) st' (tr++[s]) K
     let no:=bif okDst N o.dst then runOps N all nx rest (i+1) (dstSet (st.set t (.one (.sc (.bool (!want))))) o.dst (.one (.sc (.tuple ⟨[]⟩)))) (tr++[⟨[],[]⟩]) K else none
     cond b (cond want yes no) (cond want no yes)
    | .one (.sc (.tuple ⟨[]⟩))=>bif okDst N o.dst then runOps N all nx rest (i+1) (dstSet st o.dst (.one (.sc (.tuple ⟨[]⟩)))) (tr++[⟨[],[]⟩]) K else none
    | _=>none
   | none=>none
def Z610 (o:Oper):List Nat:=o.after.toList.filterMap fun e=>bif Region.binds .any e then some e.on else none
def Z415:List Oper→List Nat→List Nat
 | [],acc=>acc
 | o :: r,acc=>Z415 r (acc++[(Z610 o).foldl (fun s e=>s ||| 2 ^ e ||| acc.getD e 0) 0])
def Z609:Nat→List Oper→Bool
 | _,[]=>true
 | i,o :: r=>(Z610 o).all (fun e=>Nat.blt e i)&&Z609 (i+1) r
def apartS (s t:Sig):Bool:=Z431 s.wr t.wr&&Z431 s.wr t.rd&&Z431 s.rd t.wr
def Z686 (all:Array Oper) (oj:Oper) (sj:Sig) (bits:Nat):Nat→List Oper→List Sig→Bool
 | _,[],_=>true
 | _,_,[]=>false
 | i,o :: r,s :: q=>(Nat.testBit bits i||(o.apart all oj&&apartS s sj))&&Z686 all oj sj bits (i+1) r q
def Z681 (all:Array Oper) (ops:List Oper) (sigs:List Sig):List Oper→List Sig→List Nat→Bool
 | [],[],_=>true
 | o :: r,s :: q,b :: bs=>Z686 all o s b 0 (ops.take (ops.length - (r.length+1))) (sigs.take (ops.length - (r.length+1)))&&Z681 all ops sigs r q bs
 | _,_,_=>false
def Z362 (N:Nat) (ops:Array Oper) (draw:Bool) (st:St) (K:St→Option X):Option X :=
 let l:=ops.toList
 runOps C ty N l st.nx l 0 st [] fun st' tr =>
  bif !draw||(Z609 0 l&&Z681 ops l tr l tr (Z415 l [])) then K { st' with nx:=st.nx+width*l.length } else none
def Z656 (st:St):List Nat→List (Nat×PV)
 | []=>[]
 | t :: r=>(t,st.get t) :: Z656 st r
def renEnv (ρ:Ren):List (Nat×PV)→List (Nat×PV)
 | []=>[]
 | (t,v) :: r=>(t,renV ρ v) :: renEnv ρ r
def Z499:Nat→List Box→List (Nat×Box)
 | _,[]=>[]
 | k,x :: r=>(k,x) :: Z499 (k+1) r
def upTo:Nat→List Nat
 | 0=>[]
 | n+1=>upTo n++[n]
def isLive:Option Box→Bool
 | some (.var ..)=>true
 | some (.row ..)=>true
 | some (.pool ..)=>true
 | _=>false
def Z655 (m:Nat) (get:Nat→Option Box):List Nat→List Nat
 | []=>[]
 | b :: r=>bif Nat.blt b m||isLive (get b) then b :: Z655 m get r else Z655 m get r
def canon0 (m:Nat) (S:List Nat) (st:St):Option St :=
 let get:=fun b=>look b st.bx
 let env:=Z656 st S
 let ids:=Z655 m get (reach get (reach get (addIds (env.flatMap fun p=>refsV p.2) (upTo m))))
 let ρ:=Z418 m ids get
 bif ltK ids&&Nat.ble ids.length 1000000 then (match Z219 get ρ ids with
 | some l=>some { env:=renEnv ρ env,bx:=Z499 0 l,nx:=ids.length }
 | none=>none) else none
inductive Mt where
 | env (t k:Nat) (c:Tc)
 | box (b k:Nat) (c:Tc)
 | envp (t k:Nat) (c:Tc)
 | boxp (b k:Nat) (c:Tc)
abbrev Sv:=List Nat×List Mt
def Mt.new:Mt→Box
 | .env _ _ c=>.row 0 c []
 | .box _ _ c=>.row 0 c []
 | .envp _ _ c=>.pool 0 c [] []
 | .boxp _ _ c=>.pool 0 c [] []
def nilAt (nb:Nat):Nat→List Lf→Option (List Lf)
 | 0,.sc (.slice none 0 0) :: r=>some (.slice nb 0 none :: r)
 | k+1,l :: r=>match nilAt nb k r with
  | some r'=>some (l :: r')
  | none=>none
 | _,_=>none
def matEnv (z:Box) (t k:Nat) (st:St):St:=match st.get t with
 | .one l=>match nilAt st.nx k [l] with
  | some [l']=>{ env:=(t,.one l') :: st.env,bx:=(st.nx,z) :: st.bx,nx:=st.nx+1 }
  | _=>st
 | .agg ls=>match nilAt st.nx k ls with
  | some ls'=>{ env:=(t,.agg ls') :: st.env,bx:=(st.nx,z) :: st.bx,nx:=st.nx+1 }
  | _=>st
 | _=>st
def matBox (z:Box) (b k:Nat) (st:St):St:=bif Nat.blt b 1000000 then (match look b st.bx with
 | some (.var T ls)=>match nilAt st.nx k ls with
  | some ls'=>{ st with bx:=(b,.var T ls') :: (st.nx,z) :: st.bx,nx:=st.nx+1 }
  | _=>st
 | _=>st) else st
def matOne (p:Mt) (st:St):St :=
 bif (look st.nx st.bx).isNone&&Nat.blt st.nx 1000000 then
  match p with
  | .env t k _=>matEnv p.new t k st
  | .envp t k _=>matEnv p.new t k st
  | .box b k _=>matBox p.new b k st
  | .boxp b k _=>matBox p.new b k st
 else st
def matAll:List Mt→St→St
 | [],st=>st
 | p :: r,st=>matAll r (matOne p st)
def canon (m:Nat) (S:Sv) (st:St):Option St :=
 match S.2 with
 | []=>canon0 m S.1 st
 | p :: r=>match canon0 m S.1 st with
  | some s=>canon0 m S.1 (matAll (p :: r) s)
  | none=>none
def rid:Code→Nat
 | .region id _ _=>id
 | .seq a _=>rid a
 | .block _ c=>rid c
 | .loop c=>rid c
 | .scope c=>rid c
 | .cond _ c _=>rid c
 | _=>0
def know (st:St) (c:Operand) (b:Bool):St:=match c with | .tmp t=>st.set t (.one (.sc (.bool b))) | _=>st
structure Keep where
 loop:Nat→Sv
 join:Nat→Option Sv
def Z567 (cn:St→Option St) (K:Exit→St→Option X) (g:St→Option X):Exit→St→Option X:=fun e st=>match e with
 | .normal=>match cn st with
  | some s=>g s
  | none=>none
 | e=>K e st
def iter (step:St→(Exit→St→Option X)→Option X) (cn:St→Option St) (K:Exit→St→Option X):Nat→St→Option X
 | 0,_=>none
 | n+1,st=>step st (Z567 cn K (iter step cn K n))
def joined (cn:Option (St→Option St)) (g:St→Option X) (K:Exit→St→Option X):Exit→St→Option X:=fun e st=>match e with
 | .normal=>match cn with
  | some f=>match f st with
   | some s=>g s
   | none=>none
  | none=>g st
 | e=>K e st
def inBlk (id:Nat) (K:Exit→St→Option X):Exit→St→Option X:=fun e st=>match e with
 | .exit id'=>bif Nat.beq id' id then K .normal st else K (.exit id') st
 | e=>K e st
variable (N m fuel:Nat) (kp:Keep)
noncomputable def interp:Code→St→(Exit→St→Option X)→Option X
 | .skip,st,K=>K .normal st
 | .region _ ops draw,st,K=>Z362 C ty N ops draw st (K .normal)
 | .seq a b,st,K=>interp a st (joined ((kp.join (rid b)).map (canon m)) (fun s=>interp b s K) K)
 | .cond c x y,st,K=>match st.val c with
  | .one (.sc (.bool b))=>cond b (interp x (know st c true) K) (interp y (know st c false) K)
  | .one (.ub p)=>cond p (eith (interp x (know st c true) K) (interp y (know st c false) K)) (interp y (know st c false) K)
  | _=>none
 | .block id x,st,K=>interp x st (inBlk id K)
 | .loop x,st,K=>match canon m (kp.loop (rid x)) st with
  | some s=>iter (interp x) (canon m (kp.loop (rid x))) K fuel s
  | none=>none
 | .exit id,st,K=>K (.exit id) st
 | .ret,st,K=>K .ret st
 | _,_,_=>none
def enumL:Nat→List PV→List (Nat×PV)
 | _,[]=>[]
 | i,v :: r=>(i,v) :: enumL (i+1) r
def splitV:PV→Option (Bool×List Lf)
 | .one l=>some (false,[l])
 | .agg ls=>some (true,ls)
 | .tup _=>none
def Z695 (st:St):List ResultVar→Option (List (Bool×List Lf))
 | []=>some []
 | .tmp t :: r=>match splitV (st.get t),Z695 st r with
  | some v,some l=>some (v :: l)
  | _,_=>none
 | .cell a T :: r=>match st.get a with
  | .one l=>match Z535 ty (fun b=>look b st.bx) T l with
   | some e=>bif ltK e.rd then (match splitV e.v,Z695 st r with
    | some v,some l=>some (v :: l)
    | _,_=>none) else none
   | none=>none
  | _=>none
def Z631 (gone:List Nat) (get:Nat→Option Box):Nat→Option Box:=fun b=>bif mem b gone then some .gone else get b
def immR (get:Nat→Option Box):List Rp→List Lf→Option (List Lf×List Nat)
 | [],[]=>some ([],[])
 | .v _ t :: r,ls=>match takeL t.sz ls with
  | some h=>match immL get h with
   | some (h',g)=>match immR (Z631 g get) r (dropL t.sz ls) with
    | some (l,g')=>some (h'++l,g'++g)
    | none=>none
   | none=>none
  | none=>none
 | .new _ :: r,l :: ls=>match immR get r ls with
  | some (l',g)=>some (l :: l',g)
  | none=>none
 | .nvar _ _ :: r,l :: ls=>match immR get r ls with
  | some (l',g)=>some (l :: l',g)
  | none=>none
 | .pre _ :: r,l :: ls=>match immR get r ls with
  | some (l',g)=>some (l :: l',g)
  | none=>none
 | .newp _ :: r,l :: ls=>match immR get r ls with
  | some (l',g)=>some (l :: l',g)
  | none=>none
 | .nrc _ _ :: r,l :: ls=>match immR get r ls with
  | some (l',g)=>some (l :: l',g)
  | none=>none
 | _,_=>none
def wellL:Bool→List Lf→Bool
 | true,_=>true
 | false,[_]=>true
 | _,_=>false
def immAll (get:Nat→Option Box):List (Bool×List Rp)→List (Bool×List Lf)→Option (List (Bool×List Lf)×List Nat)
 | [],[]=>some ([],[])
 | (ag,rp) :: r,(ag',ls) :: q=>bif ag==ag'&&wellL ag ls then (match immR get rp ls with
  | some (l,g)=>match immAll (Z631 g get) r q with
   | some (rest,g')=>some ((ag,l) :: rest,g'++g)
   | none=>none
  | none=>none) else none
 | _,_=>none
def weakL (bor:Bool):Lf→Lf
 | .list b t xs=>.list (b||bor) t xs
 | l=>l
def ownRow (get:Nat→Option Box) (m:Nat) (t:Tc):Lf→Option (List t.den×Option Nat)
 | .sc (.slice none 0 0)=>some ([],none)
 | .slice b ver none=>bif Nat.blt b m then none else match get b with
  | some (.row ver' t' xs)=>bif Nat.beq ver ver' then (match castL t' t xs with | some xs'=>some (xs',some b) | none=>none) else none
  | _=>none
 | .slice b ver (some (0,n))=>bif Nat.blt b m then none else match get b with
  | some (.row ver' t' xs)=>bif Nat.beq ver ver' then (match castL t' t xs with | some xs'=>some (xs'.take n,some b) | none=>none) else none
  | _=>none
 | _=>none
def Z685 (get:Nat→Option Box) (m:Nat) (t:Tc):Lf→Option ((List Nat×List (List t.den))×Option Nat)
 | .sc (.slice none 0 0)=>some (([],[]),none)
 | .slice b ver none=>bif Nat.blt b m then none else match get b with
  | some (.pool ver' t' pos inn)=>bif Nat.beq ver ver' then (match castL (.list t') (.list t) inn with | some inn'=>some ((pos,inn'),some b) | none=>none) else none
  | _=>none
 | _=>none
def ownNp (get:Nat→Option Box) (m:Nat):(l:List Np)→List Lf→Option (npDen l×List (Option Nat))
 | [],[]=>some ((),[])
 | .row t :: r,l :: ls=>match ownRow get m t l with
  | some (x,o)=>match ownNp get m r ls with
   | some (y,own)=>some ((x,y),o :: own)
   | none=>none
  | none=>none
 | .pool t :: r,l :: ls=>match Z685 get m t l with
  | some (x,o)=>match ownNp get m r ls with
   | some (y,own)=>some ((x,y),o :: own)
   | none=>none
  | none=>none
 | .v t :: r,ls=>match takeL t.sz ls with
  | some h=>match unfl true t h with
   | some (x,[])=>match ownNp get m r (dropL t.sz ls) with
    | some (y,own)=>some ((x,y),own)
    | none=>none
   | _=>none
  | none=>none
 | _,_=>none
def ownRec (get:Nat→Option Box) (m:Nat) (T:Nat) (np:List Np):Lf→Option (npDen np×List (Option Nat))
 | .ref b 0 0 0 0 0=>bif Nat.blt b m then none else match get b with
  | some (.var T' cells)=>bif Nat.beq T T' then (match ownNp get m np cells with
   | some (x,own)=>some (x,some b :: own)
   | none=>none) else none
  | _=>none
 | _=>none
def preOf (get:Nat→Option Box) (m k:Nat):Lf→Option Nat
 | .slice b 0 none=>bif Nat.beq b k&&Nat.blt k m then (match get k with | some (.row 0 _ xs)=>some xs.length | _=>none) else none
 | .slice b 0 (some (0,n))=>bif Nat.beq b k&&Nat.blt k m then (match get k with | some (.row 0 _ _)=>some n | _=>none) else none
 | _=>none
def ownVar (get:Nat→Option Box) (m:Nat) (T:Nat) (t:Tc):Lf→Option (t.den×Option Nat)
 | .ref b 0 0 0 0 0=>bif Nat.blt b m then none else match get b with
  | some (.var T' cells)=>bif Nat.beq T T' then (match unfl true t cells with | some (x,[])=>some (x,some b) | _=>none) else none
  | _=>none
 | _=>none
noncomputable def retL (get:Nat→Option Box) (m:Nat):(rp:List Rp)→List Lf→Option (rpDen rp×List (Option Nat))
 | [],[]=>some ((),[])
 | .v bor t :: r,ls=>match takeL t.sz ls with
  | some h=>match unfl bor t h with
   | some (x,[])=>match retL get m r (dropL t.sz ls) with
    | some (y,own)=>some ((x,y),own)
    | none=>none
   | _=>none
  | none=>none
 | .new t :: r,l :: ls=>match ownRow get m t l with
  | some (x,o)=>match retL get m r ls with
   | some (y,own)=>some ((x,y),o :: own)
   | none=>none
  | none=>none
 | .nvar T t :: r,l :: ls=>match ownVar get m T t l with
  | some (x,o)=>match retL get m r ls with
   | some (y,own)=>some ((x,y),o :: own)
   | none=>none
  | none=>none
 | .pre k :: r,l :: ls=>match preOf get m k l with
  | some n=>match retL get m r ls with
   | some (y,own)=>some ((n,y),own)
   | none=>none
  | none=>none
 | .newp t :: r,l :: ls=>match Z685 get m t l with
  | some (x,o)=>match retL get m r ls with
   | some (y,own)=>some ((x,y),o :: own)
   | none=>none
  | none=>none
 | .nrc T np :: r,l :: ls=>match ownRec get m T np l with
  | some (x,o)=>match retL get m r ls with
   | some (y,own)=>some ((x,y),o++own)
   | none=>none
  | none=>none
 | _,_=>none
noncomputable def retAll (get:Nat→Option Box) (m:Nat):(rs:List (Bool×List Rp))→List (Bool×List Lf)→Option (rsDen rs×List (Option Nat))
 | [],[]=>some ((),[])
 | (ag,rp) :: r,(ag',ls) :: q=>bif ag==ag'&&wellL ag' ls then (match retL get m rp ls with
  | some (x,own)=>match retAll get m r q with
   | some (y,own')=>some ((x,y),own++own')
   | none=>none
  | none=>none) else none
 | _,_=>none
def nodup:List (Option Nat)→Bool
 | []=>true
 | none :: r=>nodup r
 | some b :: r=>!(r.any fun o=>match o with | some c=>Nat.beq b c | none=>false)&&nodup r
def ltKo:List (Option Nat)→Bool
 | []=>true
 | none :: r=>ltKo r
 | some b :: r=>Nat.blt b 1000000&&ltKo r
def Z236 (get:Nat→Option Box):Nat→Option (List Box)
 | 0=>some []
 | n+1=>match Z236 get n,get n with
  | some l,some x=>some (l++[x])
  | _,_=>none
noncomputable def finish (rv:List ResultVar) (rs:List (Bool×List Rp)) (bs:List (Bs×Bool)) (st:St):Option (rsDen rs×bsDen bs) :=
 let get:=fun b=>look b st.bx
 match Z695 ty st rv with
 | some vs=>match immAll get rs vs with
  | some (vs',gone)=>match retAll (Z631 gone get) m rs vs',Z236 (Z631 gone get) m with
   | some (x,own),some ps=>match Z427 bs ps with
    | some y=>bif nodup own&&ltKo own&&(ltK gone&&Nat.ble (m+own.length) 1000000) then some (x,y) else none
    | none=>none
   | _,_=>none
  | none=>none
 | none=>none
noncomputable def ending (rv:List ResultVar) (rs:List (Bool×List Rp)) (bs:List (Bs×Bool)):Exit→St→Option (rsDen rs×bsDen bs)
 | .normal,st=>finish ty m rv rs bs st
 | .ret,st=>finish ty m rv rs bs st
 | _,_=>none
def start (args:List PV) (boxes:List Box):St:={ env:=enumL 0 args,bx:=Z499 0 boxes,nx:=boxes.length }
noncomputable def Z702 (c:Code) (rv:List ResultVar) (rs:List (Bool×List Rp)) (sp:List Sp) (bs:List (Bs×Bool)) (x:spDen sp) (y:bsDen bs):Option (rsDen rs×bsDen bs) :=
 interp C ty N bs.length fuel kp c (start (argsOf sp x) (Z578 bs y)) (ending ty bs.length rv rs bs)
end
@[reducible] def insM:(l:List (Bs×Bool))→bsDen l→mutDen l→bsDen l
 | [],_,_=>()
 | (_,true) :: r,x,y=>(y.1,insM r x.2 y.2)
 | (_,false) :: r,x,y=>(x.1,insM r x.2 y)
@[reducible] def prjM:(l:List (Bs×Bool))→bsDen l→mutDen l
 | [],_=>()
 | (_,true) :: r,x=>(x.1,prjM r x.2)
 | (_,false) :: r,x=>prjM r x.2
end Go.Abs
