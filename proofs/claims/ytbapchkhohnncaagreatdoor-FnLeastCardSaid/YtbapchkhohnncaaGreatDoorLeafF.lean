import Derived.Test.YtbapchkhohnncaaGreatDoorCal5
import Derived.Below
import Derived.Sort.Grow
import Derived.Deep.Draws
import GoSem.Claims
import Derived.Lib.LaidTab
set_option linter.unusedSimpArgs false
set_option linter.unusedSectionVars false
set_option linter.unusedVariables false
namespace Go.Abs
open Go.RowKit
theorem Z170 {own:Nat→Prop} {w w':World} (h:Below w.heap.size w w'):WStep own w w':=by
 refine ⟨h.size,fun blk hb _=>h.block blk hb,?_,⟨h.os,h.tape,h.output⟩⟩
 intro blk C E fr hc
 exact ⟨C,by rw [h.block blk (Z222 hc)]; exact hc,rfl⟩
theorem Z269 {own:Nat→Prop} {w:World} (k:Nat) (os:Array Obj):WStep own w (Go.Sort.grow (w.drewN k) os):=by
 have hold:∀ blk,blk < w.heap.size→(Go.Sort.grow (w.drewN k) os).heap[blk]?=w.heap[blk]?:=by
  intro blk hb
  show (w.heap++os)[blk]?=w.heap[blk]?
  rw [Array.getElem?_append_left hb]
 refine ⟨by show w.heap.size≤(w.heap++os).size; simp,fun blk hb _=>hold blk hb,?_,⟨rfl,rfl,rfl⟩⟩
 intro blk C E fr hc
 exact ⟨C,by rw [hold blk (Z222 hc)]; exact hc,rfl⟩
theorem Z171 {own:Nat→Prop} {w:World} (k:Nat):WStep own w (w.drewN k):=WStep.drew own w _
theorem Z570 {I J:Rg} {β:Bt} {σ:Sg} {w:World} {k k':IntKind} {a b:Int} {vs:List Value} (h:RVs I J β σ w [.one (.sc (.int k a)),.one (.sc (.int k' b))] vs):vs=[.int k a,.int k' b]:=by
 obtain ⟨v,r,rfl,h1,v2,r2,rfl,h2,rfl⟩:=h
 rw [show v=.int k a from h1,show v2=.int k' b from h2]
theorem args_s {I J:Rg} {β:Bt} {σ:Sg} {w:World} {a:ByteArray} {vs:List Value} (h:RVs I J β σ w [.one (.sc (.string a))] vs):vs=[.string a]:=by
 obtain ⟨v,r,rfl,h1,rfl⟩:=h
 rw [show v=.string a from h1]
theorem Z571 {I J:Rg} {β:Bt} {σ:Sg} {w:World} {a b:ByteArray} {vs:List Value} (h:RVs I J β σ w [.one (.sc (.string a)),.one (.sc (.string b))] vs):vs=[.string a,.string b]:=by
 obtain ⟨v,r,rfl,h1,v2,r2,rfl,h2,rfl⟩:=h
 rw [show v=.string a from h1,show v2=.string b from h2]
theorem Z323 {P:Program} {id:Nat} {I J:Rg} {β:Bt} {w:World} {vs:List Value} {v:PV} (hG:Good I J β (ex (listF [])) w)
  (hc:Calls P id vs.toArray w fun e w'=>∃ u,e=.returned u∧RV I J β (listF []) w v u∧WStep (fun _=>False) w w') :
  Calls P id vs.toArray w fun en w'=>∃ u,en=.returned u∧∃ I' β',Inv (frOf w I J β []) I' β' (ex (listF [])) w'∧RV I' J β' (ex (listF [])) w' v u:=by
 refine hc.mono ?_
 rintro e w' ⟨u,rfl,hu,hs⟩
 obtain ⟨h1,h2⟩:=(Z460 (I:=I) (J:=J) hG).step hs
 rw [← ex_nil] at hu
 exact ⟨u,rfl,I,β,h1,h2.rv hu⟩
theorem Z482 {P:Program} {id:Nat} {I J:Rg} {β:Bt} {w:World} {vs:List Value} {t:Tc} {xs:List t.den} {cs:List Value} {E:TypeId} (hG:Good I J β (ex (listF [])) w) (hcs:Z560 t.sz (RD I w t) xs cs)
  (hc:Calls P id vs.toArray w fun e w'=>e=.returned (.slice (some ⟨w.heap.size,0,none⟩) xs.length xs.length)∧w'=w.alloc (.cells cs.toArray E)) :
  Calls P id vs.toArray w fun en w'=>∃ u,en=.returned u∧∃ I' β',Inv (frOf w I J β []) I' β' (ex (listF [.row 0 t xs])) w'∧RV I' J β' (ex (listF [.row 0 t xs])) w' (.one (.slice 0 0 none)) u:=by
 refine hc.mono ?_
 rintro e w' ⟨rfl,rfl⟩
 have hI:=Z460 (I:=I) (J:=J) hG
 rw [ex_nil] at hI
 rw [Z450 (l:=[.row 0 t xs]) (fun x hx=>by simp at hx; subst hx; rfl) (by simp)]
 have hset:setF (listF []) 0 (.row 0 t xs)=listF [.row 0 t xs]:=by
  funext c
  cases c with
  | zero=>rfl
  | succ c=>rfl
 have hch:=Z666 hI (b:=0) rfl (C:=cs.toArray) (E:=E) (x':=.row 0 t xs) (WStep.refl _ w) rfl (fun hE=>by
  refine .inr ⟨w.heap.size,0,cs.toArray,E,by simp,heap_alloc_new w _,?_⟩
  intro i x hx
  obtain ⟨vs,h1,h2,h3⟩:=hcs.2 i x hx
  refine ⟨vs,hE.rd h1,fun j v hv=>?_⟩
  rw [Nat.zero_add,List.getElem?_toArray]
  exact h3 j v hv)
 rw [hset] at hch
 refine ⟨_,rfl,I,_,hch.1,_,rfl,Nat.le_refl _,fun _=>⟨some ⟨w.heap.size,0,none⟩,xs.length,rfl,?_⟩⟩
 by_cases hx:xs=[]∧False
 ·exact hx.2.elim
 ·refine .inr ⟨w.heap.size,0,by simp,rfl,Nat.le_refl _,cs.toArray,E,(0,0),heap_alloc_new w _,?_⟩
  rw [Nat.zero_add,List.size_toArray,hcs.1]
  exact Nat.le_refl _
theorem Z185 {I:Rg} {w:World} (xs:List ByteArray):Z560 (Tc.str).sz (RD I w .str) xs (xs.map Value.string):=by
 refine ⟨by simp [Tc.sz],fun i x hx=>⟨[.string x],rfl,rfl,fun j v hv=>?_⟩⟩
 cases j with
 | zero =>
  simp only [List.getElem?_cons_zero,Option.some.injEq] at hv
  subst hv
  simp [Tc.sz,hx]
 | succ j=>simp at hv
theorem Z556 {P:Program} {w w':World} {name:String} {g:Nat} (hg:P.globalNamed name=some g) (h:w'.heap[g]?=w.heap[g]?):w'.var? P name=w.var? P name:=by
 unfold World.var?
 rw [hg,Option.bind_some,Option.bind_some,h]
theorem var_lt {P:Program} {w:World} {name:String} {g:Nat} {cs:Array Value} (hg:P.globalNamed name=some g) (h:w.var? P name=some cs):g < w.heap.size:=by
 unfold World.var? at h
 rw [hg,Option.bind_some] at h
 rcases Nat.lt_or_ge g w.heap.size with h' | h'
 ·exact h'
 ·rw [Array.getElem?_eq_none h'] at h; cases h
theorem Z548 {P:Program} {w w':World} {name:String} {g:Nat} {k:IntKind} {zs:List Int} (hg:P.globalNamed name=some g) (h:w'.heap[g]?=w.heap[g]?) (ht:Go.Lib.TabIs P w name k zs):Go.Lib.TabIs P w' name k zs:=by
 unfold Go.Lib.TabIs at ht ⊢
 rw [Z556 hg h]
 exact ht
theorem Z587 {w:World} {g:Nat} {v:Value} (h:w.cell? ⟨g,0,none⟩=some v):g < w.heap.size:=by
 rcases Nat.lt_or_ge g w.heap.size with h' | h'
 ·exact h'
 ·unfold World.cell? at h
  simp only [Array.getElem?_eq_none h'] at h
  cases h
end Go.Abs
