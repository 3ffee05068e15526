import Derived.Test.YtbapchkhohnncaaGreatDoorTrod
import Derived.WideShapes
import Derived.ChangeShapes
import Derived.Below
set_option linter.unusedSimpArgs false
set_option linter.unusedSectionVars false
set_option linter.unusedVariables false
namespace Go.Abs
open Go.WideShapes
open Go.RowKit
section
variable {I J:Rg} {β:Bt} {σ:Sg} {w:World}
theorem Z229 {t:Tc} {x:t.den} {vs:List Value} (h:RD I w t x vs):RLs I J β σ w (fl true t x) vs:=.of_rdb h.ofI
variable {H:Type} {enc:TypeId×Value→H} {P:Program} {base b0:Nat} {spare:Nat→Bool} {held:Bool}
theorem arg_rv {n:Nat} {t:TypeId} {tc:Tc} {dsc:TypeDesc} {v:Value} {d:DataW H} {ps:List MemPlace} (htc:tcOf P (n+1) t=some tc) (hd:P.underlying t=some dsc)
  (hval:Value.okWide P w .any b0 t v) (h:DataW.Trod enc P w base spare held t v d ps):∃ x:tc.den,RV (allRg w) J β σ w (mkv (isAggD dsc) (fl true tc x)) v∧WfD tc x:=by
 obtain ⟨fuel,hf⟩:=h
 obtain ⟨x,hx,hw⟩:=Z725 htc hf
 refine ⟨x,?_,hw⟩
 have hls:RLs (allRg w) J β σ w (fl true tc x) v.cells.toList:=Z229 hx
 have hone:∀ u:Value,v=u→u.cells.toList=[u]→RV (allRg w) J β σ w (mkv false (fl true tc x)) v:=by
  rintro u rfl hu
  rw [hu] at hls
  exact Z698 hls
 unfold tcOf at htc
 rw [hd] at htc
 cases dsc with
 | int k=>obtain ⟨m,rfl⟩:=okWide_int hd hval; exact hone _ rfl rfl
 | bool=>obtain ⟨m,rfl⟩:=okWide_bool hd hval; exact hone _ rfl rfl
 | string=>obtain ⟨m,rfl⟩:=okWide_string hd hval; exact hone _ rfl rfl
 | slice e=>obtain ⟨a,l,c,rfl⟩:=okWide_slice hd hval; exact hone _ rfl rfl
 | struct fs =>
  simp only [Value.okWide,hd] at hval
  obtain ⟨cs,rfl,_,_⟩:=hval
  exact ⟨cs.toList,by simp,by simpa [Value.cells] using hls⟩
 | array m e =>
  simp only [Value.okWide,hd] at hval
  obtain ⟨cs,rfl,_,_⟩:=hval
  exact ⟨cs.toList,by simp,by simpa [Value.cells] using hls⟩
 | _=>simp at htc
def aggOf (P:Program) (t:TypeId):Option Bool:=match P.underlying t with
 | some d=>some (isAggD d)
 | none=>none
theorem Z569 {n:Nat} {t:TypeId} {tc:Tc} {ag:Bool} {v:Value} {d:DataW H} {ps:List MemPlace} (htc:tcOf P (n+1) t=some tc) (hd:aggOf P t=some ag)
  (hval:Value.okWide P w .any b0 t v) (h:DataW.Trod enc P w base spare held t v d ps):∃ x:tc.den,RV (allRg w) J β σ w (mkv ag (fl true tc x)) v∧WfD tc x:=by
 unfold aggOf at hd
 split at hd
 ·rename_i dsc hdsc
  injection hd with hd
  subst hd
  exact arg_rv htc hdsc hval h
 ·cases hd
theorem Z321 [Laid P] {F:Fun} (hok:FunOk P F) {x:spDen F.sp} {y:bsDen F.bs} {r:rsDen F.rs×mutDen F.bs} (hy:Z578 F.bs y=[]) (hr:F.f x y=some r)
  (henc:(encR F y r).1=.one (.sc (.bool true))) {W:World} (hg:∀ blk,Laid.g P blk→blk < W.heap.size) (hL:Laid.L P W) {vs:List Value} (hv:RVs (allRg W) (allRg W) (fun _=>none) (listF []) W (argsOf F.sp x) vs) :
  Calls P F.id vs.toArray W fun e W'=>e=.returned (.bool true)∧Below W.heap.size W W':=by
 obtain ⟨_,hcall⟩:=hok
 have hG:Good (allRg W) (allRg W) (fun _=>none) (ex (listF (Z578 F.bs y))) W:=by
  rw [hy,ex_nil]
  refine ⟨fun b x h=>by simp [listF] at h,fun b b' blk o o' h=>?_,fun b blk o i h=>?_,fun blk i h=>h.elim id id⟩
  ·simp [listF,liveB] at h
  ·simp [listF,liveB] at h
 refine (hcall x y r hr W _ _ _ vs hG (fun blk i h=>hg blk h) hL (by rw [hy,ex_nil]; exact hv)).mono ?_
 rintro e W' ⟨u,rfl,I',β',hI,hu⟩
 rw [henc] at hu
 have hu:u=.bool true:=hu
 refine ⟨by rw [hu],hI.same.os,hI.same.tape,hI.same.output,hI.size,fun k hk=>?_⟩
 refine hI.keep k hk ?_
 rintro ⟨b,o,h1,h2⟩
 have h2:(none:Option (Nat×Nat))=some (k,o):=h2
 cases h2
end
end Go.Abs
