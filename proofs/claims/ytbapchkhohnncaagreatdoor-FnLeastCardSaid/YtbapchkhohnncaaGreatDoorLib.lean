import Derived.Test.YtbapchkhohnncaaGreatDoorPv
import Derived.IntWalk
import Derived.Lib.ItoaNum
import Derived.Lib.ParseIntB
import Derived.Lib.Split
import Derived.Lib.IndexMore
set_option linter.unusedSimpArgs false
set_option linter.unusedSectionVars false
set_option linter.unusedVariables false
namespace Go.Abs
@[irreducible] def N0:Nat:=2 ^ 70
theorem N0_big:2 ^ 66 < N0:=by unfold N0; decide
theorem Z489 {α:Type} {g:α→α} (hg:∀ q,g q=q) (o:Option α):o=o.map g:=by
 cases o with
 | none=>rfl
 | some a=>exact congrArg some (hg a).symm
def eqStr (a b:ByteArray):Bool:=a.toList==b.toList
def eqBA (a b:ByteArray):Bool:=a==b
def ltStr (a b:ByteArray):Bool:=Op.bytesLess a.toList b.toList
def shlInt (k:IntKind) (a b:Int):Int:=k.wrap (a*2 ^ (min b.toNat k.bits))
def shrInt (k:IntKind) (a b:Int):Int:=a.fdiv (2 ^ (min b.toNat k.bits))
def andInt (k:IntKind) (a b:Int):Int:=k.wrap (BitVec.ofInt k.bits a &&& BitVec.ofInt k.bits b).toNat
def orInt (k:IntKind) (a b:Int):Int:=k.wrap (BitVec.ofInt k.bits a ||| BitVec.ofInt k.bits b).toNat
def xorInt (k:IntKind) (a b:Int):Int:=k.wrap (BitVec.ofInt k.bits a ^^^ BitVec.ofInt k.bits b).toNat
end Go.Abs
