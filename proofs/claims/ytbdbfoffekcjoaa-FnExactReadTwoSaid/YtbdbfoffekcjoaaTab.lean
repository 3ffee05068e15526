/- The type table, out of the program itself. -/
import Derived.Test.YtbdbfoffekcjoaaCal5
namespace Go.Abs
set_option linter.unusedSectionVars false
set_option linter.unusedVariables false
set_option linter.unusedSimpArgs false

/-- fields one behind the other: from off on, up to total -/
def tcFs (f : TypeId → Option Tc) (cells : TypeId → Nat) (total : Nat) : Nat → List (Nat × TypeId) → Option Tc
  | off, [] => bif Nat.beq off total then some .unit else none
  | off, [(o, t)] => bif Nat.beq o off && Nat.beq (off + cells t) total then f t else none
  | off, (o, t) :: r => bif Nat.beq o off then (match f t, tcFs f cells total (off + cells t) r with
    | some a, some b => some (.pair a b)
    | _, _ => none) else none

/-- an array's elements as such fields -/
def elems (c : Nat) (e : TypeId) : Nat → Nat → List (Nat × TypeId)
  | _, 0 => []
  | i, n + 1 => (i * c, e) :: elems c e (i + 1) n

def tcOf (P : Program) : Nat → TypeId → Option Tc
  | 0, _ => none
  | n + 1, t => match P.underlying t with
    | some (.int k) => some (.int k)
    | some .bool => some .bool
    | some .string => some .str
    | some (.slice e) => match tcOf P n e with
      | some c => bif Nat.beq c.sz (P.cellsOf e) && Nat.blt 0 c.sz then some (.list c) else none
      | none => none
    | some (.struct fields) => tcFs (tcOf P n) P.cellsOf (P.cellsOf t) 0 (fields.toList.map fun f => (f.offset, f.type))
    | some (.array len e) => tcFs (tcOf P n) P.cellsOf (P.cellsOf t) 0 (elems (P.cellsOf e) e 0 len)
    | _ => none

/-- a description's kind -/
def dsOf : TypeDesc → Ds
  | .int k => .int k
  | .bool => .bool
  | .string => .str
  | .slice e => .slice e
  | .array n e => .arr n e
  | .struct fields => .struct (fields.toList.map fun f => (f.offset, f.type))
  | .pointer e => .ptr e
  | _ => .other

/-- are these the zero value's cells; what is behind them -/
def zeroOk : Tc → List Value → Option (List Value)
  | .int k, .int k' n :: r => if k = k' ∧ n = 0 then some r else none
  | .bool, .bool b :: r => bif b then none else some r
  | .str, .string s :: r => match s with
    | ⟨⟨[]⟩⟩ => some r
    | _ => none
  | .list _, .slice none 0 0 :: r => some r
  | .pair a b, vs => match zeroOk a vs with
    | some r => zeroOk b r
    | none => none
  | .unit, vs => some vs
  | _, _ => none

def isAggD : TypeDesc → Bool
  | .struct _ | .array _ _ => true
  | _ => false

def fldsOk (P : Program) : TypeDesc → Bool
  | .struct fields => fields.toList.all fun f => (P.info? f.type).isSome
  | _ => true

def isNil {α : Type} : List α → Bool
  | [] => true
  | _ => false

def tyOf (P : Program) (t : TypeId) : Option TyI :=
  match P.info? t with
  | none => none
  | some inf => match P.underlying t, tcOf P 12 t, inf.zero with
    | some d, some tc, some z => match zeroOk tc z.cells.toList with
      | some r => bif isNil r && Nat.beq tc.sz inf.size && fldsOk P d then
          some { ag := isAggD d, sz := inf.size, by_ := inf.bytes, zero := z.cells.toList, ds := dsOf d, tc := tc, cmp := false } else none
      | none => none
    | _, _, _ => none

theorem zeroOk_rd : ∀ {tc : Tc} {vs r : List Value}, zeroOk tc vs = some r → ∃ us, vs = us ++ r ∧ ∀ (I : Rg) (w : World), RD I w tc tc.dflt us
  | .int k, vs, r, h => by
    match vs, h with
    | .int k' n :: q, h =>
      simp only [zeroOk] at h
      split at h
      · rename_i e
        obtain ⟨rfl, rfl⟩ := e
        simp only [Option.some.injEq] at h
        subst h
        exact ⟨[.int k 0], rfl, fun _ _ => rfl⟩
      · cases h
  | .bool, vs, r, h => by
    match vs, h with
    | .bool b :: q, h =>
      cases b with
      | true => simp [zeroOk] at h
      | false =>
        simp only [zeroOk, cond_false, Option.some.injEq] at h
        subst h
        exact ⟨[.bool false], rfl, fun _ _ => rfl⟩
  | .str, vs, r, h => by
    match vs, h with
    | .string ⟨⟨[]⟩⟩ :: q, h =>
      simp only [zeroOk, Option.some.injEq] at h
      subst h
      exact ⟨[.string ⟨⟨[]⟩⟩], rfl, fun _ _ => rfl⟩
    | .string ⟨⟨_ :: _⟩⟩ :: q, h => simp [zeroOk] at h
  | .list t, vs, r, h => by
    match vs, h with
    | .slice none 0 0 :: q, h =>
      simp only [zeroOk, Option.some.injEq] at h
      subst h
      exact ⟨[.slice none 0 0], rfl, fun _ _ => ⟨none, 0, rfl, Nat.le_refl _, .inl rfl⟩⟩
  | .pair a b, vs, r, h => by
    simp only [zeroOk] at h
    cases h1 : zeroOk a vs with
    | none => simp [h1] at h
    | some q =>
      simp only [h1] at h
      obtain ⟨u1, rfl, g1⟩ := zeroOk_rd h1
      obtain ⟨u2, rfl, g2⟩ := zeroOk_rd h
      exact ⟨u1 ++ u2, by simp, fun I w => ⟨u1, u2, rfl, g1 I w, g2 I w⟩⟩
  | .unit, vs, r, h => by
    simp only [zeroOk, Option.some.injEq] at h
    subst h
    exact ⟨[], rfl, fun _ _ => rfl⟩

theorem tysOk (P : Program) : TysOk P (tyOf P) := by
  intro t i h
  unfold tyOf at h
  split at h
  · cases h
  · rename_i inf hinf
    split at h
    · rename_i d tc z hd htc hz
      split at h
      · rename_i r hr
        cases hc : isNil r && Nat.beq tc.sz inf.size && fldsOk P d with
        | false => rw [hc, cond_false] at h; cases h
        | true =>
          rw [hc, cond_true] at h
          simp only [Option.some.injEq] at h
          subst h
          simp only [Bool.and_eq_true] at hc
          obtain ⟨⟨c1, c2⟩, c3⟩ := hc
          have hnil : r = [] := by cases r with | nil => rfl | cons => simp [isNil] at c1
          subst hnil
          obtain ⟨us, e, g⟩ := zeroOk_rd hr
          rw [List.append_nil] at e
          refine ⟨⟨inf, z, hinf, rfl, rfl, hz, rfl⟩, ⟨d, hd, ?_, ?_⟩, ?_, ?_, Nat.eq_of_beq_eq_true c2, fun h => by cases h⟩
          · cases d <;> simp [dsOf, DsOk]
          · cases d <;> simp [isAggD]
          · intro fields hf f hm
            rw [hd] at hf
            injection hf with hf
            subst hf
            simp only [fldsOk, List.all_eq_true] at c3
            exact c3 f hm
          · intro I w
            simp only
            rw [e]
            exact g I w
      · cases h
    · cases h

/-- A known function out of what its body comes to. -/
theorem funOk_mk {P : Program} {F : Fun} {C : List Fun} {N : Nat} {kp : Keep} {fn : Func} {c : Code} {n : Nat} {G : spDen F.sp → bsDen F.bs → Option (rsDen F.rs × bsDen F.bs)}
    (hm : P.follows .mixedOrders = true) (hC : ∀ F ∈ C, FunOk P F) (hf : P.funcs[F.id]? = some fn) (hn : (fn.name == "runtime.NumGoroutine") = false) (hb : fn.body = some c) (hN : Nat.ble N fn.ntmps = true)
    (hG : ∀ x y, runBody C (tyOf P) N n kp c fn.results.toList F.rs F.sp F.bs x y = G x y) (hF : ∀ x y, F.f x y = (G x y).map fun q => (q.1, prjM F.bs q.2))
    (hi : ∀ x y q, G x y = some q → insM F.bs y (prjM F.bs q.2) = q.2) : FunOk P F := by
  refine funOk_of_body (kp := kp) hm (tysOk P) (callsOk hC) hf hn hb (Nat.le_of_ble_eq_true hN) ?_
  intro x y r h
  refine ⟨n, ?_⟩
  rw [hF] at h
  cases hg : G x y with
  | none => rw [hg] at h; cases h
  | some q =>
    rw [hg] at h
    simp only [Option.map_some, Option.some.injEq] at h
    subst h
    rw [hG x y, hg]
    simp only [hi x y q hg]

def AllOk (P : Program) : List Fun → Prop
  | [] => True
  | F :: r => FunOk P F ∧ AllOk P r

theorem AllOk.mem {P : Program} : ∀ {C : List Fun}, AllOk P C → ∀ F ∈ C, FunOk P F
  | _ :: _, h, F, hF => by
    rcases List.mem_cons.1 hF with rfl | hF
    · exact h.1
    · exact AllOk.mem h.2 F hF
end Go.Abs
