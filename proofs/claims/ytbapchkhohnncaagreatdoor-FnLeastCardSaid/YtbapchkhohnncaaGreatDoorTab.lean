import Derived.Test.YtbapchkhohnncaaGreatDoorCal5
import Derived.Laws.StructEq
set_option linter.unusedSimpArgs false
set_option linter.unusedSectionVars false
set_option linter.unusedVariables false
namespace Go.Abs
set_option linter.unusedSectionVars false
set_option linter.unusedVariables false
set_option linter.unusedSimpArgs false

def tcFs (f : TypeId → Option Tc) (cells : TypeId → Nat) (total : Nat) : Nat → List (Nat × TypeId) → Option Tc
  | off, [] => bif Nat.beq off total then some .unit else none
  | off, [(o, t)] => bif Nat.beq o off && Nat.beq (off + cells t) total then f t else none
  | off, (o, t) :: r => bif Nat.beq o off then (match f t, tcFs f cells total (off + cells t) r with
    | some a, some b => some (.pair a b)
    | _, _ => none) else none

def elems (c : Nat) (e : TypeId) : Nat → Nat → List (Nat × TypeId)
  | _, 0 => []
  | i, n + 1 => (i * c, e) :: elems c e (i + 1) n

def tcOf (P : Program) : Nat → TypeId → Option Tc
  | 0, _ => none
  | n + 1, t => match P.underlying t with
    | some (.int k) => some (.int k)
    | some .bool => some .bool
    | some .string => some .str
    | some (.slice e) => match tcOf P n e with
      | some c => bif Nat.beq c.sz (P.cellsOf e) && Nat.blt 0 c.sz then some (.list c) else none
      | none => none
    | some (.struct fields) => tcFs (tcOf P n) P.cellsOf (P.cellsOf t) 0 (fields.toList.map fun f => (f.offset, f.type))
    | some (.array len e) => tcFs (tcOf P n) P.cellsOf (P.cellsOf t) 0 (elems (P.cellsOf e) e 0 len)
    | _ => none

def dsOf : TypeDesc → Ds
  | .int k => .int k
  | .bool => .bool
  | .string => .str
  | .slice e => .slice e
  | .array n e => .arr n e
  | .struct fields => .struct (fields.toList.map fun f => (f.offset, f.type))
  | .pointer e => .ptr e
  | _ => .other

def zeroOk : Tc → List Value → Option (List Value)
  | .int k, .int k' n :: r => if k = k' ∧ n = 0 then some r else none
  | .bool, .bool b :: r => bif b then none else some r
  | .str, .string s :: r => match s with
    | ⟨⟨[]⟩⟩ => some r
    | _ => none
  | .list _, .slice none 0 0 :: r => some r
  | .pair a b, vs => match zeroOk a vs with
    | some r => zeroOk b r
    | none => none
  | .unit, vs => some vs
  | .nil, .pointer none :: r => some r
  | _, _ => none

def isAggD : TypeDesc → Bool
  | .struct _ | .array _ _ => true
  | _ => false

def fldsOk (P : Program) : TypeDesc → Bool
  | .struct fields => fields.toList.all fun f => (P.info? f.type).isSome
  | _ => true

def isNil {α : Type} : List α → Bool
  | [] => true
  | _ => false

def cmpT (P : Program) : Nat → TypeId → Bool
  | 0, _ => false
  | n + 1, t => match P.underlying t with
    | some (.int _) => true
    | some .bool => true
    | some .string => true
    | some (.struct fs) => !P.stoodInHeld t && fs.toList.all fun f => f.name != "_" && cmpT P n f.type && (P.info? f.type).isSome && (match tcOf P n f.type with | some tc => Nat.beq tc.sz (P.cellsOf f.type) && Nat.blt 0 tc.sz | none => false)
    | some (.array _ e) => cmpT P n e && (P.info? e).isSome && (match tcOf P n e with | some tc => Nat.beq tc.sz (P.cellsOf e) && Nat.blt 0 tc.sz | none => false)
    | _ => false

def cmpOk (P : Program) (t : TypeId) : Bool := cmpT P 12 t && !P.eqGuardType P.depth t

def tcP (P : Program) (t : TypeId) : Option Tc := match P.underlying t with
  | some (.pointer _) => some .nil
  | _ => tcOf P 12 t

def tyOf (P : Program) (t : TypeId) : Option TyI :=
  match P.info? t with
  | none => none
  | some inf => match P.underlying t, tcP P t, inf.zero with
    | some d, some tc, some z => match zeroOk tc z.cells.toList with
      | some r => bif isNil r && Nat.beq tc.sz inf.size && fldsOk P d then
          some { ag := isAggD d, sz := inf.size, by_ := inf.bytes, zero := z.cells.toList, ds := dsOf d, tc := tc, cmp := isAggD d && cmpOk P t } else none
      | none => none
    | _, _, _ => none

def mkPool (i : TyI) : TyI := match i.tc with
  | .list (.list _) => { i with pool := true }
  | _ => i

def tyP (P : Program) (t : TypeId) : Option TyI := match tyOf P t with
  | some i => some (mkPool i)
  | none => none

theorem Z401 : ∀ {tc : Tc} {vs r : List Value}, zeroOk tc vs = some r → ∃ us, vs = us ++ r ∧ ∀ (I : Rg) (w : World), RD I w tc tc.dflt us
  | .int k, vs, r, h => by
    match vs, h with
    | .int k' n :: q, h =>
      simp only [zeroOk] at h
      split at h
      · rename_i e
        obtain ⟨rfl, rfl⟩ := e
        simp only [Option.some.injEq] at h
        subst h
        exact ⟨[.int k 0], rfl, fun _ _ => rfl⟩
      · cases h
  | .bool, vs, r, h => by
    match vs, h with
    | .bool b :: q, h =>
      cases b with
      | true => simp [zeroOk] at h
      | false =>
        simp only [zeroOk, cond_false, Option.some.injEq] at h
        subst h
        exact ⟨[.bool false], rfl, fun _ _ => rfl⟩
  | .nil, vs, r, h => by
    match vs, h with
    | .pointer none :: q, h =>
      simp only [zeroOk, Option.some.injEq] at h
      subst h
      exact ⟨[.pointer none], rfl, fun _ _ => rfl⟩
  | .str, vs, r, h => by
    match vs, h with
    | .string ⟨⟨[]⟩⟩ :: q, h =>
      simp only [zeroOk, Option.some.injEq] at h
      subst h
      exact ⟨[.string ⟨⟨[]⟩⟩], rfl, fun _ _ => rfl⟩
    | .string ⟨⟨_ :: _⟩⟩ :: q, h => simp [zeroOk] at h
  | .list t, vs, r, h => by
    match vs, h with
    | .slice none 0 0 :: q, h =>
      simp only [zeroOk, Option.some.injEq] at h
      subst h
      exact ⟨[.slice none 0 0], rfl, fun _ _ => ⟨none, 0, rfl, Nat.le_refl _, .inl rfl⟩⟩
  | .pair a b, vs, r, h => by
    simp only [zeroOk] at h
    cases h1 : zeroOk a vs with
    | none => simp [h1] at h
    | some q =>
      simp only [h1] at h
      obtain ⟨u1, rfl, g1⟩ := Z401 h1
      obtain ⟨u2, rfl, g2⟩ := Z401 h
      exact ⟨u1 ++ u2, by simp, fun I w => ⟨u1, u2, rfl, g1 I w, g2 I w⟩⟩
  | .unit, vs, r, h => by
    simp only [zeroOk, Option.some.injEq] at h
    subst h
    exact ⟨[], rfl, fun _ _ => rfl⟩


theorem Z270 {tc : Tc} {zs : List Value} (h : zeroOk tc zs = some []) : zs.length = tc.sz := by
  obtain ⟨us, e, g⟩ := Z401 h
  rw [List.append_nil] at e
  subst e
  exact (g (fun _ _ => True) default).len

theorem Z400 : ∀ {tc : Tc} {vs r : List Value}, zeroOk tc vs = some r → ∃ us, vs = us ++ r ∧ ∀ q, zeroOk tc (us ++ q) = some q
  | .int k, vs, r, h => by
    match vs, h with
    | .int k' n :: q, h =>
      simp only [zeroOk] at h
      split at h
      · rename_i e
        simp only [Option.some.injEq] at h
        subst h
        exact ⟨[.int k' n], rfl, fun q => by simp [zeroOk, e]⟩
      · cases h
  | .bool, vs, r, h => by
    match vs, h with
    | .bool b :: q, h =>
      cases b with
      | true => simp [zeroOk] at h
      | false =>
        simp only [zeroOk, cond_false, Option.some.injEq] at h
        subst h
        exact ⟨[.bool false], rfl, fun q => rfl⟩
  | .nil, vs, r, h => by
    match vs, h with
    | .pointer none :: q, h =>
      simp only [zeroOk, Option.some.injEq] at h
      subst h
      exact ⟨[.pointer none], rfl, fun q => rfl⟩
  | .str, vs, r, h => by
    match vs, h with
    | .string ⟨⟨[]⟩⟩ :: q, h =>
      simp only [zeroOk, Option.some.injEq] at h
      subst h
      exact ⟨[.string ⟨⟨[]⟩⟩], rfl, fun q => rfl⟩
    | .string ⟨⟨_ :: _⟩⟩ :: q, h => simp [zeroOk] at h
  | .list t, vs, r, h => by
    match vs, h with
    | .slice none 0 0 :: q, h =>
      simp only [zeroOk, Option.some.injEq] at h
      subst h
      exact ⟨[.slice none 0 0], rfl, fun q => rfl⟩
  | .pair a b, vs, r, h => by
    simp only [zeroOk] at h
    cases h1 : zeroOk a vs with
    | none => simp [h1] at h
    | some q =>
      simp only [h1] at h
      obtain ⟨u1, rfl, g1⟩ := Z400 h1
      obtain ⟨u2, rfl, g2⟩ := Z400 h
      exact ⟨u1 ++ u2, by simp, fun q => by simp [zeroOk, g1, g2]⟩
  | .unit, vs, r, h => by
    simp only [zeroOk, Option.some.injEq] at h
    subst h
    exact ⟨[], rfl, fun q => rfl⟩

theorem Z105 {a b : Tc} {zs : List Value} (h : zeroOk (.pair a b) zs = some []) : ∃ za zb, zs = za ++ zb ∧ zeroOk a za = some [] ∧ zeroOk b zb = some [] := by
  simp only [zeroOk] at h
  cases h1 : zeroOk a zs with
  | none => simp [h1] at h
  | some r =>
    simp only [h1] at h
    obtain ⟨us, rfl, g⟩ := Z400 h1
    exact ⟨us, r, rfl, by simpa using g [], h⟩

theorem Z449 : ∀ {zs us vs : List Value} {e : Bool}, eqVs zs us vs = some e → us.length = zs.length ∧ vs.length = zs.length
  | [], us, vs, e, h => by
    cases us <;> cases vs <;> simp_all [eqVs]
  | z :: zs, us, vs, e, h => by
    cases us with
    | nil => cases z <;> simp [eqVs] at h
    | cons u us =>
      cases vs with
      | nil => cases z <;> cases u <;> simp [eqVs] at h
      | cons v vs =>
        have : ∃ e', eqVs zs us vs = some e' := by
          cases z <;> cases u <;> cases v <;> simp only [eqVs] at h <;> first
            | cases h
            | (split at h
               · split at h
                 · exact ⟨_, ‹_›⟩
                 · cases h
               · cases h)
            | (split at h
               · exact ⟨_, ‹_›⟩
               · cases h)
        obtain ⟨e', he⟩ := this
        have := Z449 he
        simp [this.1, this.2]

theorem Z300 {z u v : Value} {zs us vs : List Value} {e : Bool} (h : eqVs (z :: zs) (u :: us) (v :: vs) = some e) :
    ∃ e1 e2, eqVs [z] [u] [v] = some e1 ∧ eqVs zs us vs = some e2 ∧ e = (e1 && e2) := by
  cases z <;> cases u <;> cases v <;> simp only [eqVs] at h <;> first
    | cases h
    | (split at h
       · rename_i hk
         split at h
         · rename_i e' he
           simp only [Option.some.injEq] at h
           subst hk
           exact ⟨_, e', by simp [eqVs], he, h.symm⟩
         · cases h
       · cases h)
    | (split at h
       · rename_i e' he
         simp only [Option.some.injEq] at h
         exact ⟨_, e', by simp [eqVs], he, h.symm⟩
       · cases h)

theorem Z301 {z u v : Value} {zs us vs : List Value} {e1 e2 : Bool} (h1 : eqVs [z] [u] [v] = some e1) (h2 : eqVs zs us vs = some e2) :
    eqVs (z :: zs) (u :: us) (v :: vs) = some (e1 && e2) := by
  cases z <;> cases u <;> cases v <;> simp only [eqVs] at h1 <;> first
    | (split at h1
       · rename_i hk
         subst hk
         simp only [Option.some.injEq] at h1
         subst h1
         simp only [eqVs, h2, if_true, Bool.and_true]
       · cases h1)
    | (simp only [Option.some.injEq] at h1
       subst h1
       simp only [eqVs, h2, Bool.and_true])
    | cases h1

theorem Z195 : ∀ {za zb us vs : List Value} {e : Bool}, eqVs (za ++ zb) us vs = some e → ∃ ua ub va vb ea eb, us = ua ++ ub ∧ vs = va ++ vb ∧ eqVs za ua va = some ea ∧ eqVs zb ub vb = some eb ∧ e = (ea && eb)
  | [], zb, us, vs, e, h => ⟨[], us, [], vs, true, e, rfl, rfl, rfl, h, by simp⟩
  | z :: za, zb, us, vs, e, h => by
    have hl := Z449 h
    match us, vs, hl, h with
    | [], _, hl, _ => simp at hl
    | _ :: _, [], hl, _ => simp at hl
    | u :: us, v :: vs, _, h =>
      obtain ⟨e1, e2, h1, h2, rfl⟩ := Z300 h
      obtain ⟨ua, ub, va, vb, ea, eb, rfl, rfl, h3, h4, rfl⟩ := Z195 h2
      exact ⟨u :: ua, ub, v :: va, vb, e1 && ea, eb, rfl, rfl, Z301 h1 h3, h4, by rw [Bool.and_assoc]⟩

def valOf (P : Program) (t : TypeId) (us : List Value) : Value := match P.underlying t with
  | some (.struct _) => .agg us.toArray
  | some (.array _ _) => .agg us.toArray
  | _ => us.headD .nilFunc

theorem Z363 {P : Program} {w : World} {t : TypeId} {pre ua post : List Value} (hi : (P.info? t).isSome = true) (hd : (P.underlying t).isSome = true) (hl : ua.length = P.cellsOf t) (hs : ua ≠ []) :
    (part t (pre ++ ua ++ post).toArray pre.length).run P w = .ok (valOf P t ua) w := by
  obtain ⟨inf, hinf⟩ := Option.isSome_iff_exists.1 hi
  obtain ⟨d, hdd⟩ := Option.isSome_iff_exists.1 hd
  have hsz : (sizeOf t).run P w = .ok ua.length w := by
    simp [sizeOf, run_typeInfo _ hinf, hl, Program.cellsOf, hinf]
  have hx : ((pre ++ ua ++ post).toArray.extract pre.length (pre.length + ua.length)) = ua.toArray := by
    simp [List.extract_toArray, List.extract_eq_take_drop]
  cases ua with
  | nil => exact absurd rfl hs
  | cons u ua =>
    have hg : ((pre ++ (u :: ua) ++ post).toArray)[pre.length]? = some u := by simp
    unfold valOf
    rw [hdd]
    cases d <;> simp only [part, isAgg, Sem.run_bind, run_underlying hdd, Result.andThen_ok, Sem.run_pure, Bool.false_eq_true, if_false, if_true, hsz, hx, hg, List.headD_cons]

theorem Z4 {P : Program} {w : World} {d : Nat} {t e : TypeId} {len c : Nat} {xs ys : Array Value} (ht : P.underlying t = some (.array len e)) (hs : ∀ w, (sizeOf e).run P w = .ok c w)
    {Q : Nat → Bool} (h : ∀ i, i < len → ∃ a b, (∀ w, (part e xs (i * c)).run P w = .ok a w) ∧ (∀ w, (part e ys (i * c)).run P w = .ok b w) ∧ (∀ w, (Op.equalIn d e a b).run P w = .ok (Q i) w)) :
    (Op.equalIn (d + 1) t (.agg xs) (.agg ys)).run P w = .ok ((List.range len).all Q) w := by
  simp only [Op.equalIn, Sem.run_bind, run_underlying ht, Result.andThen_ok, hs]
  simp only [Std.Legacy.Range.forIn_eq_forIn_range', Std.Legacy.Range.size, Nat.sub_zero, Nat.add_one_sub_one, Nat.div_one, List.range_eq_range']
  have key : ∀ (l : List Nat) (w : World), (∀ i ∈ l, i < len) → (forIn l ((none, ()) : Option Bool × Unit) fun i __s => do
        let a ← part e xs (i * c)
        let b ← part e ys (i * c)
        let r ← Op.equalIn d e a b
        if (!r) = true then pure (ForInStep.done (some false, ())) else pure (ForInStep.yield (none, ())) : Sem (Option Bool × Unit)).run P w = .ok (bif l.all Q then (none, ()) else (some false, ())) w := by
    intro l
    induction l with
    | nil => intro w _; rfl
    | cons i l ih =>
      intro w hl
      obtain ⟨a, b, h1, h2, h3⟩ := h i (hl i (by simp))
      simp only [List.forIn_cons, Sem.run_bind, h1, h2, h3, Result.andThen_ok, List.all_cons, Sem.run_ite]
      cases hq : Q i with
      | false => simp
      | true =>
        simp only [Bool.not_true, Bool.false_eq_true, if_false, Sem.run_pure, Result.andThen_ok, Bool.true_and]
        exact ih w fun j hj => hl j (by simp [hj])
  rw [key _ w (by simp [List.mem_range'_1])]
  cases (List.range' 0 len).all Q <;> rfl

def CmpIH (P : Program) (n : Nat) : Prop := ∀ (t : TypeId) (tc : Tc) (zs us vs : List Value) (e : Bool), tcOf P n t = some tc → cmpT P n t = true → zeroOk tc zs = some [] → eqVs zs us vs = some e →
    ∀ (d : Nat) (w : World), (Op.equalIn (n + d) t (valOf P t us) (valOf P t vs)).run P w = .ok e w

theorem Z390 {P : Program} {n : Nat} {t : TypeId} {tc : Tc} (h : tcOf P n t = some tc) : (P.underlying t).isSome = true := by
  cases n with
  | zero => simp [tcOf] at h
  | succ n =>
    cases hd : P.underlying t with
    | none => simp [tcOf, hd] at h
    | some d => rfl

def fieldC (P : Program) (n : Nat) (t : TypeId) : Bool := cmpT P n t && (P.info? t).isSome && (match tcOf P n t with | some tc => Nat.beq tc.sz (P.cellsOf t) && Nat.blt 0 tc.sz | none => false)

theorem Z237 {P : Program} {n : Nat} (ih : CmpIH P n) {t : TypeId} {tc : Tc} {za ua va pu su pv sv : List Value} {e : Bool} (hc : fieldC P n t = true) (ht : tcOf P n t = some tc) (hz : zeroOk tc za = some []) (he : eqVs za ua va = some e) (w : World) (d : Nat) (hp : pu.length = pv.length) :
    (part t (pu ++ ua ++ su).toArray pu.length).run P w = .ok (valOf P t ua) w ∧ (part t (pv ++ va ++ sv).toArray pu.length).run P w = .ok (valOf P t va) w ∧ (Op.equalIn (n + d) t (valOf P t ua) (valOf P t va)).run P w = .ok e w := by
  simp only [fieldC, ht, Bool.and_eq_true] at hc
  obtain ⟨⟨h1, h2⟩, h3, h4⟩ := hc
  have h3 := Nat.eq_of_beq_eq_true h3
  have h4 : 0 < tc.sz := Nat.le_of_ble_eq_true h4
  have hl := Z449 he
  have hzl := Z270 hz
  have hu : ua ≠ [] := by rintro rfl; simp at hl; omega
  have hv : va ≠ [] := by rintro rfl; simp at hl; omega
  refine ⟨Z363 h2 (Z390 ht) (by omega) hu, ?_, ih _ _ _ _ _ _ ht h1 hz he d w⟩
  rw [hp]
  exact Z363 h2 (Z390 ht) (by omega) hv

theorem Z20 {P : Program} {n : Nat} (ih : CmpIH P n) {total : Nat} (d : Nat) (w : World) : ∀ {fs : List Field} {tc : Tc} {zs us vs pu pv : List Value} {e : Bool}, (fs.all fun f => f.name != "_" && fieldC P n f.type) = true →
    tcFs (tcOf P n) P.cellsOf total pu.length (fs.map fun f => (f.offset, f.type)) = some tc → zeroOk tc zs = some [] → eqVs zs us vs = some e → pv.length = pu.length →
    (Op.eqFields (n + d) (pu ++ us).toArray (pv ++ vs).toArray fs).run P w = .ok e w
  | [], tc, zs, us, vs, pu, pv, e, _, ht, hz, he, hp => by
    simp only [List.map_nil, tcFs] at ht
    cases hb : Nat.beq pu.length total with
    | false => simp [hb] at ht
    | true =>
      simp only [hb, cond_true, Option.some.injEq] at ht
      subst ht
      simp only [zeroOk, Option.some.injEq] at hz
      subst hz
      have hl := Z449 he
      obtain rfl : us = [] := by simpa using hl.1
      obtain rfl : vs = [] := by simpa using hl.2
      simp only [eqVs, Option.some.injEq] at he
      subst he
      rfl
  | [f], tc, zs, us, vs, pu, pv, e, hall, ht, hz, he, hp => by
    simp only [List.map_cons, List.map_nil, tcFs] at ht
    simp only [List.all_cons, List.all_nil, Bool.and_true, Bool.and_eq_true] at hall
    obtain ⟨hn, hc⟩ := hall
    cases hb : Nat.beq f.offset pu.length && Nat.beq (pu.length + P.cellsOf f.type) total with
    | false => rw [hb, cond_false] at ht; cases ht
    | true =>
      rw [hb, cond_true] at ht
      rw [Bool.and_eq_true] at hb
      have ho := Nat.eq_of_beq_eq_true hb.1
      obtain ⟨g1, g2, g3⟩ := Z237 ih hc ht hz he w d (pu := pu) (pv := pv) (su := []) (sv := []) hp.symm
      rw [List.append_nil, ← ho] at g1 g2
      have hn' : f.name ≠ "_" := by simpa using hn
      simp only [Op.eqFields, hn', ne_eq, not_false_eq_true, if_true, Sem.run_bind, g1, g2, g3, Result.andThen_ok, Sem.run_ite]
      cases e <;> rfl
  | f :: q :: r, tc, zs, us, vs, pu, pv, e, hall, ht, hz, he, hp => by
    rw [List.all_cons, Bool.and_eq_true, Bool.and_eq_true] at hall
    obtain ⟨⟨hn, hc⟩, hall⟩ := hall
    simp only [List.map_cons, tcFs] at ht
    cases hb : Nat.beq f.offset pu.length with
    | false => rw [hb, cond_false] at ht; cases ht
    | true =>
      rw [hb, cond_true] at ht
      have ho := Nat.eq_of_beq_eq_true hb
      split at ht
      · rename_i a b ha hr
        simp only [Option.some.injEq] at ht
        subst ht
        obtain ⟨za, zb, rfl, hza, hzb⟩ := Z105 hz
        obtain ⟨ua, ub, va, vb, ea, eb, rfl, rfl, hea, heb, rfl⟩ := Z195 he
        obtain ⟨g1, g2, g3⟩ := Z237 ih hc ha hza hea w d (pu := pu) (pv := pv) (su := ub) (sv := vb) hp.symm
        rw [List.append_assoc, ← ho] at g1 g2
        have hn' : f.name ≠ "_" := by simpa using hn
        have hl := Z449 hea
        have hzl := Z270 hza
        have hsz : ua.length = P.cellsOf f.type := by
          simp only [fieldC, ha, Bool.and_eq_true] at hc
          have := Nat.eq_of_beq_eq_true hc.2.1
          omega
        have htail := Z20 ih (total := total) d w (fs := q :: r) (pu := pu ++ ua) (pv := pv ++ va) hall (by rw [List.length_append, hsz]; exact hr) hzb heb (by simp; omega)
        rw [List.append_assoc, List.append_assoc] at htail
        generalize q :: r = l at htail ⊢
        simp only [Op.eqFields, hn', ne_eq, not_false_eq_true, if_true, Sem.run_bind, g1, g2, g3, Result.andThen_ok, Sem.run_ite]
        cases ea with
        | false => rfl
        | true =>
          simp only [Bool.not_true, Bool.false_eq_true, if_false, Bool.true_and]
          exact htail
      · cases ht

theorem Z125 {P : Program} {n : Nat} {el : TypeId} {tce : Tc} (he : tcOf P n el = some tce) (hs : tce.sz = P.cellsOf el) {total : Nat} : ∀ {k i : Nat} {tc : Tc} {zs us vs : List Value} {e : Bool},
    tcFs (tcOf P n) P.cellsOf total (i * P.cellsOf el) (elems (P.cellsOf el) el i k) = some tc → zeroOk tc zs = some [] → eqVs zs us vs = some e →
    ∃ Q : Nat → Bool, e = (List.range k).all Q ∧ ∀ j, j < k → ∃ za ua va pu pv su sv, zeroOk tce za = some [] ∧ eqVs za ua va = some (Q j) ∧ us = pu ++ ua ++ su ∧ vs = pv ++ va ++ sv ∧ pu.length = j * P.cellsOf el ∧ pv.length = j * P.cellsOf el
  | 0, i, tc, zs, us, vs, e, ht, hz, hv => by
    simp only [elems, tcFs] at ht
    cases hb : Nat.beq (i * P.cellsOf el) total with
    | false => simp [hb] at ht
    | true =>
      simp only [hb, cond_true, Option.some.injEq] at ht
      subst ht
      simp only [zeroOk, Option.some.injEq] at hz
      subst hz
      have hl := Z449 hv
      obtain rfl : us = [] := by simpa using hl.1
      obtain rfl : vs = [] := by simpa using hl.2
      simp only [eqVs, Option.some.injEq] at hv
      exact ⟨fun _ => true, by rw [← hv]; rfl, fun j hj => by omega⟩
  | 1, i, tc, zs, us, vs, e, ht, hz, hv => by
    simp only [elems, tcFs] at ht
    cases hb : Nat.beq (i * P.cellsOf el) (i * P.cellsOf el) && Nat.beq (i * P.cellsOf el + P.cellsOf el) total with
    | false => rw [hb, cond_false] at ht; cases ht
    | true =>
      rw [hb, cond_true, he] at ht
      injection ht with ht
      subst ht
      refine ⟨fun _ => e, by simp [List.range_succ], fun j hj => ?_⟩
      obtain rfl : j = 0 := by omega
      exact ⟨zs, us, vs, [], [], [], [], hz, hv, by simp, by simp, by simp, by simp⟩
  | k + 2, i, tc, zs, us, vs, e, ht, hz, hv => by
    rw [elems] at ht
    rw [show elems (P.cellsOf el) el (i + 1) (k + 1) = ((i + 1) * P.cellsOf el, el) :: elems (P.cellsOf el) el (i + 2) k from rfl] at ht
    simp only [tcFs] at ht
    cases hb : Nat.beq (i * P.cellsOf el) (i * P.cellsOf el) with
    | false => rw [hb, cond_false] at ht; cases ht
    | true =>
      rw [hb, cond_true, he] at ht
      split at ht
      · rename_i a b ha hr
        injection ha with ha
        subst ha
        simp only [Option.some.injEq] at ht
        subst ht
        obtain ⟨za, zb, rfl, hza, hzb⟩ := Z105 hz
        obtain ⟨ua, ub, va, vb, ea, eb, rfl, rfl, hea, heb, rfl⟩ := Z195 hv
        rw [show i * P.cellsOf el + P.cellsOf el = (i + 1) * P.cellsOf el by rw [Nat.add_mul, Nat.one_mul]] at hr
        obtain ⟨Q, hq, hall⟩ := Z125 he hs (k := k + 1) (i := i + 1) hr hzb heb
        have hl := Z449 hea
        have hzl := Z270 hza
        refine ⟨fun j => match j with | 0 => ea | j + 1 => Q j, ?_, ?_⟩
        · rw [List.range_succ_eq_map, List.all_cons, List.all_map, hq]
          rfl
        · intro j hj
          cases j with
          | zero => exact ⟨za, ua, va, [], [], ub, vb, hza, hea, by simp, by simp, by simp, by simp⟩
          | succ j =>
            obtain ⟨z1, u1, v1, pu, pv, su, sv, k1, k2, rfl, rfl, k5, k6⟩ := hall j (by omega)
            exact ⟨z1, u1, v1, ua ++ pu, va ++ pv, su, sv, k1, k2, by simp, by simp, by rw [List.length_append, k5, Nat.add_mul, Nat.one_mul]; omega, by rw [List.length_append, k6, Nat.add_mul, Nat.one_mul]; omega⟩
      · cases ht

theorem Z284 (P : Program) : ∀ (n : Nat), CmpIH P n
  | 0, t, tc, zs, us, vs, e, ht, _, _, _ => by simp [tcOf] at ht
  | n + 1, t, tc, zs, us, vs, e, ht, hc, hz, he => by
    intro d w
    have ih := Z284 P n
    rw [show n + 1 + d = n + d + 1 by omega]
    have hl := Z449 he
    have hzl := Z270 hz
    cases hd : P.underlying t with
    | none => simp [tcOf, hd] at ht
    | some ds =>
      cases ds with
      | int k =>
        simp only [tcOf, hd, Option.some.injEq] at ht
        subst ht
        match zs, us, vs, hl, hzl, hz, he with
        | [z], [u], [v], _, _, hz, he =>
          cases z <;> simp only [zeroOk] at hz <;> first
            | cases hz
            | skip
          cases u <;> cases v <;> simp only [eqVs] at he <;> first
            | cases he
            | skip
          rename_i k1 n1 k2 n2 k3 n3
          split at he
          · rename_i e2
            subst e2
            simp only [Bool.and_true, Option.some.injEq] at he
            subst he
            unfold valOf
            rw [hd]
            exact run_equalIn_int w _ t _ k _ _ hd
          · cases he
      | bool =>
        simp only [tcOf, hd, Option.some.injEq] at ht
        subst ht
        match zs, us, vs, hl, hzl, hz, he with
        | [z], [u], [v], _, _, hz, he =>
          cases z with
          | bool z =>
            cases u with
            | bool a =>
              cases v with
              | bool b =>
                simp only [eqVs, Bool.and_true, Option.some.injEq] at he
                subst he
                unfold valOf
                rw [hd]
                exact run_equalIn_bool' w _ t _ _ hd
              | _ => simp [eqVs] at he
            | _ => simp [eqVs] at he
          | _ => simp [zeroOk] at hz
      | string =>
        simp only [tcOf, hd, Option.some.injEq] at ht
        subst ht
        match zs, us, vs, hl, hzl, hz, he with
        | [z], [u], [v], _, _, hz, he =>
          cases z with
          | string z =>
            cases u with
            | string a =>
              cases v with
              | string b =>
                simp only [eqVs, Bool.and_true, Option.some.injEq] at he
                subst he
                unfold valOf
                rw [hd]
                exact (run_equalIn_string w _ t _ _ hd).trans (by rw [beq_toListBytes])
              | _ => simp [eqVs] at he
            | _ => simp [eqVs] at he
          | _ => simp [zeroOk] at hz
      | struct fs =>
        simp only [tcOf, hd] at ht
        simp only [cmpT, hd, Bool.and_eq_true, Bool.not_eq_true'] at hc
        have hf : P.fieldsOf t = fs := by simp [Program.fieldsOf, hd]
        have := Z20 ih d w (fs := fs.toList) (pu := []) (pv := []) (total := P.cellsOf t) (by
          refine Eq.trans ?_ hc.2
          congr 1
          funext f
          simp only [fieldC, Bool.and_assoc]) (by simpa using ht) hz he rfl
        rw [List.nil_append, List.nil_append] at this
        unfold valOf
        rw [hd]
        rw [run_equalIn_struct w _ t _ _ (by rw [hf]; exact hd) hc.1, hf]
        exact this
      | array len el =>
        simp only [tcOf, hd] at ht
        simp only [cmpT, hd] at hc
        have hc' : fieldC P n el = true := hc
        simp only [Bool.and_eq_true] at hc
        obtain ⟨⟨h1, h2⟩, h3⟩ := hc
        obtain ⟨inf, hinf⟩ := Option.isSome_iff_exists.1 h2
        cases htc : tcOf P n el with
        | none => rw [htc] at h3; cases h3
        | some tce =>
          rw [htc] at h3
          simp only [Bool.and_eq_true] at h3
          obtain ⟨Q, rfl, hall⟩ := Z125 htc (Nat.eq_of_beq_eq_true h3.1) (i := 0) (k := len) (by simpa using ht) hz he
          unfold valOf
          rw [hd]
          refine Z4 hd (c := P.cellsOf el) (fun w => by simp [sizeOf, run_typeInfo _ hinf, Program.cellsOf, hinf]) ?_
          intro i hi
          obtain ⟨za, ua, va, pu, pv, su, sv, k1, k2, rfl, rfl, k5, k6⟩ := hall i hi
          have hp : pu.length = pv.length := by omega
          refine ⟨valOf P el ua, valOf P el va, fun w => ?_, fun w => ?_, fun w => ?_⟩
          · rw [← k5]; exact (Z237 ih hc' htc k1 k2 w d (su := su) (sv := sv) hp).1
          · rw [← k5]; exact (Z237 ih hc' htc k1 k2 w d (su := su) (sv := sv) hp).2.1
          · exact (Z237 ih hc' htc k1 k2 w d (su := su) (sv := sv) hp).2.2
      | slice el => simp [cmpT, hd] at hc
      | _ => simp [tcOf, hd] at ht

theorem tysOk (P : Program) : TysOk P (tyOf P) := by
  intro t i h
  unfold tyOf at h
  split at h
  · cases h
  · rename_i inf hinf
    split at h
    · rename_i d tc z hd htc hz
      split at h
      · rename_i r hr
        cases hc : isNil r && Nat.beq tc.sz inf.size && fldsOk P d with
        | false => rw [hc, cond_false] at h; cases h
        | true =>
          rw [hc, cond_true] at h
          simp only [Option.some.injEq] at h
          subst h
          simp only [Bool.and_eq_true] at hc
          obtain ⟨⟨c1, c2⟩, c3⟩ := hc
          have hnil : r = [] := by cases r with | nil => rfl | cons => simp [isNil] at c1
          subst hnil
          obtain ⟨us, e, g⟩ := Z401 hr
          rw [List.append_nil] at e
          refine ⟨⟨inf, z, hinf, rfl, rfl, hz, rfl⟩, ⟨d, hd, ?_, ?_⟩, ?_, ?_, Nat.eq_of_beq_eq_true c2, ?_⟩
          · cases d <;> simp [dsOf, DsOk]
          · cases d <;> simp [isAggD]
          · intro fields hf f hm
            rw [hd] at hf
            injection hf with hf
            subst hf
            simp only [fldsOk, List.all_eq_true] at c3
            exact c3 f hm
          · intro I w
            simp only
            rw [e]
            exact g I w
          · intro hcmp w us' vs' e' he
            simp only [Bool.and_eq_true, cmpOk, Bool.not_eq_true'] at hcmp
            obtain ⟨hag, hct, hgd⟩ := hcmp
            refine ⟨fun x y => ⟨run_eqGuard_agg w .eql t x y _ _ hgd, run_eqGuard_agg w .neq t x y _ _ hgd⟩, ?_⟩
            have hv : ∀ l : List Value, valOf P t l = .agg l.toArray := by
              intro l
              unfold valOf
              rw [hd]
              cases d <;> simp_all [isAggD]
            have htc' : tcOf P 12 t = some tc := by
              unfold tcP at htc
              rw [hd] at htc
              cases d <;> simp_all [isAggD]
            have := Z284 P 12 _ _ _ _ _ _ htc' hct hr he 9988 w
            rw [hv, hv] at this
            exact this
      · cases h
    · cases h

theorem tysOkP (P : Program) : TysOk P (tyP P) := by
  intro t i h
  unfold tyP at h
  cases hi : tyOf P t with
  | none => rw [hi] at h; cases h
  | some j =>
    rw [hi] at h
    simp only [Option.some.injEq] at h
    subst h
    have := tysOk P t j hi
    unfold mkPool
    split
    · exact ⟨this.info, this.desc, this.flds, this.zero, this.size, this.eql⟩
    · exact this

theorem Z309 {ty : Nat → Option TyI} {P : Program} [Laid P] {F : Fun} {C : List Fun} {N : Nat} {kp : Keep} {fn : Func} {c : Code} {n : Nat} {G : spDen F.sp → bsDen F.bs → Option (rsDen F.rs × bsDen F.bs)}
    (hty : TysOk P ty) (hm : P.follows .mixedOrders = true) (hC : ∀ F ∈ C, FunOk P F) (hf : P.funcs[F.id]? = some fn) (hn : (fn.name == "runtime.NumGoroutine") = false) (hb : fn.body = some c) (hN : Nat.ble N fn.ntmps = true)
    (hG : ∀ x y, Z702 C ty N n kp c fn.results.toList F.rs F.sp F.bs x y = G x y) (hF : ∀ x y, F.f x y = (G x y).map fun q => (q.1, prjM F.bs q.2))
    (hi : ∀ x y q, G x y = some q → insM F.bs y (prjM F.bs q.2) = q.2) : FunOk P F := by
  refine Z44 (kp := kp) hm hty (Z582 hC) hf hn hb (Nat.le_of_ble_eq_true hN) ?_
  intro x y r h
  refine ⟨n, ?_⟩
  rw [hF] at h
  cases hg : G x y with
  | none => rw [hg] at h; cases h
  | some q =>
    rw [hg] at h
    simp only [Option.map_some, Option.some.injEq] at h
    subst h
    rw [hG x y, hg]
    simp only [hi x y q hg]

theorem Z465 {P : Program} [Laid P] {F : Fun} {C : List Fun} {N : Nat} {kp : Keep} {fn : Func} {c : Code} {n : Nat} {G : spDen F.sp → bsDen F.bs → Option (rsDen F.rs × bsDen F.bs)}
    (hm : P.follows .mixedOrders = true) (hC : ∀ F ∈ C, FunOk P F) (hf : P.funcs[F.id]? = some fn) (hn : (fn.name == "runtime.NumGoroutine") = false) (hb : fn.body = some c) (hN : Nat.ble N fn.ntmps = true)
    (hG : ∀ x y, Z702 C (tyOf P) N n kp c fn.results.toList F.rs F.sp F.bs x y = G x y) (hF : ∀ x y, F.f x y = (G x y).map fun q => (q.1, prjM F.bs q.2))
    (hi : ∀ x y q, G x y = some q → insM F.bs y (prjM F.bs q.2) = q.2) : FunOk P F := Z309 (tysOk P) hm hC hf hn hb hN hG hF hi

theorem Z308 {P : Program} [Laid P] {F : Fun} {C : List Fun} {N : Nat} {kp : Keep} {fn : Func} {c : Code} {n : Nat} {G : spDen F.sp → bsDen F.bs → Option (rsDen F.rs × bsDen F.bs)}
    (hm : P.follows .mixedOrders = true) (hC : ∀ F ∈ C, FunOk P F) (hf : P.funcs[F.id]? = some fn) (hn : (fn.name == "runtime.NumGoroutine") = false) (hb : fn.body = some c) (hN : Nat.ble N fn.ntmps = true)
    (hG : ∀ x y, Z702 C (tyP P) N n kp c fn.results.toList F.rs F.sp F.bs x y = G x y) (hF : ∀ x y, F.f x y = (G x y).map fun q => (q.1, prjM F.bs q.2))
    (hi : ∀ x y q, G x y = some q → insM F.bs y (prjM F.bs q.2) = q.2) : FunOk P F := Z309 (tysOkP P) hm hC hf hn hb hN hG hF hi

def AllOk (P : Program) [Laid P] : List Fun → Prop
  | [] => True
  | F :: r => FunOk P F ∧ AllOk P r

theorem AllOk.mem {P : Program} [Laid P] : ∀ {C : List Fun}, AllOk P C → ∀ F ∈ C, FunOk P F
  | _ :: _, h, F, hF => by
    rcases List.mem_cons.1 hF with rfl | hF
    · exact h.1
    · exact AllOk.mem h.2 F hF
end Go.Abs
