/- The temporaries of an activation as a list of places and values; one rule for each plain operation. No project text. -/
import Derived.Test.YtdkfdmalbbfbmaaB0
import Derived.WalkKit
namespace Go.Proofs.Ytdkfdmalbbfbmaa
open Go

abbrev Vs := List (Nat × Value)

/-- What stands last at place t. -/
def lk : Vs → Nat → Option Value
  | [], _ => none
  | (k, v) :: L, t => bif Nat.beq k t then some v else lk L t

/-- n temporaries; at the places of L what L says; the deferred calls are D. -/
structure En (D : List Deferred) (n : Nat) (a : Act) (L : Vs) : Prop where
  size : a.tmps.size = n
  defs : a.defers = D
  get : ∀ k v, lk L k = some v → a.tmps[k]? = some v

/-- An operand's value. -/
def evL (L : Vs) : Operand → Option Value
  | .tmp t => lk L t
  | .const v => some v
  | .global g => some (.pointer (some ⟨g, 0, none⟩))
  | .func f => some (.func (.func f) #[] #[])

variable {D : List Deferred} {n : Nat} {a : Act} {L : Vs} {P : Program} {l : Option Nat} {ops : Array Oper} {os : List Oper} {w : World} {Q : Act → World → Prop}

theorem En.ev (E : En D n a L) {x : Operand} {v : Value} (h : evL L x = some v) : a.eval x = v := by
  cases x with
  | tmp t =>
    have := E.get t v h
    simp [Act.eval, this]
  | const u => simpa [evL, Act.eval] using h
  | global g => simpa [evL, Act.eval] using h
  | func f => simpa [evL, Act.eval] using h

theorem lk_cons {L : Vs} {d : Nat} {v : Value} {k : Nat} : lk ((d, v) :: L) k = if d = k then some v else lk L k := by
  rw [lk]
  by_cases h : d = k
  · subst h; simp [Nat.beq_refl]
  · have : Nat.beq d k = false := by
      cases hb : Nat.beq d k
      · rfl
      · exact absurd (Nat.eq_of_beq_eq_true hb) h
    simp [this, h]

theorem En.put (E : En D n a L) {d : Nat} (hd : Nat.ble (d + 1) n = true) (v : Value) : En D n (a.put (some d) v) ((d, v) :: L) := by
  have hd' : d < n := Nat.le_of_ble_eq_true hd
  refine ⟨by simp [Act.put, E.size], E.defs, fun k u h => ?_⟩
  rw [lk_cons] at h
  by_cases hk : d = k
  · subst hk
    rw [if_pos rfl, Option.some.injEq] at h
    subst h
    simp [Act.put, E.size, hd']
  · rw [if_neg hk] at h
    have := E.get k u h
    simp [Act.put, Array.getElem?_setIfInBounds_ne hk, this]

theorem En.weak (E : En D n a L) {L' : Vs} (h : ∀ k v, lk L' k = some v → lk L k = some v) : En D n a L' := ⟨E.size, E.defs, fun k v hk => E.get k v (h k v hk)⟩

/-- Nothing is told of place d any more. -/
theorem En.drop {d : Nat} {v : Value} (E : En D n a ((d, v) :: L)) (h : ∀ k u, lk L k = some u → k ≠ d) : En D n a L :=
  E.weak fun k u hk => by rw [lk_cons, if_neg (fun e => h k u hk e.symm)]; exact hk

theorem En.start (args : Array Value) (m : Nat) : En [] (args.size + m) { tmps := args ++ Array.replicate m undef, defers := [] } (args.toList.zipIdx.map fun (v, i) => (i, v)) := by
  refine ⟨by simp, rfl, fun k v h => ?_⟩
  have key : ∀ (l : List Value) (j : Nat), lk ((l.zipIdx j).map fun (v, i) => (i, v)) k = some v → ∃ i, k = j + i ∧ l[i]? = some v := by
    intro l
    induction l with
    | nil => intro j h; simp [lk] at h
    | cons x l ih =>
      intro j h
      simp only [List.zipIdx_cons, List.map_cons, lk_cons] at h
      by_cases hj : j = k
      · rw [if_pos hj] at h; exact ⟨0, by omega, by simpa using h⟩
      · rw [if_neg hj] at h
        obtain ⟨i, hi, hl⟩ := ih (j + 1) h
        exact ⟨i + 1, by omega, by simpa using hl⟩
  obtain ⟨i, hi, hv⟩ := key args.toList 0 h
  have hk : k = i := by omega
  subst hk
  have hlt : k < args.size := by
    have := (List.getElem?_eq_some_iff.1 hv).1
    simpa using this
  rw [Array.getElem?_append_left hlt]
  simpa using hv

/-- Is the operation carried out? (By what L says of its guard.) -/
def gdL (ops : Array Oper) (L : Vs) : Option (Nat × Bool) → Option Bool
  | none => some true
  | some (j, want) => match (ops[j]?).bind (·.dst) with
    | some t => match lk L t with
      | some (.bool b) => some (bif b then want else !want)
      | _ => none
    | none => none

theorem En.wanted (E : En D n a L) {o : Oper} {b : Bool} (h : gdL ops L o.guard = some b) : Region.wanted o (yielded ops a.tmps) = b := by
  unfold Region.wanted
  cases hg : o.guard with
  | none => rw [hg] at h; simpa [gdL] using h
  | some jw =>
    obtain ⟨j, want⟩ := jw
    rw [hg] at h
    simp only [gdL] at h
    cases hd : (ops[j]?).bind (·.dst) with
    | none => simp [hd] at h
    | some t =>
      simp only [hd] at h
      cases hl : lk L t with
      | none => simp [hl] at h
      | some v =>
        cases v <;> simp only [hl, reduceCtorEq, Option.some.injEq] at h
        rename_i c
        have := E.get t _ hl
        simp only [yielded, hd, Option.bind_some, this]
        subst h
        cases c <;> cases want <;> rfl

/-- One operation, that leaves v at the place d. -/
theorem sd (E : En D n a L) {o : Oper} {d : Nat} {v : Value} {w1 : World} (ho : OpTo P o a.eval w v w1) (hd : o.dst = some d) (hn : Nat.ble (d + 1) n = true) (hg : gdL ops L o.guard = some true)
    (k : ∀ a', En D n a' ((d, v) :: L) → GL P l ops os a' w1 Q) : GL P l ops (o :: os) a w Q :=
  GL_cons (E.wanted hg) ho (by rw [hd]; exact k _ (E.put hn v))
/-- .. that leaves nothing. -/
theorem sn (E : En D n a L) {o : Oper} {v : Value} {w1 : World} (ho : OpTo P o a.eval w v w1) (hd : o.dst = none) (hg : gdL ops L o.guard = some true)
    (k : GL P l ops os a w1 Q) : GL P l ops (o :: os) a w Q :=
  GL_cons (E.wanted hg) ho (by rw [hd]; exact k)
/-- .. that is passed over. -/
theorem sk (E : En D n a L) {o : Oper} {d : Nat} (hd : o.dst = some d) (hn : Nat.ble (d + 1) n = true) (hg : gdL ops L o.guard = some false)
    (k : ∀ a', En D n a' ((d, undef) :: L) → GL P l ops os a' w Q) : GL P l ops (o :: os) a w Q :=
  GL_pass (E.wanted hg) (by rw [hd]; exact k _ (E.put hn undef))

section
variable {ρ : Operand → Value} {d : Option Nat} {g : Option (Nat × Bool)} {t : Nat} {pos : String} {af : Array Edge} {x y c : Operand} {v u : Value} {k : IntKind}

theorem o_mv (hx : ρ x = v) : OpTo P ⟨d, .move x, t, pos, af, g⟩ ρ w v w := OpTo_value (by intro c h; cases h) (by rw [← hx]; rfl)
theorem o_as (hx : ρ x = v) : OpTo P ⟨d, .assign x, t, pos, af, g⟩ ρ w v w := OpTo_value (by intro c h; cases h) (by rw [← hx]; rfl)

/-- What a binary operation on two integers leaves. -/
def bi (op : BinOp) (k : IntKind) (x y : Int) : Option Value :=
  match op with
  | .add => some (.int k (k.wrap (x + y)))
  | .sub => some (.int k (k.wrap (x - y)))
  | .mul => some (.int k (k.wrap (x * y)))
  | .and => some (.int k (k.wrap (BitVec.ofInt k.bits x &&& BitVec.ofInt k.bits y).toNat))
  | .or => some (.int k (k.wrap (BitVec.ofInt k.bits x ||| BitVec.ofInt k.bits y).toNat))
  | .xor => some (.int k (k.wrap (BitVec.ofInt k.bits x ^^^ BitVec.ofInt k.bits y).toNat))
  | .andNot => some (.int k (k.wrap (BitVec.ofInt k.bits x &&& ~~~BitVec.ofInt k.bits y).toNat))
  | .eql => some (.bool (x == y))
  | .neq => some (.bool (x != y))
  | .lss => some (.bool (x < y))
  | .leq => some (.bool (x ≤ y))
  | .gtr => some (.bool (x > y))
  | .geq => some (.bool (x ≥ y))
  | _ => none

theorem run_bi {op : BinOp} {x y : Int} {ty : TypeId} {ox oy : Operand} (h : bi op k x y = some v) :
    ((do eqGuard op ty ox oy (.int k x) (.int k y); binOp op ty (.int k x) (.int k y) : Sem Value)).run P w = .ok v w := by
  cases op <;> simp only [bi, Option.some.injEq, reduceCtorEq] at h <;> subst h <;> simp [eqGuard, binOp, Op.intArith, Op.intBits, Op.intCmp, Sem.run_bind, go_sem]

theorem o_bi {op : BinOp} {x' y' : Int} {ty ty' : TypeId} (hx : ρ x = .int k x') (hy : ρ y = .int k y') (hv : bi op k x' y' = some v) :
    OpTo P ⟨d, .binOp op ty x y ty', t, pos, af, g⟩ ρ w v w := OpTo_value (by intro c h; cases h) (by simp only [execOp, hx, hy, Sem.run_bind, run_bi hv]; rfl)
end
end Go.Proofs.Ytdkfdmalbbfbmaa
