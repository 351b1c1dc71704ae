/- Arrays of integers. No project text. -/
import Derived.Test.YtdkfdmalbbfbmaaB7
import Derived.Laws.CopyRow
import Derived.Laws.MakeOwn
namespace Go.Proofs.Ytdkfdmalbbfbmaa
open Go

/-- The cells of an array of integers; its value. -/
def cA (k : IntKind) (xs : List Int) : Array Value := (xs.map (Value.int k)).toArray
def eA (k : IntKind) (xs : List Int) : Value := .agg (cA k xs)
@[simp] theorem cA_size (k : IntKind) (xs : List Int) : (cA k xs).size = xs.length := by simp [cA]
theorem cA_toList (k : IntKind) (xs : List Int) : (cA k xs).toList = xs.map (Value.int k) := rfl
theorem cA_get {k : IntKind} {xs : List Int} {j : Nat} {z : Int} (h : xs[j]? = some z) : (cA k xs)[j]? = some (.int k z) := by simp [cA, h]
theorem gt_get {xs : List Int} {i z : Int} (h : gt xs i = some z) : xs[i.toNat]? = some z := by
  obtain ⟨h0, h1, rfl⟩ := gt_some h
  simp
/-- z at the place i. -/
def st (xs : List Int) (i z : Int) : Option (List Int) := bif decide (0 ≤ i) && decide (i < xs.length) then some (xs.set i.toNat z) else none
theorem st_some {xs ys : List Int} {i z : Int} (h : st xs i z = some ys) : 0 ≤ i ∧ i < xs.length ∧ xs.set i.toNat z = ys := by
  unfold st at h
  cases hc : (decide (0 ≤ i) && decide (i < xs.length)) with
  | false => rw [hc] at h; cases h
  | true =>
    rw [hc] at h
    simp only [Bool.and_eq_true, decide_eq_true_eq] at hc
    exact ⟨hc.1, hc.2, Option.some.inj h⟩
theorem st_len {xs ys : List Int} {i z : Int} (h : st xs i z = some ys) : ys.length = xs.length := by
  obtain ⟨_, _, rfl⟩ := st_some h; simp
/-- ys over xs from l on. -/
def cpy (xs : List Int) (l : Nat) (ys : List Int) : List Int := xs.take l ++ ys.take (xs.length - l) ++ xs.drop (l + min ys.length (xs.length - l))
theorem cpy_len {xs ys : List Int} {l : Nat} (h : l ≤ xs.length) : (cpy xs l ys).length = xs.length := by simp [cpy]; omega

theorem ix_some {i m : Int} (h : gd (decide (0 ≤ i) && decide (i < m)) (some ()) = some ()) : 0 ≤ i ∧ i < m := by
  have := (gd_some h).1
  simp only [Bool.and_eq_true, decide_eq_true_eq] at this
  exact this

section
variable {P : Program} {w : World} {s s' : St} {ρ : Operand → Value} {κ : Tg}
variable {d : Option Nat} {g : Option (Nat × Bool)} {t : Nat} {pos : String} {af : Array Edge} {x y : Operand} {v u : Value} {k k' : IntKind} {T T' e b m : Nat} {xs ys : List Int} {i z : Int}

theorem o_ala (κ : Tg) (k : IntKind) (m : Nat) (hz : ∀ w, (zeroValue T).run P w = .ok v w) (hc : v.cells = cA k (List.replicate m 0)) : Hv P ⟨d, .alloc T, t, pos, af, g⟩ ρ s fun u s' => ∃ b, u = .pointer (some ⟨b, 0, none⟩) ∧ Own κ s' b (cA k (List.replicate m 0)) T ∧ Tr No s s' := by
  rw [← hc]; exact o_al κ hz
theorem o_ixa (hT : P.underlying T = some (.array m e)) (hz : ∀ w, (sizeOf e).run P w = .ok 1 w) (hx : ρ x = .pointer (some ⟨b, 0, none⟩)) (hy : ρ y = .int k' i) (h0 : 0 ≤ i) (h1 : i < m) :
    OpTo P ⟨d, .indexAddr T x y, t, pos, af, g⟩ ρ w (.pointer (some ⟨b, i.toNat, none⟩)) w := by
  refine OpTo_value (by intro c h; cases h) ?_
  simp only [execOp, hx, hy]
  refine run_v _ ?_
  simp only [Instr.indexAt, Instr.sureAddr, asIntOf, Sem.run_bind, Sem.run_pure, Result.andThen, run_underlying hT]
  simp only [h0, h1, and_self, if_true, Sem.run_bind, hz, Result.andThen, Sem.run_pure, Addr.add]
  split
  · rename_i hq; simp [hq]
  · simp
theorem o_sta {ys : List Int} (hz : ∀ w, (sizeOf T).run P w = .ok 1 w) (ho : Own κ s b (cA k xs) T') (hx : ρ x = .pointer (some ⟨b, i.toNat, none⟩)) (hy : ρ y = .int k z) (hs : st xs i z = some ys) :
    Hv P ⟨none, .store T x y, t, pos, af, g⟩ ρ s fun _ s' => Own κ s' b (cA k ys) T' ∧ Tr (· = κ) s s' := by
  obtain ⟨h0, h1, rfl⟩ := st_some hs
  refine o_st (o := i.toNat) (v := .int k z) hz ho hx hy (by simp [Value.cells]; omega) (by intro u hu; simp [Value.cells] at hu; subst hu; rfl) ?_
  have hi : i.toNat < xs.length := by omega
  simp only [cA, List.toList_toArray, Value.cells]
  congr 1
  rw [List.map_set, List.set_eq_take_append_cons_drop, if_pos (by simpa using hi)]
  simp
theorem o_stA (hz : ∀ w, (sizeOf T).run P w = .ok m w) (ho : Own κ s b (cA k xs) T') (hx : ρ x = .pointer (some ⟨b, 0, none⟩)) (hy : ρ y = eA k ys) (hl : xs.length = m) (hl2 : ys.length = m) :
    Hv P ⟨none, .store T x y, t, pos, af, g⟩ ρ s fun _ s' => Own κ s' b (cA k ys) T' ∧ Tr (· = κ) s s' :=
  o_st (o := 0) (v := eA k ys) (fun w => by rw [hz]; simp [eA, Value.cells, hl2]) ho hx hy (by simp [eA, Value.cells, hl, hl2]) (by intro u hu; simp [eA, Value.cells, cA] at hu; obtain ⟨q, _, rfl⟩ := hu; rfl) (by
    simp [eA, Value.cells, cA, hl, hl2])
theorem o_ldA (hT : ∀ w, (isAgg T).run P w = .ok true w) (hz : ∀ w, (sizeOf T).run P w = .ok m w) (hx : ρ x = .pointer (some ⟨b, 0, none⟩)) (hl : xs.length = m) (hc : ∀ j, w.cell? ⟨b, j, none⟩ = (cA k xs)[j]?) :
    OpTo P ⟨d, .load T x, t, pos, af, g⟩ ρ w (eA k xs) w := o_ldc hT (fun w => by rw [hz]; simp [hl]) hx hc
theorem o_bdA (m : Nat) (k : IntKind) (hz : ∀ w, (zeroValue T).run P w = .ok v w) (hT : P.underlying T = some (.array m e)) (hs : ∀ w, (sizeOf e).run P w = .ok 1 w) (hc : v.cells = cA k (List.replicate m 0)) :
    OpTo P ⟨d, .build T #[], t, pos, af, g⟩ ρ w (eA k (List.replicate m 0)) w := by
  have := o_bda (P := P) (w := w) (ρ := ρ) (d := d) (g := g) (t := t) (pos := pos) (af := af) (T := T) (e := e) (parts := #[]) (qs := #[]) (cells := v.cells) hz hT hs (by simp) (by simp [Instr.fill])
  rw [hc] at this; exact this
theorem rv_cellA {L : Vs} {a : Nat} (hp : lk L a = some (.pointer (some ⟨b, 0, none⟩))) (hT : ∀ w, (isAgg T).run P w = .ok true w) (hz : ∀ w, (sizeOf T).run P w = .ok m w) (hl : xs.length = m) (hc : ∀ j, w.cell? ⟨b, j, none⟩ = (cA k xs)[j]?) :
    rv1 P L w (.cell a T) (eA k xs) := rv_cell hp hT (fun w => by rw [hz]; simp [hl]) hc

theorem Encs.ints {xs : List Int} : Encs (kInt k) s xs (xs.map (Value.int k)) := by
  induction xs with
  | nil => rfl
  | cons x xs ih => exact ⟨[_], _, rfl, rfl, ih⟩
theorem Encs.ints_eq {xs : List Int} {cs : List Value} (h : Encs (kInt k) s xs cs) : cs = xs.map (Value.int k) := by
  induction xs generalizing cs with
  | nil => exact h
  | cons x xs ih => obtain ⟨e, r, rfl, h1, h2⟩ := h; have h1 : e = _ := h1; rw [h1, ih h2]; rfl
/-- All of an array that stays, as a slice. -/
theorem o_slS (hP : P.underlying T = some (.pointer T')) (hT : P.underlying T' = some (.array m e)) (hz : ∀ w, (sizeOf e).run P w = .ok 1 w) (hx : ρ x = .pointer (some ⟨b, 0, none⟩)) :
    OpTo P ⟨d, .slice T x none none none, t, pos, af, g⟩ ρ w (.slice (some ⟨b, 0, none⟩) m m) w :=
  OpTo_value (by intro c h; cases h) (by
    simp only [execOp, hx, Option.map_none]
    refine run_v _ ?_
    simp [Instr.sliceAt, Instr.slice, run_underlying hP, run_underlying hT, Instr.sliceBounds, Sem.run_bind, Result.andThen, asAddr, hz, Addr.add])
theorem o_slS' (hT : P.underlying T = some (.array m e)) (hz : ∀ w, (sizeOf e).run P w = .ok 1 w) (hx : ρ x = .pointer (some ⟨b, 0, none⟩)) :
    OpTo P ⟨d, .slice T x none none none, t, pos, af, g⟩ ρ w (.slice (some ⟨b, 0, none⟩) m m) w :=
  OpTo_value (by intro c h; cases h) (by
    simp only [execOp, hx, Option.map_none]
    refine run_v _ ?_
    simp [Instr.sliceAt, Instr.sureAddr, run_underlying hT, Instr.sliceBounds, Sem.run_bind, Result.andThen, hz, Addr.add])
theorem Stay.slA (h : Stay s b (cA k xs)) (hl : xs.length = m) : Sl (kInt k) s (.slice (some ⟨b, 0, none⟩) m m) xs := by
  subst hl
  refine ⟨_, _, rfl, Nat.le_refl _, nofun, .inr ⟨b, 0, xs.map (Value.int k), rfl, h.1, h.2.1, Encs.ints, fun j u hu => ?_⟩⟩
  rw [Nat.zero_add, h.cell]
  simpa [cA] using hu
end
end Go.Proofs.Ytdkfdmalbbfbmaa
