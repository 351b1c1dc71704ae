/- Arrays of integers. No project text. -/
import Derived.Test.YtdkfdmalbbfbmaaGreatMWL4
import Derived.Laws.CopyRow
import Derived.Laws.MakeOwn
import Derived.Test.YtdkfdmalbbfbmaaGreatRows
import Derived.Maps.OwnSet
import Derived.Lib.SlKeysI
import Derived.Carry
/- Arrays of integers. No project text. -/
namespace Go.Proofs.YtdkfdmalbbfbmaaGreat
open Go

/-- The cells of an array of integers; its value. -/
def cA (k : IntKind) (xs : List Int) : Array Value := (xs.map (Value.int k)).toArray
def eA (k : IntKind) (xs : List Int) : Value := .agg (cA k xs)
@[simp] theorem cA_size (k : IntKind) (xs : List Int) : (cA k xs).size = xs.length := by simp [cA]
theorem cA_toList (k : IntKind) (xs : List Int) : (cA k xs).toList = xs.map (Value.int k) := rfl
theorem cA_get {k : IntKind} {xs : List Int} {j : Nat} {z : Int} (h : xs[j]? = some z) : (cA k xs)[j]? = some (.int k z) := by simp [cA, h]
theorem gt_get {xs : List Int} {i z : Int} (h : gt xs i = some z) : xs[i.toNat]? = some z := by
  obtain ⟨h0, h1, rfl⟩ := gt_some h
  simp
/-- z at the place i. -/
def st (xs : List Int) (i z : Int) : Option (List Int) := bif decide (0 ≤ i) && decide (i < xs.length) then some (xs.set i.toNat z) else none
theorem st_some {xs ys : List Int} {i z : Int} (h : st xs i z = some ys) : 0 ≤ i ∧ i < xs.length ∧ xs.set i.toNat z = ys := by
  unfold st at h
  cases hc : (decide (0 ≤ i) && decide (i < xs.length)) with
  | false => rw [hc] at h; cases h
  | true =>
    rw [hc] at h
    simp only [Bool.and_eq_true, decide_eq_true_eq] at hc
    exact ⟨hc.1, hc.2, Option.some.inj h⟩
theorem st_len {xs ys : List Int} {i z : Int} (h : st xs i z = some ys) : ys.length = xs.length := by
  obtain ⟨_, _, rfl⟩ := st_some h; simp
/-- ys over xs from l on. -/
def cpy (xs : List Int) (l : Nat) (ys : List Int) : List Int := xs.take l ++ ys.take (xs.length - l) ++ xs.drop (l + min ys.length (xs.length - l))
theorem cpy_len {xs ys : List Int} {l : Nat} (h : l ≤ xs.length) : (cpy xs l ys).length = xs.length := by simp [cpy]; omega

theorem ix_some {i m : Int} (h : gd (decide (0 ≤ i) && decide (i < m)) (some ()) = some ()) : 0 ≤ i ∧ i < m := by
  have := (gd_some h).1
  simp only [Bool.and_eq_true, decide_eq_true_eq] at this
  exact this

section
variable {P : Program} {w : World} {s s' : St} {ρ : Operand → Value} {κ : Tg}
variable {d : Option Nat} {g : Option (Nat × Bool)} {t : Nat} {pos : String} {af : Array Edge} {x y : Operand} {v u : Value} {k k' : IntKind} {T T' e b m : Nat} {xs ys : List Int} {i z : Int}

theorem o_ala (κ : Tg) (k : IntKind) (m : Nat) (hz : ∀ w, (zeroValue T).run P w = .ok v w) (hc : v.cells = cA k (List.replicate m 0)) : Hv P ⟨d, .alloc T, t, pos, af, g⟩ ρ s fun u s' => ∃ b, u = .pointer (some ⟨b, 0, none⟩) ∧ Own κ s' b (cA k (List.replicate m 0)) T ∧ Tr No s s' := by
  rw [← hc]; exact o_al κ hz
theorem o_ixa (hT : P.underlying T = some (.array m e)) (hz : ∀ w, (sizeOf e).run P w = .ok 1 w) (hx : ρ x = .pointer (some ⟨b, 0, none⟩)) (hy : ρ y = .int k' i) (h0 : 0 ≤ i) (h1 : i < m) :
    OpTo P ⟨d, .indexAddr T x y, t, pos, af, g⟩ ρ w (.pointer (some ⟨b, i.toNat, none⟩)) w := by
  refine OpTo_value (by intro c h; cases h) ?_
  simp only [execOp, hx, hy]
  refine run_v _ ?_
  simp only [Instr.indexAt, Instr.sureAddr, asIntOf, Sem.run_bind, Sem.run_pure, Result.andThen, run_underlying hT]
  simp only [h0, h1, and_self, if_true, Sem.run_bind, hz, Result.andThen, Sem.run_pure, Addr.add]
  split
  · rename_i hq; simp [hq]
  · simp
theorem o_sta {ys : List Int} (hz : ∀ w, (sizeOf T).run P w = .ok 1 w) (ho : Own κ s b (cA k xs) T') (hx : ρ x = .pointer (some ⟨b, i.toNat, none⟩)) (hy : ρ y = .int k z) (hs : st xs i z = some ys) :
    Hv P ⟨none, .store T x y, t, pos, af, g⟩ ρ s fun _ s' => Own κ s' b (cA k ys) T' ∧ Tr (· = κ) s s' := by
  obtain ⟨h0, h1, rfl⟩ := st_some hs
  refine o_st (o := i.toNat) (v := .int k z) hz ho hx hy (by simp [Value.cells]; omega) (by intro u hu; simp [Value.cells] at hu; subst hu; rfl) ?_
  have hi : i.toNat < xs.length := by omega
  simp only [cA, List.toList_toArray, Value.cells]
  congr 1
  rw [List.map_set, List.set_eq_take_append_cons_drop, if_pos (by simpa using hi)]
  simp
theorem o_stA (hz : ∀ w, (sizeOf T).run P w = .ok m w) (ho : Own κ s b (cA k xs) T') (hx : ρ x = .pointer (some ⟨b, 0, none⟩)) (hy : ρ y = eA k ys) (hl : xs.length = m) (hl2 : ys.length = m) :
    Hv P ⟨none, .store T x y, t, pos, af, g⟩ ρ s fun _ s' => Own κ s' b (cA k ys) T' ∧ Tr (· = κ) s s' :=
  o_st (o := 0) (v := eA k ys) (fun w => by rw [hz]; simp [eA, Value.cells, hl2]) ho hx hy (by simp [eA, Value.cells, hl, hl2]) (by intro u hu; simp [eA, Value.cells, cA] at hu; obtain ⟨q, _, rfl⟩ := hu; rfl) (by
    simp [eA, Value.cells, cA, hl, hl2])
theorem o_ldA (hT : ∀ w, (isAgg T).run P w = .ok true w) (hz : ∀ w, (sizeOf T).run P w = .ok m w) (hx : ρ x = .pointer (some ⟨b, 0, none⟩)) (hl : xs.length = m) (hc : ∀ j, w.cell? ⟨b, j, none⟩ = (cA k xs)[j]?) :
    OpTo P ⟨d, .load T x, t, pos, af, g⟩ ρ w (eA k xs) w := o_ldc hT (fun w => by rw [hz]; simp [hl]) hx hc
theorem o_bdA (m : Nat) (k : IntKind) (hz : ∀ w, (zeroValue T).run P w = .ok v w) (hT : P.underlying T = some (.array m e)) (hs : ∀ w, (sizeOf e).run P w = .ok 1 w) (hc : v.cells = cA k (List.replicate m 0)) :
    OpTo P ⟨d, .build T #[], t, pos, af, g⟩ ρ w (eA k (List.replicate m 0)) w := by
  have := o_bda (P := P) (w := w) (ρ := ρ) (d := d) (g := g) (t := t) (pos := pos) (af := af) (T := T) (e := e) (parts := #[]) (qs := #[]) (cells := v.cells) hz hT hs (by simp) (by simp [Instr.fill])
  rw [hc] at this; exact this
theorem rv_cellA {L : Vs} {a : Nat} (hp : lk L a = some (.pointer (some ⟨b, 0, none⟩))) (hT : ∀ w, (isAgg T).run P w = .ok true w) (hz : ∀ w, (sizeOf T).run P w = .ok m w) (hl : xs.length = m) (hc : ∀ j, w.cell? ⟨b, j, none⟩ = (cA k xs)[j]?) :
    rv1 P L w (.cell a T) (eA k xs) := rv_cell hp hT (fun w => by rw [hz]; simp [hl]) hc

theorem Encs.ints {xs : List Int} : Encs (kInt k) s xs (xs.map (Value.int k)) := by
  induction xs with
  | nil => rfl
  | cons x xs ih => exact ⟨[_], _, rfl, rfl, ih⟩
theorem Encs.ints_eq {xs : List Int} {cs : List Value} (h : Encs (kInt k) s xs cs) : cs = xs.map (Value.int k) := by
  induction xs generalizing cs with
  | nil => exact h
  | cons x xs ih => obtain ⟨e, r, rfl, h1, h2⟩ := h; have h1 : e = _ := h1; rw [h1, ih h2]; rfl
/-- All of an array that stays, as a slice. -/
theorem o_slS (hP : P.underlying T = some (.pointer T')) (hT : P.underlying T' = some (.array m e)) (hz : ∀ w, (sizeOf e).run P w = .ok 1 w) (hx : ρ x = .pointer (some ⟨b, 0, none⟩)) :
    OpTo P ⟨d, .slice T x none none none, t, pos, af, g⟩ ρ w (.slice (some ⟨b, 0, none⟩) m m) w :=
  OpTo_value (by intro c h; cases h) (by
    simp only [execOp, hx, Option.map_none]
    refine run_v _ ?_
    simp [Instr.sliceAt, Instr.slice, run_underlying hP, run_underlying hT, Instr.sliceBounds, Sem.run_bind, Result.andThen, asAddr, hz, Addr.add])
theorem o_slS' (hT : P.underlying T = some (.array m e)) (hz : ∀ w, (sizeOf e).run P w = .ok 1 w) (hx : ρ x = .pointer (some ⟨b, 0, none⟩)) :
    OpTo P ⟨d, .slice T x none none none, t, pos, af, g⟩ ρ w (.slice (some ⟨b, 0, none⟩) m m) w :=
  OpTo_value (by intro c h; cases h) (by
    simp only [execOp, hx, Option.map_none]
    refine run_v _ ?_
    simp [Instr.sliceAt, Instr.sureAddr, run_underlying hT, Instr.sliceBounds, Sem.run_bind, Result.andThen, hz, Addr.add])
theorem Stay.slA (h : Stay s b (cA k xs)) (hl : xs.length = m) : Sl (kInt k) s (.slice (some ⟨b, 0, none⟩) m m) xs := by
  subst hl
  refine ⟨_, _, rfl, Nat.le_refl _, nofun, .inr ⟨b, 0, xs.map (Value.int k), rfl, h.1, h.2.1, Encs.ints, fun j u hu => ?_⟩⟩
  rw [Nat.zero_add, h.cell]
  simpa [cA] using hu
end
end Go.Proofs.YtdkfdmalbbfbmaaGreat

/- The kinds of data of this program. -/
namespace Go.Proofs.YtdkfdmalbbfbmaaGreat
open Go

structure Frame where
  Kind : Int
  Words : List Int

abbrev kU : Kd Int := kInt .u64
def kFr : Kd Frame where
  sz := 2
  R s cs F := ∃ w, cs = [.int .i64 F.Kind, w] ∧ Sl kU s w F.Words
  len := by rintro s cs x ⟨w, rfl, _⟩; rfl
  one := by
    rintro s cs x ⟨w, rfl, h⟩ u hu
    obtain ⟨a, c, rfl⟩ := h.isS
    simp at hu
    rcases hu with rfl | rfl <;> rfl
  up := by rintro s s' cs x ⟨w, rfl, h⟩ hl; exact ⟨w, rfl, h.up hl⟩
theorem At.fr {s : St} {b o : Nat} {F : Frame} (h : At kFr s ⟨b, o, none⟩ F) : ∃ w, s.w.cell? ⟨b, o, none⟩ = some (.int .i64 F.Kind) ∧ s.w.cell? ⟨b, o + 1, none⟩ = some w ∧ Sl kU s w F.Words := by
  obtain ⟨_, _, _, cs, ⟨w, rfl, hw⟩, hc⟩ := h
  exact ⟨w, hc 0 _ rfl, hc 1 _ rfl, hw⟩
end Go.Proofs.YtdkfdmalbbfbmaaGreat

/- Maps from numbers to sectors. -/
namespace Go.Proofs.YtdkfdmalbbfbmaaGreat
open Go Go.Maps

abbrev Sec := List Int
def dA (xs : Sec) : DataW Unit := .agg (xs.map fun x => .lit (.int .u64 x))
theorem dA_inj {xs ys : Sec} (h : dA xs = dA ys) : xs = ys := by
  unfold dA at h
  injection h with h
  induction xs generalizing ys with
  | nil => cases ys with | nil => rfl | cons => simp at h
  | cons x xs ih => cases ys with
    | nil => simp at h
    | cons y ys => simp at h; rw [h.1, ih h.2]
theorem mapInt_inj {k : IntKind} : ∀ {xs ys : List Int}, xs.map (Value.int k) = ys.map (Value.int k) → xs = ys
  | [], [], _ => rfl
  | [], _ :: _, h => by simp at h
  | _ :: _, [], h => by simp at h
  | x :: xs, y :: ys, h => by
    simp only [List.map_cons, List.cons.injEq, Value.int.injEq, true_and] at h
    rw [h.1, mapInt_inj h.2]
theorem eA_inj {k : IntKind} {xs ys : List Int} (h : eA k xs = eA k ys) : xs = ys := by
  unfold eA cA at h
  injection h with h
  exact mapInt_inj (congrArg Array.toList h)
open Classical in
/-- How a sector's value reads. -/
noncomputable def rA (v : Value) : Option (DataW Unit × List MemPlace) := if h : ∃ xs : Sec, v = eA .u64 xs ∧ xs.length = 8 then some (dA h.choose, []) else none
theorem rA_e {xs : Sec} (h : xs.length = 8) : rA (eA .u64 xs) = some (dA xs, []) := by
  have hx : ∃ ys : Sec, eA .u64 xs = eA .u64 ys ∧ ys.length = 8 := ⟨xs, rfl, h⟩
  unfold rA
  rw [dif_pos hx, ← eA_inj hx.choose_spec.1]
theorem rA_inv {v : Value} {d : DataW Unit} {ps : List MemPlace} (h : rA v = some (d, ps)) : ∃ xs : Sec, v = eA .u64 xs ∧ xs.length = 8 ∧ d = dA xs := by
  unfold rA at h
  split at h
  · rename_i hx
    injection h with h
    injection h with h1 h2
    exact ⟨_, hx.choose_spec.1, hx.choose_spec.2, h1.symm⟩
  · cases h

def wAt (wr : List (Option Sec)) (i : Int) : Option Sec := if 0 ≤ i then (wr[i.toNat]?).join else none
theorem wAt_lt {wr : List (Option Sec)} {i : Int} (h : (wAt wr i).isSome = true) : 0 ≤ i ∧ i.toNat < wr.length := by
  unfold wAt at h
  split at h
  · rename_i h0
    refine ⟨h0, ?_⟩
    cases hq : wr[i.toNat]? with
    | none => simp [hq] at h
    | some x => exact (List.getElem?_eq_some_iff.1 hq).1
  · cases h
structure MapR (D : DataW Unit) (wr : List (Option Sec)) : Prop where
  hs : ∀ i : Int, Maps.has D (.int .i64 i) = (wAt wr i).isSome
  val : ∀ i xs, wAt wr i = some xs → xs.length = 8 ∧ ∀ z, D.atKey (.int .i64 i) z = dA xs

/-- The block mb is k's own, a map of these. -/
def MapA (k : Tg) (s : St) (mb : Nat) (wr : List (Option Sec)) : Prop :=
  s.tag mb = some k ∧ wr.length ≤ 4096 ∧ ∃ D, s.w.ownsMap Tryz.prog 3 rA mb 4096 D ∧ MapR D wr

theorem keyed : Keyed Tryz.prog 3 := int_keyed Tryz.underlying3
theorem wf64 {i : Int} (h0 : 0 ≤ i) (h1 : i < 4096) : (Lit.int .i64 i).wf = true := by
  simp [Lit.wf, IntKind.min, IntKind.max, IntKind.signed, IntKind.bits]; omega
theorem key64 {i : Int} (h0 : 0 ≤ i) (h1 : i < 4096) : keyOf Tryz.prog 3 (.int .i64 i) = some (.int .i64 i) := keyOf_int_mk Tryz.underlying3 (wf64 h0 h1)

theorem MapA.tr {k : Tg} {s s' : St} {mb : Nat} {wr : List (Option Sec)} {p : Tg → Prop} (h : MapA k s mb wr) (t : Tr p s s') (hp : ¬ p k) : MapA k s' mb wr := by
  obtain ⟨h1, h2, D, ⟨es, clock, hb, r⟩, h4⟩ := h
  obtain ⟨t1, t2⟩ := t.own mb k h1 hp
  exact ⟨t1, h2, D, ⟨es, clock, t2.trans hb, r⟩, h4⟩
theorem MapA.trN {k : Tg} {s s' : St} {mb : Nat} {wr : List (Option Sec)} (h : MapA k s mb wr) (t : Tr No s s') : MapA k s' mb wr := h.tr t fun h => h
theorem MapA.lt {k : Tg} {s : St} {mb : Nat} {wr : List (Option Sec)} (h : MapA k s mb wr) : mb < s.w.heap.size := let ⟨_, _, _, h, _⟩ := h; h.lt

theorem nodup_le : ∀ (n : Nat) (l : List Int), l.Nodup → (∀ x ∈ l, 0 ≤ x ∧ x < n) → l.length ≤ n
  | 0, l, _, h => by
    cases l with
    | nil => simp
    | cons x l => have := h x List.mem_cons_self; omega
  | n + 1, l, hn, h => by
    by_cases hm : (n : Int) ∈ l
    · have h1 := nodup_le n (l.erase n) (hn.erase _) (fun x hx => by
        have h2 := (hn.mem_erase_iff).1 hx
        have := h x h2.2
        have := h2.1
        omega)
      rw [List.length_erase_of_mem hm] at h1
      omega
    · have := nodup_le n l hn (fun x hx => by
        have h2 := h x hx
        have : x ≠ n := fun e => hm (e ▸ hx)
        omega)
      omega

/-- No more entries than there are places. -/
theorem MapR.tight {w : World} {mb nn : Nat} {D : DataW Unit} {wr : List (Option Sec)} (h : w.ownsMap Tryz.prog 3 rA mb nn D) (hR : MapR D wr) : w.ownsMap Tryz.prog 3 rA mb wr.length D := by
  have hk := h.keysOf
  have ht := h.tidy keyed
  obtain ⟨es, hes, hkeys⟩ := hk
  obtain ⟨es', hes', hpw⟩ := ht
  rw [hes] at hes'
  injection hes' with e
  subst e
  have hsz : es.length ≤ wr.length := by
    have hi : ∀ p ∈ es, ∃ x, p.1 = .int .i64 x := fun p hp => by
      obtain ⟨v, hv⟩ := hkeys p hp
      obtain ⟨x, _, hx, _⟩ := Maps.keyOf_i64 Tryz.underlying3 hv
      exact ⟨x, hx⟩
    have := nodup_le wr.length (es.map fun p => intOf p.1) (List.pairwise_map.2 (hpw.imp_of_mem fun {p q} hp hq hne e => hne (by
        obtain ⟨a, ha⟩ := hi p hp
        obtain ⟨b, hb⟩ := hi q hq
        rw [ha, hb] at e ⊢
        exact congrArg _ e))) (fun x hx => by
        obtain ⟨p, hp, rfl⟩ := List.mem_map.1 hx
        obtain ⟨a, ha⟩ := hi p hp
        have h1 := hR.hs a
        have h2 : Maps.has D (.int .i64 a) = true := by
          rw [hes, has_eq, List.any_eq_true]
          exact ⟨p, hp, by rw [ha]; simp [Lit.sameKey]⟩
        rw [h2] at h1
        have := wAt_lt h1.symm
        rw [ha]
        simp only [intOf]
        omega)
    simpa using this
  have h2 := h.size_le
  obtain ⟨es0, clock, hb, F, hs, hD⟩ := h
  refine ⟨es0, clock, hb, F, ?_, hD⟩
  have e1 : es.length = es0.size := by
    have := congrArg Maps.size (hes.symm.trans hD)
    simpa [Maps.size, length_sorted] using this
  omega
end Go.Proofs.YtdkfdmalbbfbmaaGreat

/- Devices: what a disk.Disk is; its plain functions. -/
namespace Go.Proofs.YtdkfdmalbbfbmaaGreat
open Go Go.Maps
set_option maxRecDepth 4000

abbrev kA8 : Kd Sec := kArr 8 (Value.int .u64) (fun _ => rfl)
def Z8 : Sec := List.replicate 8 0

section
variable {s s' : St} {k κ : Tg} {mb : Nat} {wr : List (Option Sec)} {ρ : Operand → Value} {d : Option Nat} {g : Option (Nat × Bool)} {t : Nat} {pos : String} {af : Array Edge} {x y z : Operand} {i : Int} {xs : Sec}

theorem wAt_none {n : Nat} {i : Int} : wAt (List.replicate n none) i = none := by
  unfold wAt
  split
  · rw [List.getElem?_replicate]; split <;> rfl
  · rfl
theorem MapA.made (s : St) (κ : Tg) {n : Nat} (hn : n ≤ 4096) : MapA κ (s.new (.map #[] 0) κ) s.w.heap.size (List.replicate n none) := by
  refine ⟨by simp [St.new], by simpa using hn, .map [], (World.ownsMap_made s.w _ _ _).mono (Nat.zero_le _), ⟨fun i => ?_, fun i xs h => ?_⟩⟩
  · rw [wAt_none]; rfl
  · rw [wAt_none] at h; cases h
theorem o_mk (κ : Tg) {n : Nat} (hn : n ≤ 4096) {T : TypeId} : Hv Tryz.prog ⟨d, .makeMap T none, t, pos, af, g⟩ ρ s fun v s' => ∃ mb, v = .map (some mb) ∧ MapA κ s' mb (List.replicate n none) ∧ Tr No s s' :=
  hvo (s.new (.map #[] 0) κ) (OpTo_value (by intro c h; cases h) (by
    simp only [execOp, Option.map_none]
    exact run_v' (v := .map (some s.w.heap.size)) _ rfl)) ⟨_, rfl, MapA.made s κ hn, Tr.new s _ κ⟩

/-- What is there, or zeros. -/
theorem run_lk (h : MapA k s mb wr) (h0 : 0 ≤ i) (h1 : i < wr.length) :
    (Instr.lookup 61 (.map (some mb)) (.int .i64 i) true).run Tryz.prog s.w = .ok (.tuple #[eA .u64 ((wAt wr i).getD Z8), .bool (wAt wr i).isSome]) s.w ∧
    (Instr.lookup 61 (.map (some mb)) (.int .i64 i) false).run Tryz.prog s.w = .ok (eA .u64 ((wAt wr i).getD Z8)) s.w := by
  obtain ⟨_, hl, D, hown, hR⟩ := h
  have hkey := key64 h0 (show i < 4096 by omega)
  have hz : (zeroValue 40).run Tryz.prog s.w = .ok (eA .u64 Z8) s.w := Tryz.zeroValue40 s.w
  have hzd := rA_e (xs := Z8) rfl
  have key : ∀ v ps, rA v = some (D.atKey (.int .i64 i) (dA Z8), ps) → v = eA .u64 ((wAt wr i).getD Z8) := by
    intro v ps hv
    obtain ⟨ys, rfl, hy, hd⟩ := rA_inv hv
    cases hw : wAt wr i with
    | none =>
      have h2 := hR.hs i
      rw [hw] at h2
      rw [atKey_of_not_has h2] at hd
      rw [← dA_inj hd]; rfl
    | some xs =>
      rw [(hR.val i xs hw).2] at hd
      rw [← dA_inj hd]; rfl
  obtain ⟨v, ps, hr, hv⟩ := hown.look_ok keyed Tryz.underlying61 hz hzd hkey
  obtain ⟨v', ps', hr', hv'⟩ := hown.lookup keyed Tryz.underlying61 hz hzd hkey
  rw [hR.hs i] at hr
  rw [key v ps hv] at hr
  rw [key v' ps' hv'] at hr'
  exact ⟨hr, hr'⟩
theorem o_lk (h : MapA k s mb wr) (hx : ρ x = .map (some mb)) (hy : ρ y = .int .i64 i) (h0 : 0 ≤ i) (h1 : i < wr.length) :
    OpTo Tryz.prog ⟨d, .lookup 61 x y true, t, pos, af, g⟩ ρ s.w (.tuple #[eA .u64 ((wAt wr i).getD Z8), .bool (wAt wr i).isSome]) s.w :=
  OpTo_value (by intro c h; cases h) (by simp only [execOp, hx, hy]; exact run_v _ (run_lk h h0 h1).1)
theorem o_lk1 (h : MapA k s mb wr) (hx : ρ x = .map (some mb)) (hy : ρ y = .int .i64 i) (h0 : 0 ≤ i) (h1 : i < wr.length) :
    OpTo Tryz.prog ⟨d, .lookup 61 x y false, t, pos, af, g⟩ ρ s.w (eA .u64 ((wAt wr i).getD Z8)) s.w :=
  OpTo_value (by intro c h; cases h) (by simp only [execOp, hx, hy]; exact run_v _ (run_lk h h0 h1).2)

theorem wAt_set {i : Int} (h0 : 0 ≤ i) (h1 : i < wr.length) (o : Option Sec) (j : Int) : wAt (wr.set i.toNat o) j = if j = i then o else wAt wr j := by
  unfold wAt
  by_cases hj : j = i
  · subst hj
    rw [if_pos h0, if_pos rfl, List.getElem?_set_self (by omega)]
    rfl
  · rw [if_neg hj]
    by_cases hj0 : 0 ≤ j
    · rw [if_pos hj0, if_pos hj0, List.getElem?_set_ne (by omega)]
    · rw [if_neg hj0, if_neg hj0]

/-- One sector is written. -/
theorem o_up (h : MapA κ s mb wr) (hx : ρ x = .map (some mb)) (hy : ρ y = .int .i64 i) (hz : ρ z = eA .u64 xs) (hl : xs.length = 8) (h0 : 0 ≤ i) (h1 : i < wr.length) :
    Hv Tryz.prog ⟨none, .mapUpdate 61 x y z, t, pos, af, g⟩ ρ s fun _ s' => MapA κ s' mb (wr.set i.toNat (some xs)) ∧ Tr (· = κ) s s' := by
  obtain ⟨htag, hlen, D, hown, hR⟩ := h
  have hkey := key64 h0 (show i < 4096 by omega)
  have hown := hR.tight hown
  obtain ⟨w', hr, ho', hg⟩ := hown.update keyed Tryz.underlying61 (Nat.lt_of_le_of_lt hlen (by decide)) hkey (rA_e hl)
  have htr : Tr (· = κ) s (s.ext' w' hg.size) := ⟨hg.os, hg.tape, hg.output, hg.size, fun b hb hm => ⟨hm, hg.block b hb (fun e => hm (by injection e with e; subst e; unfold St.M; rw [htag]; simp))⟩,
    fun b t hb hp => ⟨hb, hg.block b (s.ok b (by rw [hb]; simp)) (fun e => hp (by injection e with e; subst e; rw [htag] at hb; exact (Option.some.inj hb).symm))⟩⟩
  have hkl : WideAt.IsKeyLit (.int .i64 i) := by
    have := keyed.key hkey
    exact this
  have hR' : MapR (D.put (.int .i64 i) (dA xs)) (wr.set i.toNat (some xs)) := by
    refine ⟨fun j => ?_, fun j ys hj => ?_⟩
    · rw [wAt_set h0 h1]
      by_cases hj : j = i
      · subst hj; rw [if_pos rfl, has_put_same hown.isMap hkl]; rfl
      · rw [if_neg hj, has_put_other (by intro e; injection e with _ e; exact hj e), hR.hs]
    · rw [wAt_set h0 h1] at hj
      by_cases hji : j = i
      · subst hji
        rw [if_pos rfl] at hj
        injection hj with hj
        subst hj
        exact ⟨hl, fun zz => atKey_put_same hown.isMap hkl _ _⟩
      · rw [if_neg hji] at hj
        exact ⟨(hR.val j ys hj).1, fun zz => by rw [atKey_put_other (by intro e; injection e with _ e; exact hji e)]; exact (hR.val j ys hj).2 zz⟩
  have hown' : MapA κ (s.ext' w' hg.size) mb (wr.set i.toNat (some xs)) := ⟨htag, by simpa using hlen, _, (hR'.tight ho').mono (by simpa using hlen), hR'⟩
  refine hvo (v := undef) (s.ext' w' hg.size) (OpTo_skip (by intro c h; cases h) ?_) ⟨hown', htr⟩
  simp only [execOp, hx, hy, hz]
  exact run_u' _ hr
end
end Go.Proofs.YtdkfdmalbbfbmaaGreat

/- Devices: what a disk.Disk is; its plain functions. -/
namespace Go.Proofs.YtdkfdmalbbfbmaaGreat
open Go Go.Maps
set_option maxRecDepth 4000

section
variable {P : Program} {w : World} {ρ : Operand → Value} {d : Option Nat} {g : Option (Nat × Bool)} {t : Nat} {pos : String} {af : Array Edge} {x y : Operand} {T T' e : Nat} {p : Addr}
theorem run_eqp (hT : P.underlying T = some (.pointer e)) : (Op.equal T (.pointer (some p)) (.pointer none)).run P w = .ok false w := by
  obtain ⟨q, hq⟩ : ∃ q, Op.maxDepth = q + 1 := ⟨9999, rfl⟩
  unfold Op.equal
  rw [hq]
  unfold Op.equalIn
  simp only [Sem.run_bind, run_underlying hT, Result.andThen]
  rfl
theorem o_eqp (hT : P.underlying T = some (.pointer e)) (hx : ρ x = .pointer (some p)) (hy : ρ y = .pointer none) : OpTo P ⟨d, .binOp .eql T x y T', t, pos, af, g⟩ ρ w (.bool false) w :=
  OpTo_value (by intro c h; cases h) (by
    simp only [execOp, hx, hy]
    refine run_v _ ?_
    simp [eqGuard, binOp, run_eqp hT, Sem.run_bind, Result.andThen])
theorem o_nep (hT : P.underlying T = some (.pointer e)) (hx : ρ x = .pointer (some p)) (hy : ρ y = .pointer none) : OpTo P ⟨d, .binOp .neq T x y T', t, pos, af, g⟩ ρ w (.bool true) w :=
  OpTo_value (by intro c h; cases h) (by
    simp only [execOp, hx, hy]
    refine run_v _ ?_
    simp [eqGuard, binOp, run_eqp hT, Sem.run_bind, Result.andThen])
end

structure Disk where
  lasts : List Sec
  wr : List (Option Sec)
/-- At b lies k's device. -/
def DiskAt (k : Nat) (s : St) (b : Nat) (D : Disk) : Prop := D.wr.length = D.lasts.length ∧ ∃ lv mb n1 n2,
  Own (k, 0) s b #[lv, .map (some mb), .int .i64 n1, .int .i64 n2] 63 ∧ Bd (k, 1) kA8 40 0 s lv D.lasts ∧ MapA (k, 2) s mb D.wr
theorem DiskAt.tr {k : Nat} {s s' : St} {b : Nat} {D : Disk} {p : Tg → Prop} (h : DiskAt k s b D) (t : Tr p s s') (hp : ∀ i, ¬ p (k, i)) : DiskAt k s' b D := by
  obtain ⟨h0, lv, mb, n1, n2, h1, h2, h3⟩ := h
  exact ⟨h0, lv, mb, n1, n2, h1.tr t (hp 0), h2.tr t (hp 1), h3.tr t (hp 2)⟩
theorem DiskAt.trN {k : Nat} {s s' : St} {b : Nat} {D : Disk} (h : DiskAt k s b D) (t : Tr No s s') : DiskAt k s' b D := h.tr t fun _ h => h
theorem DiskAt.tag {k : Nat} {s : St} {b : Nat} {D : Disk} (h : DiskAt k s b D) : s.tag b = some (k, 0) := let ⟨_, _, _, _, _, h1, _⟩ := h; h1.1

theorem ok_32 (s : St) {k : Nat} {b : Nat} {D : Disk} (hd : DiskAt k s b D) :
    Ok Tryz.prog 23 ([.pointer (some ⟨b, 0, none⟩)] : List Value).toArray s fun v s' => Tr No s s' ∧ v = .int .i64 D.lasts.length := by
  obtain ⟨h0, lv, mb, n1, n2, h1, h2, h3⟩ := hd
  refine ok_of (n := 10) _ Tryz.func23 rfl _ rfl rfl fun a E => ?_
  refine G_seq ?_
  refine G_region ?_
  refine sd E (o_as (E.ev rfl)) rfl rfl rfl fun a E => ?_
  refine GL_nil ?_
  refine tgn ?_
  refine G_seq ?_
  refine G_seq ?_
  refine G_region ?_
  refine sd E (o_mv (E.ev rfl)) rfl rfl rfl fun a E => ?_
  refine sd E (o_eqp Tryz.underlying25 (E.ev rfl) (E.ev rfl)) rfl rfl rfl fun a E => ?_
  refine GL_nil ?_
  refine tgn ?_
  refine G_cond (t := false) (E.ev rfl) nofun (fun _ => ?_)
  refine G_skip ?_
  refine tgn ?_
  refine G_seq ?_
  refine G_region ?_
  refine sd E (o_mv (E.ev rfl)) rfl rfl rfl fun a E => ?_
  refine sd E (o_nc (E.ev rfl)) rfl rfl rfl fun a E => ?_
  refine sd E (o_fa Tryz.underlying63 rfl Tryz.sizeOf60 (E.ev rfl)) rfl rfl rfl fun a E => ?_
  refine sd E (o_ld Tryz.isAgg60 (E.ev rfl) ((h1.cell _).trans rfl)) rfl rfl rfl fun a E => ?_
  refine sd E (o_lenS (xs := D.lasts) Tryz.underlying60 (E.ev rfl) h2.isS) rfl rfl rfl fun a E => ?_
  refine sd E (o_as (E.ev rfl)) rfl rfl rfl fun a E => ?_
  refine GL_nil ?_
  refine tgn ?_
  refine G_ret ?_
  exact fin1 E rfl rfl ⟨Tr.refl _ _, rfl⟩

def there (D : Disk) (i : Int) : Bool := bif decide (i ≥ 0) then decide (i < (D.lasts.length : Int)) else false
theorem ok_41 (s : St) {k : Nat} {b : Nat} {D : Disk} (hd : DiskAt k s b D) {i : Int} :
    Ok Tryz.prog 66 ([.pointer (some ⟨b, 0, none⟩), .int .i64 i] : List Value).toArray s fun v s' => Tr No s s' ∧ v = .bool (there D i) := by
  refine ok_of (n := 13) _ Tryz.func66 rfl _ rfl rfl fun a E => ?_
  refine G_seq ?_
  refine G_region ?_
  refine sd E (o_as (E.ev rfl)) rfl rfl rfl fun a E => ?_
  refine GL_nil ?_
  refine tgn ?_
  refine G_seq ?_
  refine G_regm (fun a' w' => ∃ s', w' = s'.w ∧ Tr No s s' ∧ En [] 13 a' [(4, .bool (there D i))]) ?_ ?_
  · refine sd E (o_mv (E.ev rfl)) rfl rfl rfl fun a E => ?_
    refine sd E (o_bi (E.ev rfl) (E.ev rfl) rfl) rfl rfl rfl fun a E => ?_
    refine sd E (o_mv (E.ev rfl)) rfl rfl rfl fun a E => ?_
    refine bcase (E.ev (x := .tmp 7) rfl) (fun ht => ?_) (fun ht => ?_)
    · rw [ht] at E
      refine sd E (o_mv (E.ev rfl)) rfl rfl rfl fun a E => ?_
      refine sd E (o_mv (E.ev rfl)) rfl rfl rfl fun a E => ?_
      refine sh E (o_ok Tryz.call23 (E.evs rfl) (E.ev rfl) (ok_32 s hd)) rfl rfl rfl ?_
      rintro a _ s1 ⟨t1, rfl⟩ E
      refine sd E (o_bi (E.ev rfl) (E.ev rfl) rfl) rfl rfl rfl fun a E => ?_
      refine sd E (o_pickT (E.ev rfl) (E.ev rfl)) rfl rfl rfl fun a E => ?_
      refine sd E (o_as (E.ev rfl)) rfl rfl rfl fun a E => ?_
      exact GL_nil ⟨s1, rfl, t1, E.nil.ad E rfl (by unfold there; rw [ht]; rfl)⟩
    · rw [ht] at E
      refine sk E rfl rfl rfl fun a E => ?_
      refine sk E rfl rfl rfl fun a E => ?_
      refine sk E rfl rfl rfl fun a E => ?_
      refine sk E rfl rfl rfl fun a E => ?_
      refine sd E (o_pickF (E.ev rfl) (E.ev rfl)) rfl rfl rfl fun a E => ?_
      refine sd E (o_as (E.ev rfl)) rfl rfl rfl fun a E => ?_
      exact GL_nil ⟨s, rfl, Tr.refl _ _, E.nil.ad E rfl (by unfold there; rw [ht]; rfl)⟩
  · rintro a _ ⟨s1, rfl, t1, E⟩
    refine tgn ?_
    refine G_ret ?_
    exact fin1 E rfl rfl ⟨t1, rfl⟩

theorem there_some {D : Disk} {i : Int} (h : there D i = true) : 0 ≤ i ∧ i < D.lasts.length := by
  unfold there at h
  by_cases h0 : i ≥ 0
  · simp [h0] at h; exact ⟨h0, h⟩
  · simp [h0] at h

/-- What is read at i. -/
def rdD (D : Disk) (i : Int) : Sec := (wAt D.wr i).getD ((D.lasts[i.toNat]?).getD Z8)
def m_14 (D : Disk) (i : Int) : Option (Sec × Int) := bif there D i then some (rdD D i, 0) else some (Z8, 3)
def m_60 (D : Disk) (i : Int) (xs : Sec) : Option (Disk × Int) := bif there D i then some ({ D with wr := D.wr.set i.toNat (some xs) }, 0) else some (D, 3)

theorem ok_60 (s : St) {k : Nat} {b : Nat} {D D' : Disk} (hd : DiskAt k s b D) {i : Int} {xs : Sec} (hl : xs.length = 8) {e : Int} (hm : m_60 D i xs = some (D', e)) :
    Ok Tryz.prog 36 ([.pointer (some ⟨b, 0, none⟩), .int .i64 i, eA .u64 xs] : List Value).toArray s fun v s' => DiskAt k s' b D' ∧ Tr (Rt k) s s' ∧ v = .int .i64 e := by
  unfold m_60 at hm
  refine ok_of (n := 24) _ Tryz.func36 rfl _ rfl rfl fun a E => ?_
  refine G_seq ?_
  refine G_region ?_
  refine sh E (o_box (E.ev rfl)) rfl rfl rfl ?_
  rintro a _ s1 ⟨b1, rfl, o1, t1⟩ E
  refine sd E (o_as (E.ev rfl)) rfl rfl rfl fun a E => ?_
  refine GL_nil ?_
  refine tgn ?_
  refine G_seq ?_
  refine G_seq ?_
  refine G_region ?_
  refine sd E (o_mv (E.ev rfl)) rfl rfl rfl fun a E => ?_
  refine sd E (o_mv (E.ev rfl)) rfl rfl rfl fun a E => ?_
  have hd := hd.trN t1
  refine sh E (o_ok Tryz.call66 (E.evs rfl) (E.ev rfl) (ok_41 s1 hd)) rfl rfl rfl ?_
  rintro a _ s2 ⟨t2, rfl⟩ E
  have hd := hd.trN t2
  refine sd E (o_not (E.ev rfl)) rfl rfl rfl fun a E => ?_
  refine GL_nil ?_
  refine tgn ?_
  refine G_cond (E.ev rfl) (fun ht => ?_) (fun ht => ?_)
  · have ht : there D i = false := by simpa using ht
    have hm := cF ht hm
    cases hm
    refine G_seq ?_
    refine G_region ?_
    refine sd E (o_as (E.ev rfl)) rfl rfl rfl fun a E => ?_
    refine GL_nil ?_
    refine tgn ?_
    refine G_ret ?_
    refine tgr ?_
    exact fin1 E rfl rfl ⟨hd, (t1.trans t2).no, rfl⟩
  · have ht : there D i = true := by simpa using ht
    have hm := cT ht hm
    cases hm
    obtain ⟨p0, p1⟩ := there_some ht
    refine G_skip ?_
    refine tgn ?_
    obtain ⟨h0, lv, mb, n1, n2, h1, h2, h3⟩ := hd
    refine G_seq ?_
    refine G_drw k (by rfl) [0, 1, 2, 3, 4, 5, 6] (by kernel_rfl) ?_
    intro s3 t3
    have o1 := (o1.tr t2).tr t3
    have h1 := h1.trN t3
    have h2 := h2.trN t3
    have h3 := h3.trN t3
    refine dp E rfl (fun w => o_mv (E.ev rfl)) rfl rfl rfl fun a E => ?_
    refine dp E rfl (fun w => o_nc (E.ev rfl)) rfl rfl rfl fun a E => ?_
    refine dp E rfl (fun w => o_fa Tryz.underlying63 rfl Tryz.sizeOf61 (E.ev rfl)) rfl rfl rfl fun a E => ?_
    refine dr E rfl (fun s' t => o_ld Tryz.isAgg61 (E.ev rfl) (((h1.trN t).cell _).trans rfl)) rfl rfl rfl rfl fun a E => ?_
    refine dp E rfl (fun w => o_mv (E.ev rfl)) rfl rfl rfl fun a E => ?_
    refine dr E rfl (fun s' t => o_ldA Tryz.isAgg40 Tryz.sizeOf40 (E.ev rfl) hl (o1.tr t).cell) rfl rfl rfl rfl fun a E => ?_
    refine dlN E rfl (o_up h3 (E.ev rfl) (E.ev rfl) (E.ev rfl) hl p0 (by omega)) rfl rfl rfl ?_
    rintro _ s4 ⟨h4, t4⟩
    have h1 := h1.tr t4 (nt_snd rfl)
    have h2 := h2.tr t4 (nt_snd rfl)
    refine gd_nil ?_
    refine tgn ?_
    refine G_seq ?_
    refine G_region ?_
    refine sd E (o_mv (E.ev rfl)) rfl rfl rfl fun a E => ?_
    refine sd E (o_nc (E.ev rfl)) rfl rfl rfl fun a E => ?_
    refine sd E (o_fa Tryz.underlying63 rfl Tryz.sizeOf2 (E.ev rfl)) rfl rfl rfl fun a E => ?_
    refine sd E (o_ld Tryz.isAgg2 (E.ev rfl) ((h1.cell _).trans rfl)) rfl rfl rfl fun a E => ?_
    refine sd E (o_bi (E.ev rfl) (E.ev rfl) rfl) rfl rfl rfl fun a E => ?_
    refine sd E (o_nc (E.ev rfl)) rfl rfl rfl fun a E => ?_
    refine sd E (o_fa Tryz.underlying63 rfl Tryz.sizeOf2 (E.ev rfl)) rfl rfl rfl fun a E => ?_
    refine shN E (o_st (v := .int .i64 _) Tryz.sizeOf2 h1 (E.ev rfl) (E.ev rfl) (Nat.le_of_ble_eq_true rfl) (by intro u hu; simp [Value.cells] at hu; subst hu; rfl) rfl) rfl rfl ?_
    rintro _ s5 ⟨h5, t5⟩
    refine GL_nil ?_
    refine tgn ?_
    refine G_seq ?_
    refine G_region ?_
    refine sd E (o_as (E.ev rfl)) rfl rfl rfl fun a E => ?_
    refine GL_nil ?_
    refine tgn ?_
    refine G_ret ?_
    exact fin1 E rfl rfl ⟨⟨by simpa using h0, lv, mb, _, n2, h5, h2.tr t5 (nt_snd rfl), h4.tr t5 (nt_snd rfl)⟩, (((t1.trans t2).trans t3).no.trans (t4.mono (by intro t h; subst h; rfl))).trans (t5.mono (by intro t h; subst h; rfl)), rfl⟩
end Go.Proofs.YtdkfdmalbbfbmaaGreat

/- Devices: reading, and a new one. -/
namespace Go.Proofs.YtdkfdmalbbfbmaaGreat
open Go Go.Maps
set_option maxRecDepth 4000

section
variable {α : Type} {K : Kd α} {s : St} {v : Value} {xs : List α} {k : Tg} {T B : Nat} {i : Int} {q : α}
/-- An element of a slice of one's own, read now. -/
theorem Bd.gt (h : Bd k K T B s v xs) (hq : gt xs i = some q) : ∃ b o, IxTo v i xs.length K.sz b o ∧ s.tag b = some k ∧ ∃ es, K.R s es q ∧ ∀ j u, es[j]? = some u → s.w.cell? ⟨b, o + j, none⟩ = some u := by
  obtain ⟨h0, h1, rfl⟩ := gt_some hq
  obtain ⟨cs, ⟨hl, hh⟩, he, hm⟩ := h
  rcases hh with ⟨rfl, hz⟩ | ⟨g, cap, cur, rfl, hB, hh, hc, hcm, hz, hx⟩
  · omega
  · obtain ⟨es, e1, e2⟩ := he.get (List.getElem?_eq_getElem h1)
    refine ⟨g, 0 + i.toNat * K.sz, ⟨0, cap, rfl, rfl, h0, by omega⟩, hm g rfl, es, e1, fun j u hu => ?_⟩
    have := e2 j u hu
    rw [← hx, List.getElem?_take] at this
    split at this
    · rw [Nat.zero_add]; simpa [World.cell?, hh] using this
    · cases this
end

theorem DiskAt.len8 {k : Nat} {s : St} {b : Nat} {D : Disk} (hd : DiskAt k s b D) {i : Int} (ht : there D i = true) : (rdD D i).length = 8 := by
  obtain ⟨h0, lv, mb, n1, n2, h1, h2, h3⟩ := hd
  obtain ⟨p0, p1⟩ := there_some ht
  unfold rdD
  cases hw : wAt D.wr i with
  | some x =>
    obtain ⟨_, _, _, _, hR⟩ := h3
    exact (hR.val i x hw).1
  | none =>
    have hg : gt D.lasts i = some (D.lasts[i.toNat]'(by omega)) := by simp [gt, p0, show i.toNat < D.lasts.length by omega]
    obtain ⟨_, _, _, _, es, he, _⟩ := h2.gt hg
    simp only [Option.getD_none, List.getElem?_eq_getElem (show i.toNat < D.lasts.length by omega), Option.getD_some]
    exact he.1

theorem m_14_len {k : Nat} {s : St} {b : Nat} {D : Disk} (hd : DiskAt k s b D) {i : Int} {xs : Sec} {e : Int} (hm : m_14 D i = some (xs, e)) : xs.length = 8 := by
  unfold m_14 at hm
  cases ht : there D i with
  | true => have hm := cT ht hm; cases hm; exact hd.len8 ht
  | false => have hm := cF ht hm; cases hm; rfl

theorem ok_14 (s : St) {k : Nat} {b : Nat} {D : Disk} (hd : DiskAt k s b D) {i : Int} {xs : Sec} {e : Int} (hm : m_14 D i = some (xs, e)) :
    Ok Tryz.prog 50 ([.pointer (some ⟨b, 0, none⟩), .int .i64 i] : List Value).toArray s fun v s' => Tr No s s' ∧ v = .tuple #[eA .u64 xs, .int .i64 e] ∧ xs.length = 8 := by
  have hl8 := m_14_len hd hm
  unfold m_14 at hm
  obtain ⟨κ, hk⟩ := s.fresh
  have hkk : k < κ := hk _ _ hd.tag
  refine ok_of (n := 31) _ Tryz.func50 rfl _ rfl rfl fun a E => ?_
  refine G_seq ?_
  refine G_region ?_
  refine sh E (o_ala (κ, 1) .u64 8 Tryz.zeroValue40 rfl) rfl rfl rfl ?_
  rintro a _ s1 ⟨b1, rfl, o1, t1⟩ E
  refine sd E (o_as (E.ev rfl)) rfl rfl rfl fun a E => ?_
  refine GL_nil ?_
  refine tgn ?_
  refine G_seq ?_
  refine G_seq ?_
  refine G_region ?_
  refine sd E (o_mv (E.ev rfl)) rfl rfl rfl fun a E => ?_
  refine sd E (o_mv (E.ev rfl)) rfl rfl rfl fun a E => ?_
  have hd := hd.trN t1
  refine sh E (o_ok Tryz.call66 (E.evs rfl) (E.ev rfl) (ok_41 s1 hd)) rfl rfl rfl ?_
  rintro a _ s2 ⟨t2, rfl⟩ E
  have hd := hd.trN t2
  have o1 := o1.trN t2
  refine sd E (o_not (E.ev rfl)) rfl rfl rfl fun a E => ?_
  refine GL_nil ?_
  refine tgn ?_
  refine G_cond (E.ev rfl) (fun ht => ?_) (fun ht => ?_)
  · have ht : there D i = false := by simpa using ht
    have hm := cF ht hm
    cases hm
    refine G_seq ?_
    refine G_region ?_
    refine sd E (o_bdA 8 .u64 Tryz.zeroValue40 Tryz.underlying40 Tryz.sizeOf39 rfl) rfl rfl rfl fun a E => ?_
    refine shN E (o_stA Tryz.sizeOf40 o1 (E.ev rfl) (E.ev rfl) (List.length_replicate ..) (List.length_replicate ..)) rfl rfl ?_
    rintro _ s3 ⟨o2, t3⟩
    refine sd E (o_as (E.ev rfl)) rfl rfl rfl fun a E => ?_
    refine GL_nil ?_
    refine tgn ?_
    refine G_ret ?_
    refine tgr ?_
    exact fin2 E rfl (rv_cellA rfl Tryz.isAgg40 Tryz.sizeOf40 (List.length_replicate ..) o2.cell) rfl ⟨((Tr.refl No s).stepN (t1.trans t2)).step hk t3 (by intro t h; subst h; exact .inr (Nat.le_refl _)), rfl, rfl⟩
  · have ht : there D i = true := by simpa using ht
    have hm := cT ht hm
    cases hm
    obtain ⟨p0, p1⟩ := there_some ht
    refine G_skip ?_
    refine tgn ?_
    obtain ⟨h0, lv, mb, n1, n2, h1, h2, h3⟩ := hd
    refine G_seq ?_
    refine G_seq ?_
    refine G_region ?_
    refine sd E (o_mv (E.ev rfl)) rfl rfl rfl fun a E => ?_
    refine sd E (o_nc (E.ev rfl)) rfl rfl rfl fun a E => ?_
    refine sd E (o_fa Tryz.underlying63 rfl Tryz.sizeOf61 (E.ev rfl)) rfl rfl rfl fun a E => ?_
    refine sd E (o_ld Tryz.isAgg61 (E.ev rfl) ((h1.cell _).trans rfl)) rfl rfl rfl fun a E => ?_
    refine sd E (o_mv (E.ev rfl)) rfl rfl rfl fun a E => ?_
    refine sd E (o_lk h3 (E.ev rfl) (E.ev rfl) p0 (by omega)) rfl rfl rfl fun a E => ?_
    refine sd E (o_mv (E.ev rfl)) rfl rfl rfl fun a E => ?_
    refine sd E (o_ext (v := eA .u64 ((wAt D.wr i).getD Z8)) (E.ev rfl) rfl) rfl rfl rfl fun a E => ?_
    refine sd E (o_ext (v := .bool (wAt D.wr i).isSome) (E.ev rfl) rfl) rfl rfl rfl fun a E => ?_
    refine sh E (o_ala (κ, 2) .u64 8 Tryz.zeroValue40 rfl) rfl rfl rfl ?_
    rintro a _ s3 ⟨b2, rfl, o2, t3⟩ E
    have h1 := h1.trN t3
    have h2 := h2.trN t3
    have o1 := o1.trN t3
    have hl : ((wAt D.wr i).getD Z8).length = 8 := by
      cases hw : wAt D.wr i with
      | none => rfl
      | some x => obtain ⟨_, _, _, _, hR⟩ := h3; exact (hR.val i x hw).1
    refine shN E (o_stA Tryz.sizeOf40 o2 (E.ev rfl) (E.ev rfl) (List.length_replicate ..) hl) rfl rfl ?_
    rintro _ s4 ⟨o3, t4⟩
    have h1 := h1.tr t4 (nt_fst (by omega))
    have h2 := h2.tr t4 (nt_fst (by omega))
    have o1 := o1.tr t4 (nt_snd rfl)
    refine sd E (o_as (E.ev rfl)) rfl rfl rfl fun a E => ?_
    refine GL_nil ?_
    refine tgn ?_
    refine G_seq ?_
    refine G_region ?_
    refine sd E (o_mv (E.ev rfl)) rfl rfl rfl fun a E => ?_
    refine GL_nil ?_
    refine tgn ?_
    have T4 : Tr No s s4 := (((Tr.refl No s).stepN (t1.trans t2)).stepN t3).step hk t4 (by intro t h; subst h; exact .inr (Nat.le_refl _))
    refine G_cond (E.ev rfl) (fun hw => ?_) (fun hw => ?_)
    · obtain ⟨x, hx⟩ := Option.isSome_iff_exists.1 hw
      rw [hx] at E o3 hl
      refine G_seq ?_
      refine G_region ?_
      refine sd E (o_ldA Tryz.isAgg40 Tryz.sizeOf40 (E.ev rfl) hl o3.cell) rfl rfl rfl fun a E => ?_
      refine shN E (o_stA Tryz.sizeOf40 o1 (E.ev rfl) (E.ev rfl) (List.length_replicate ..) hl) rfl rfl ?_
      rintro _ s5 ⟨o5, t5⟩
      refine sd E (o_as (E.ev rfl)) rfl rfl rfl fun a E => ?_
      refine GL_nil ?_
      refine tgn ?_
      refine G_ret ?_
      refine tgr ?_
      have e1 : rdD D i = (some x).getD Z8 := by unfold rdD; rw [hx]; rfl
      rw [e1]
      exact fin2 E rfl (rv_cellA rfl Tryz.isAgg40 Tryz.sizeOf40 hl o5.cell) rfl ⟨T4.step hk t5 (by intro t h; subst h; exact .inr (Nat.le_refl _)), rfl, hl⟩
    · have hx : wAt D.wr i = none := by simpa using hw
      refine G_skip ?_
      refine tgn ?_
      have hg : gt D.lasts i = some (D.lasts[i.toNat]'(by omega)) := by simp [gt, p0, show i.toNat < D.lasts.length by omega]
      obtain ⟨b5, p5, g5, _, es, ⟨hes, rfl⟩, hc⟩ := h2.gt hg
      refine G_seq ?_
      refine G_region ?_
      refine sd E (o_mv (E.ev rfl)) rfl rfl rfl fun a E => ?_
      refine sd E (o_nc (E.ev rfl)) rfl rfl rfl fun a E => ?_
      refine sd E (o_fa Tryz.underlying63 rfl Tryz.sizeOf60 (E.ev rfl)) rfl rfl rfl fun a E => ?_
      refine sd E (o_ld Tryz.isAgg60 (E.ev rfl) ((h1.cell _).trans rfl)) rfl rfl rfl fun a E => ?_
      refine sd E (o_mv (E.ev rfl)) rfl rfl rfl fun a E => ?_
      refine sd E (o_ixg Tryz.underlying60 Tryz.sizeOf40 g5 (E.ev rfl) (E.ev rfl)) rfl rfl rfl fun a E => ?_
      refine sd E (o_lda _ Tryz.isAgg40 Tryz.sizeOf40 (E.ev rfl) (by rw [List.length_map]; exact hes) hc) rfl rfl rfl fun a E => ?_
      refine shN E (o_stA (k := .u64) (ys := D.lasts[i.toNat]'(by omega)) Tryz.sizeOf40 o1 (E.ev rfl) (E.ev rfl) (List.length_replicate ..) hes) rfl rfl ?_
      rintro _ s5 ⟨o5, t5⟩
      refine sd E (o_as (E.ev rfl)) rfl rfl rfl fun a E => ?_
      refine GL_nil ?_
      refine tgn ?_
      refine G_ret ?_
      have e1 : rdD D i = D.lasts[i.toNat]'(by omega) := by unfold rdD; rw [hx, List.getElem?_eq_getElem (by omega)]; rfl
      rw [e1]
      exact fin2 E rfl (rv_cellA rfl Tryz.isAgg40 Tryz.sizeOf40 hes o5.cell) rfl ⟨T4.step hk t5 (by intro t h; subst h; exact .inr (Nat.le_refl _)), rfl, hes⟩
end Go.Proofs.YtdkfdmalbbfbmaaGreat
