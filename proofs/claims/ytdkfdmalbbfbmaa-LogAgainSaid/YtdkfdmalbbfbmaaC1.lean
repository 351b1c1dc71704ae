/- Maps from numbers to sectors. -/
import Derived.Test.YtdkfdmalbbfbmaaB8
import Derived.Test.YtdkfdmalbbfbmaaC0
import Derived.Maps.OwnSet
import Derived.Lib.SlKeysI
import Derived.Carry
namespace Go.Proofs.Ytdkfdmalbbfbmaa
open Go Go.Maps

abbrev Sec := List Int
def dA (xs : Sec) : DataW Unit := .agg (xs.map fun x => .lit (.int .u64 x))
theorem dA_inj {xs ys : Sec} (h : dA xs = dA ys) : xs = ys := by
  unfold dA at h
  injection h with h
  induction xs generalizing ys with
  | nil => cases ys with | nil => rfl | cons => simp at h
  | cons x xs ih => cases ys with
    | nil => simp at h
    | cons y ys => simp at h; rw [h.1, ih h.2]
theorem mapInt_inj {k : IntKind} : ∀ {xs ys : List Int}, xs.map (Value.int k) = ys.map (Value.int k) → xs = ys
  | [], [], _ => rfl
  | [], _ :: _, h => by simp at h
  | _ :: _, [], h => by simp at h
  | x :: xs, y :: ys, h => by
    simp only [List.map_cons, List.cons.injEq, Value.int.injEq, true_and] at h
    rw [h.1, mapInt_inj h.2]
theorem eA_inj {k : IntKind} {xs ys : List Int} (h : eA k xs = eA k ys) : xs = ys := by
  unfold eA cA at h
  injection h with h
  exact mapInt_inj (congrArg Array.toList h)
open Classical in
/-- How a sector's value reads. -/
noncomputable def rA (v : Value) : Option (DataW Unit × List MemPlace) := if h : ∃ xs : Sec, v = eA .u64 xs ∧ xs.length = 8 then some (dA h.choose, []) else none
theorem rA_e {xs : Sec} (h : xs.length = 8) : rA (eA .u64 xs) = some (dA xs, []) := by
  have hx : ∃ ys : Sec, eA .u64 xs = eA .u64 ys ∧ ys.length = 8 := ⟨xs, rfl, h⟩
  unfold rA
  rw [dif_pos hx, ← eA_inj hx.choose_spec.1]
theorem rA_inv {v : Value} {d : DataW Unit} {ps : List MemPlace} (h : rA v = some (d, ps)) : ∃ xs : Sec, v = eA .u64 xs ∧ xs.length = 8 ∧ d = dA xs := by
  unfold rA at h
  split at h
  · rename_i hx
    injection h with h
    injection h with h1 h2
    exact ⟨_, hx.choose_spec.1, hx.choose_spec.2, h1.symm⟩
  · cases h

def wAt (wr : List (Option Sec)) (i : Int) : Option Sec := if 0 ≤ i then (wr[i.toNat]?).join else none
theorem wAt_lt {wr : List (Option Sec)} {i : Int} (h : (wAt wr i).isSome = true) : 0 ≤ i ∧ i.toNat < wr.length := by
  unfold wAt at h
  split at h
  · rename_i h0
    refine ⟨h0, ?_⟩
    cases hq : wr[i.toNat]? with
    | none => simp [hq] at h
    | some x => exact (List.getElem?_eq_some_iff.1 hq).1
  · cases h
structure MapR (D : DataW Unit) (wr : List (Option Sec)) : Prop where
  hs : ∀ i : Int, Maps.has D (.int .i64 i) = (wAt wr i).isSome
  val : ∀ i xs, wAt wr i = some xs → xs.length = 8 ∧ ∀ z, D.atKey (.int .i64 i) z = dA xs

/-- The block mb is k's own, a map of these. -/
def MapA (k : Tg) (s : St) (mb : Nat) (wr : List (Option Sec)) : Prop :=
  s.tag mb = some k ∧ wr.length ≤ 4096 ∧ ∃ D, s.w.ownsMap Try.prog 3 rA mb 4096 D ∧ MapR D wr

theorem keyed : Keyed Try.prog 3 := int_keyed Try.underlying3
theorem wf64 {i : Int} (h0 : 0 ≤ i) (h1 : i < 4096) : (Lit.int .i64 i).wf = true := by
  simp [Lit.wf, IntKind.min, IntKind.max, IntKind.signed, IntKind.bits]; omega
theorem key64 {i : Int} (h0 : 0 ≤ i) (h1 : i < 4096) : keyOf Try.prog 3 (.int .i64 i) = some (.int .i64 i) := keyOf_int_mk Try.underlying3 (wf64 h0 h1)

theorem MapA.tr {k : Tg} {s s' : St} {mb : Nat} {wr : List (Option Sec)} {p : Tg → Prop} (h : MapA k s mb wr) (t : Tr p s s') (hp : ¬ p k) : MapA k s' mb wr := by
  obtain ⟨h1, h2, D, ⟨es, clock, hb, r⟩, h4⟩ := h
  obtain ⟨t1, t2⟩ := t.own mb k h1 hp
  exact ⟨t1, h2, D, ⟨es, clock, t2.trans hb, r⟩, h4⟩
theorem MapA.trN {k : Tg} {s s' : St} {mb : Nat} {wr : List (Option Sec)} (h : MapA k s mb wr) (t : Tr No s s') : MapA k s' mb wr := h.tr t fun h => h
theorem MapA.lt {k : Tg} {s : St} {mb : Nat} {wr : List (Option Sec)} (h : MapA k s mb wr) : mb < s.w.heap.size := let ⟨_, _, _, h, _⟩ := h; h.lt

theorem nodup_le : ∀ (n : Nat) (l : List Int), l.Nodup → (∀ x ∈ l, 0 ≤ x ∧ x < n) → l.length ≤ n
  | 0, l, _, h => by
    cases l with
    | nil => simp
    | cons x l => have := h x List.mem_cons_self; omega
  | n + 1, l, hn, h => by
    by_cases hm : (n : Int) ∈ l
    · have h1 := nodup_le n (l.erase n) (hn.erase _) (fun x hx => by
        have h2 := (hn.mem_erase_iff).1 hx
        have := h x h2.2
        have := h2.1
        omega)
      rw [List.length_erase_of_mem hm] at h1
      omega
    · have := nodup_le n l hn (fun x hx => by
        have h2 := h x hx
        have : x ≠ n := fun e => hm (e ▸ hx)
        omega)
      omega

/-- No more entries than there are places. -/
theorem MapR.tight {w : World} {mb nn : Nat} {D : DataW Unit} {wr : List (Option Sec)} (h : w.ownsMap Try.prog 3 rA mb nn D) (hR : MapR D wr) : w.ownsMap Try.prog 3 rA mb wr.length D := by
  have hk := h.keysOf
  have ht := h.tidy keyed
  obtain ⟨es, hes, hkeys⟩ := hk
  obtain ⟨es', hes', hpw⟩ := ht
  rw [hes] at hes'
  injection hes' with e
  subst e
  have hsz : es.length ≤ wr.length := by
    have hi : ∀ p ∈ es, ∃ x, p.1 = .int .i64 x := fun p hp => by
      obtain ⟨v, hv⟩ := hkeys p hp
      obtain ⟨x, _, hx, _⟩ := Maps.keyOf_i64 Try.underlying3 hv
      exact ⟨x, hx⟩
    have := nodup_le wr.length (es.map fun p => intOf p.1) (List.pairwise_map.2 (hpw.imp_of_mem fun {p q} hp hq hne e => hne (by
        obtain ⟨a, ha⟩ := hi p hp
        obtain ⟨b, hb⟩ := hi q hq
        rw [ha, hb] at e ⊢
        exact congrArg _ e))) (fun x hx => by
        obtain ⟨p, hp, rfl⟩ := List.mem_map.1 hx
        obtain ⟨a, ha⟩ := hi p hp
        have h1 := hR.hs a
        have h2 : Maps.has D (.int .i64 a) = true := by
          rw [hes, has_eq, List.any_eq_true]
          exact ⟨p, hp, by rw [ha]; simp [Lit.sameKey]⟩
        rw [h2] at h1
        have := wAt_lt h1.symm
        rw [ha]
        simp only [intOf]
        omega)
    simpa using this
  have h2 := h.size_le
  obtain ⟨es0, clock, hb, F, hs, hD⟩ := h
  refine ⟨es0, clock, hb, F, ?_, hD⟩
  have e1 : es.length = es0.size := by
    have := congrArg Maps.size (hes.symm.trans hD)
    simpa [Maps.size, length_sorted] using this
  omega
end Go.Proofs.Ytdkfdmalbbfbmaa
