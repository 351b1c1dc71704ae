/- An element of a row of one's own is written. -/
import Derived.Test.YtdkfdmalbbfbmaaC5
namespace Go.Proofs.Ytdkfdmalbbfbmaa
open Go Go.Maps

section
variable {α : Type} {K : Kd α} {P : Program} {s s' : St} {κ : Tg} {ρ : Operand → Value} {t : Nat} {pos : String} {af : Array Edge} {g : Option (Nat × Bool)} {x y : Operand} {T T' e B b o : Nat} {u v : Value} {q : α} {xs : List α} {i : Int}
theorem Encs.set : ∀ {xs : List α} {cs es : List Value} {i : Nat} {q : α}, Encs K s xs cs → K.R s es q → i < xs.length → Encs K s (xs.set i q) (cs.take (i * K.sz) ++ es ++ cs.drop (i * K.sz + es.length))
  | [], _, _, _, _, _, _, hi => by simp at hi
  | x :: xs, cs, es, 0, q, h, hq, _ => by
    obtain ⟨e, r, rfl, h1, h2⟩ := h
    refine ⟨es, r, ?_, hq, h2⟩
    have : e.length = es.length := (K.len h1).trans (K.len hq).symm
    simp only [Nat.zero_mul, List.take_zero, List.nil_append, Nat.zero_add]
    rw [← this, List.drop_left]
  | x :: xs, cs, es, i + 1, q, h, hq, hi => by
    obtain ⟨e, r, rfl, h1, h2⟩ := h
    have hl := K.len h1
    have := h2.set (i := i) hq (by simpa using hi)
    refine ⟨e, _, ?_, h1, this⟩
    have e1 : (i + 1) * K.sz = e.length + i * K.sz := by rw [hl, Nat.add_mul]; omega
    rw [e1, List.take_length_add_append]
    have e2 : e.length + i * K.sz + es.length = e.length + (i * K.sz + es.length) := by omega
    rw [e2, List.drop_length_add_append]
    simp
/-- The element i of a slice of one's own is written, in place. -/
theorem o_ste (hz : ∀ w, (sizeOf T).run P w = .ok K.sz w) (hb : Bd κ K e B s v xs) (hi : IxTo v i xs.length K.sz b o) (hx : ρ x = .pointer (some ⟨b, o, none⟩)) (hy : ρ y = u) (hu : ∀ s, K.R s u.cells.toList q) :
    Hv P ⟨none, .store T x y, t, pos, af, g⟩ ρ s fun _ s' => Bd κ K e B s' v (xs.set i.toNat q) ∧ Tr (· = κ) s s' := by
  obtain ⟨o0, c, rfl, rfl, h0, h1⟩ := hi
  obtain ⟨cs, ⟨hl, hh⟩, he, hm⟩ := hb
  rcases hh with ⟨hv, hn⟩ | ⟨gg, cap, cur, hv, hB, hh, hc, hcm, hsz, hxx⟩
  · cases hv
  injection hv with e1 e2 e3
  injection e1 with e1
  injection e1 with e4 e5
  subst e4; subst e5; subst e3
  have hq := hu s
  have hlen : u.cells.size = K.sz := by have := K.len hq; simpa using this
  have hin : i.toNat < xs.length := by omega
  have hfit : i.toNat * K.sz + u.cells.size ≤ xs.length * K.sz := by
    rw [hlen, ← Nat.succ_mul]; exact Nat.mul_le_mul_right _ hin
  have hcap : xs.length * K.sz ≤ cur.size := by rw [hsz]; exact Nat.mul_le_mul_right _ hc
  have hown : Own κ s b cur e := ⟨hm b rfl, hh⟩
  have hcl : cs.length = xs.length * K.sz := hl
  rw [Nat.zero_add] at hx
  have hus : u.cells.toList.length = K.sz := by simpa using hlen
  refine OpW.mono (o_st (P := P) (t := t) (pos := pos) (af := af) (g := g) (ρ := ρ) (x := x) (y := y) (v := u) (fun w => by rw [hz, hlen]) hown hx hy (by omega) (K.one hq) rfl) ?_
  rintro _ _ ⟨s1, rfl, h2, t2⟩
  refine ⟨s1, rfl, ⟨cs.take (i.toNat * K.sz) ++ u.cells.toList ++ cs.drop (i.toNat * K.sz + u.cells.toList.length), ⟨?_, .inr ⟨b, c, _, by simp, hB, h2.2, by simpa using hc, hcm, ?_, ?_⟩⟩, ?_, fun b' hb' => by cases hb'; exact h2.1⟩, t2⟩
  · simp only [List.length_append, List.length_take, List.length_drop, List.length_set, hcl, hus]; omega
  · simp only [List.size_toArray, List.length_append, List.length_take, List.length_drop, Array.length_toList, hlen]; omega
  · simp only [Array.length_toList, List.length_set]
    rw [List.toList_toArray, ← hxx]
    have hc2 : cur.toList.length = cur.size := by simp
    apply List.ext_getElem?
    intro j
    simp only [List.getElem?_take, List.getElem?_append, List.length_append, List.length_take, List.length_drop, Array.length_toList, List.getElem?_drop]
    split
    · rename_i hj
      repeat' split
      all_goals first | rfl | omega | (congr 1; omega)
    · rename_i hj
      repeat' split
      all_goals first | rfl | omega | (symm; apply List.getElem?_eq_none; simp; omega)
  · exact ((he.up t2.le).set (hu s1) hin)
end
end Go.Proofs.Ytdkfdmalbbfbmaa
