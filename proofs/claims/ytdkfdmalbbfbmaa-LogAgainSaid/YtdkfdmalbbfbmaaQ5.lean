/- Plain laws: devices, as the document tells them. -/
import Derived.Test.YtdkfdmalbbfbmaaQ4
import Derived.Test.YtdkfdmalbbfbmaaE3
namespace Go.Proofs.Ytdkfdmalbbfbmaa
open Go
set_option maxRecDepth 4000

def isS (s : Sec) : Prop := s.length = 8 ∧ ∀ x ∈ s, isW x
theorem isS_Z8 : isS Z8 := ⟨rfl, fun x hx => by have := List.eq_of_mem_replicate hx; subst this; exact ⟨by decide, by decide⟩⟩
structure Good (D : Disk) (n : Nat) : Prop where
  len : D.lasts.length = n
  wr : D.wr.length = n
  small : n ≤ 4096
  ls : ∀ s ∈ D.lasts, isS s
  ws : ∀ i s, wAt D.wr i = some s → isS s
def absD (D : Disk) : RDisk := ⟨D.lasts, (List.range D.lasts.length).map fun (i : Nat) => rdD D (i : Int), D.wr.map (·.isSome)⟩
def wrX (X : RDisk) (i : Nat) (s : Sec) : RDisk := ⟨X.Lasts, X.Read.set i s, X.Dirty.set i true⟩
def syX (X : RDisk) : RDisk := ⟨X.Read, X.Read, List.replicate X.Dirty.length false⟩

section
variable {D : Disk} {n : Nat}
theorem rd_isS (h : Good D n) {i : Nat} (hi : i < n) : isS (rdD D (i : Int)) := by
  unfold rdD
  cases hw : wAt D.wr (i : Int) with
  | some s => exact h.ws _ _ hw
  | none =>
    simp only [Option.getD_none, Int.toNat_natCast]
    rw [List.getElem?_eq_getElem (by rw [h.len]; exact hi)]
    exact h.ls _ (List.getElem_mem _)
theorem abs_len (h : Good D n) : (absD D).Lasts.length = n ∧ (absD D).Read.length = n ∧ (absD D).Dirty.length = n := by
  simp [absD, h.len, h.wr]
theorem abs_read (h : Good D n) {i : Nat} (hi : i < n) : (absD D).Read[i]? = some (rdD D (i : Int)) := by
  simp [absD, h.len, hi]
theorem abs_isS (h : Good D n) : ∀ s ∈ (absD D).Read, isS s := by
  intro s hs
  simp only [absD, List.mem_map, List.mem_range, h.len] at hs
  obtain ⟨i, hi, rfl⟩ := hs
  exact rd_isS h hi
theorem there_t (h : Good D n) {i : Nat} (hi : i < n) : there D (i : Int) = true := by
  unfold there
  simp [h.len, hi]
theorem read_eq (h : Good D n) {i : Nat} (hi : i < n) : m_14 D (i : Int) = some (rdD D (i : Int), 0) := by
  unfold m_14
  rw [there_t h hi]; rfl
theorem wAt_nat (wr : List (Option Sec)) (i : Nat) : wAt wr (i : Int) = (wr[i]?).join := by
  unfold wAt
  rw [if_pos (by omega), Int.toNat_natCast]
theorem write_eq (h : Good D n) {i : Nat} (hi : i < n) {s : Sec} (hs : isS s) : ∃ D', m_60 D (i : Int) s = some (D', 0) ∧ Good D' n ∧ absD D' = wrX (absD D) i s := by
  have e : D.wr.set (i : Int).toNat (some s) = D.wr.set i (some s) := rfl
  refine ⟨{ D with wr := D.wr.set i (some s) }, ?_, ⟨h.len, by simpa using h.wr, h.small, h.ls, fun j t ht => ?_⟩, ?_⟩
  · unfold m_60
    rw [there_t h hi]; rfl
  · have := wAt_set (wr := D.wr) (i := (i : Int)) (by omega) (by rw [h.wr]; omega) (some s) j
    rw [e] at this
    simp only at ht
    rw [this] at ht
    split at ht
    · cases ht; exact hs
    · exact h.ws _ _ ht
  · unfold absD wrX
    simp only [RDisk.mk.injEq, true_and]
    constructor
    · apply List.ext_getElem?
      intro j
      rw [List.getElem?_set]
      by_cases hj : j < n
      · have hj2 : j < D.lasts.length := by rw [h.len]; exact hj
        simp only [List.getElem?_map, List.getElem?_range, hj2, List.length_map, List.length_range, Option.map_some]
        have := wAt_set (wr := D.wr) (i := (i : Int)) (by omega) (by rw [h.wr]; omega) (some s) (j : Int)
        rw [e] at this
        unfold rdD
        simp only [this]
        by_cases hij : i = j
        · subst hij
          simp [h.len, hi]
        · rw [if_neg (by omega), if_neg hij]
      · have hj2 : ¬ j < D.lasts.length := by rw [h.len]; exact hj
        have hij : ¬ i = j := by omega
        simp [hj2, hij]
    · rw [List.map_set]; rfl

/-- What lasts of what was written, by flags. -/
def lastL (wr : List (Option Sec)) (l : List Int) (bs : Nat → Bool) (ls : List Sec) : Nat → List Sec
  | 0 => ls
  | j + 1 => bif bs j then (lastL wr l bs ls j).set ((l[j]?).getD 0).toNat ((wAt wr ((l[j]?).getD 0)).getD Z8) else lastL wr l bs ls j
theorem lastL_len (wr : List (Option Sec)) (l : List Int) (bs : Nat → Bool) (ls : List Sec) : ∀ j, (lastL wr l bs ls j).length = ls.length
  | 0 => rfl
  | j + 1 => by
    unfold lastL
    cases bs j <;> simp [lastL_len wr l bs ls j]
theorem last_run {σ : Type} (c : σ → Int → Option (σ × Bool)) (U : Nat → σ) (bs : Nat → Bool) (hs : (dirty D.wr).length < 4294967296)
    (hc : ∀ j (hj : j < (dirty D.wr).length), c (U j) (dirty D.wr)[j] = some (U (j + 1), bs j)) :
    m_49 c D (U 0) = some (⟨lastL D.wr (dirty D.wr) bs D.lasts (dirty D.wr).length, List.replicate D.wr.length none⟩, U (dirty D.wr).length) := by
  unfold m_49
  have key : loopO (m_49b c D.wr (dirty D.wr)) (0, D.lasts, U 0) = some (lastL D.wr (dirty D.wr) bs D.lasts (dirty D.wr).length, U (dirty D.wr).length) := by
    refine loopO_count (f := m_49b c D.wr (dirty D.wr)) (fun j => ((j : Int), lastL D.wr (dirty D.wr) bs D.lasts j, U j)) (dirty D.wr).length (fun j hj => ?_) ?_
    · have h1 : decide ((j : Int) < ((dirty D.wr).length : Int)) = true := by simp; omega
      have e2 : IntKind.wrap .i64 ((j : Int) + 1) = ((j + 1 : Nat) : Int) := by rw [wi64 (by omega) (by omega)]; rfl
      dsimp only [m_49b]
      rw [h1, gt_eq hj]
      simp only [cond_true, ob_s, hc j hj, e2]
      have e3 : (dirty D.wr)[j]? = some (dirty D.wr)[j] := List.getElem?_eq_getElem hj
      rw [lastL, e3]
      rfl
    · have h1 : decide (((dirty D.wr).length : Int) < ((dirty D.wr).length : Int)) = false := by simp
      dsimp only [m_49b]
      rw [h1]; rfl
  rw [key]; rfl
theorem lastL_get (wr : List (Option Sec)) (l : List Int) (bs : Nat → Bool) (ls : List Sec) (hl : ∀ x ∈ l, 0 ≤ x) (p : Nat) (hp : p < ls.length) : ∀ k, k ≤ l.length →
    (lastL wr l bs ls k)[p]? = if ∃ q, q < k ∧ l[q]? = some (p : Int) ∧ bs q = true then some ((wAt wr (p : Int)).getD Z8) else ls[p]?
  | 0, _ => by simp [lastL]
  | k + 1, hk => by
    have ih := lastL_get wr l bs ls hl p hp k (by omega)
    have hk' : k < l.length := by omega
    have e3 : l[k]? = some l[k] := List.getElem?_eq_getElem hk'
    have h0 : 0 ≤ l[k] := hl _ (List.getElem_mem hk')
    unfold lastL
    rw [e3]
    simp only [Option.getD_some]
    cases hb : bs k with
    | false =>
      simp only [cond_false, ih]
      by_cases hq : ∃ q, q < k ∧ l[q]? = some (p : Int) ∧ bs q = true
      · obtain ⟨q, h1, h2⟩ := hq
        rw [if_pos ⟨q, h1, h2⟩, if_pos ⟨q, by omega, h2⟩]
      · rw [if_neg hq, if_neg]
        rintro ⟨q, h1, h2, h3⟩
        by_cases hqk : q = k
        · subst hqk; rw [hb] at h3; cases h3
        · exact hq ⟨q, by omega, h2, h3⟩
    | true =>
      simp only [cond_true]
      rw [List.getElem?_set]
      by_cases hpk : l[k] = (p : Int)
      · rw [if_pos (by rw [hpk]; simp), if_pos (by rw [lastL_len, hpk]; simpa using hp), if_pos ⟨k, by omega, by rw [e3, hpk], hb⟩, hpk]
      · rw [if_neg (by omega), ih]
        by_cases hq : ∃ q, q < k ∧ l[q]? = some (p : Int) ∧ bs q = true
        · obtain ⟨q, h1, h2⟩ := hq
          rw [if_pos ⟨q, h1, h2⟩, if_pos ⟨q, by omega, h2⟩]
        · rw [if_neg hq, if_neg]
          rintro ⟨q, h1, h2, h3⟩
          by_cases hqk : q = k
          · subst hqk; rw [e3] at h2; exact hpk (Option.some.inj h2)
          · exact hq ⟨q, by omega, h2, h3⟩
theorem dirty_nonneg {wr : List (Option Sec)} : ∀ x ∈ dirty wr, 0 ≤ x := fun x hx => (wAt_lt (mem_dirty.1 hx)).1
theorem dirty_le (wr : List (Option Sec)) : (dirty wr).length ≤ wr.length := by
  unfold dirty
  rw [List.length_map]
  exact Nat.le_trans (List.length_filter_le _ _) (by simp)
theorem good_last (h : Good D n) {ls : List Sec} (hl : ls.length = n) (hs : ∀ s ∈ ls, isS s) : Good ⟨ls, List.replicate D.wr.length none⟩ n :=
  ⟨hl, by simpa using h.wr, h.small, hs, fun i s hw => by rw [wAt_none] at hw; cases hw⟩
theorem abs_clean {ls : List Sec} {m : Nat} : absD ⟨ls, List.replicate m none⟩ = ⟨ls, ls, List.replicate m false⟩ := by
  unfold absD
  simp only [RDisk.mk.injEq, true_and]
  constructor
  · apply List.ext_getElem?
    intro j
    by_cases hj : j < ls.length
    · simp only [List.getElem?_map, List.getElem?_range, hj, Option.map_some]
      unfold rdD
      simp only [wAt_none, Option.getD_none, Int.toNat_natCast, List.getElem?_eq_getElem hj, Option.getD_some]
    · simp [hj]
  · simp
theorem sync_eq (h : Good D n) : ∃ D', m_51 D = some D' ∧ Good D' n ∧ absD D' = syX (absD D) := by
  have hr := last_run (D := D) (fun (_ : Unit) _ => some ((), true)) (fun _ => ()) (fun _ => true) (by have := dirty_le D.wr; have := h.wr; have := h.small; omega) (fun j hj => rfl)
  have hlen := lastL_len D.wr (dirty D.wr) (fun _ => true) D.lasts (dirty D.wr).length
  have heq : lastL D.wr (dirty D.wr) (fun _ => true) D.lasts (dirty D.wr).length = (absD D).Read := by
    apply List.ext_getElem?
    intro p
    by_cases hp : p < n
    · rw [lastL_get D.wr _ _ _ dirty_nonneg p (by rw [h.len]; exact hp) _ (Nat.le_refl _), abs_read h hp]
      unfold rdD
      by_cases hd : (p : Int) ∈ dirty D.wr
      · obtain ⟨q, hq⟩ := List.getElem?_of_mem hd
        have hq2 := (List.getElem?_eq_some_iff.1 hq).1
        rw [if_pos ⟨q, hq2, hq, rfl⟩]
        obtain ⟨s, hs⟩ := Option.isSome_iff_exists.1 (mem_dirty.1 hd)
        rw [hs]; rfl
      · rw [if_neg]
        · have : wAt D.wr (p : Int) = none := by
            cases hw : wAt D.wr (p : Int) with
            | none => rfl
            | some s => exact absurd (mem_dirty.2 (by rw [hw]; rfl)) hd
          rw [this]
          simp only [Option.getD_none, Int.toNat_natCast]
          rw [List.getElem?_eq_getElem (by rw [h.len]; exact hp)]; rfl
        · rintro ⟨q, _, hq, _⟩
          exact hd (List.mem_of_getElem? hq)
    · rw [List.getElem?_eq_none (by rw [hlen, h.len]; omega), List.getElem?_eq_none (by rw [(abs_len h).2.1]; omega)]
  refine ⟨_, by unfold m_51; rw [hr]; rfl, good_last h (by rw [hlen, h.len]) (by rw [heq]; exact abs_isS h), ?_⟩
  rw [abs_clean, heq]
  unfold syX
  rw [(abs_len h).2.2, h.wr]
theorem new_eq {n : Nat} (h1 : 1 ≤ n) (h2 : n ≤ 4096) : ∃ D, m_8 (n : Int) = some D ∧ Good D n ∧ absD D = ⟨List.replicate n Z8, List.replicate n Z8, List.replicate n false⟩ := by
  refine ⟨⟨List.replicate n Z8, List.replicate n none⟩, ?_, ⟨by simp, by simp, h2, fun s hs => ?_, fun i s hw => ?_⟩, abs_clean⟩
  · unfold m_8
    have e1 : decide ((n : Int) < 1) = false := by simp; omega
    have e2 : decide ((n : Int) > 4096) = false := by simp; omega
    rw [e1, e2]; rfl
  · rw [List.eq_of_mem_replicate hs]; exact isS_Z8
  · rw [wAt_none] at hw; cases hw
theorem words_isW {l : List Sec} (h : ∀ s ∈ l, isS s) : ∀ x ∈ l.flatten, isW x := by
  intro x hx
  obtain ⟨s, hs, hx⟩ := List.mem_flatten.1 hx
  exact (h s hs).2 x hx
theorem words_len {l : List Sec} (h : ∀ s ∈ l, isS s) : l.flatten.length = 8 * l.length := by
  induction l with
  | nil => rfl
  | cons s l ih =>
    rw [List.flatten_cons, List.length_append, ih (fun t ht => h t (List.mem_cons_of_mem _ ht)), (h s List.mem_cons_self).1, List.length_cons]; omega
theorem words_eq (h : Good D n) {f k : Nat} (hf : f + k ≤ n) : mq_33 D (f : Int) (k : Int) = some ((((absD D).Read.drop f).take k).flatten, 0) := by
  unfold mq_33 m_33
  have hsm := h.small
  have hall : ∀ i, ∀ s ∈ ((absD D).Read.drop f).take i, isS s := fun i s hs => abs_isS h s (List.mem_of_mem_drop (List.mem_of_mem_take hs))
  have key : loopO (m_33b D (f : Int) (k : Int)) ([], 0) = some (((absD D).Read.drop f).take k).flatten := by
    refine loopO_count (f := m_33b D (f : Int) (k : Int)) (fun i => ((((absD D).Read.drop f).take i).flatten, (i : Int))) k (fun i hi => ?_) ?_
    · have h1 : decide ((i : Int) < (k : Int)) = true := by simp; omega
      have e1 : IntKind.wrap .i64 ((f : Int) + (i : Int)) = ((f + i : Nat) : Int) := by rw [wi64 (by omega) (by omega)]; omega
      have e2 : IntKind.wrap .i64 ((i : Int) + 1) = ((i + 1 : Nat) : Int) := by rw [wi64 (by omega) (by omega)]; rfl
      dsimp only [m_33b]
      rw [h1, e1, read_eq h (show f + i < n by omega)]
      simp only [cond_true, ob_s]
      have hl : (((absD D).Read.drop f).take i).flatten.length = 8 * i := by
        rw [words_len (hall i), List.length_take, List.length_drop, (abs_len h).2.1]; omega
      have h8 := (rd_isS h (show f + i < n by omega)).1
      rw [show ((0 : Int) != 0) = false from rfl]
      simp only [cond_false]
      rw [ap_eq (by omega)]
      simp only [ob_s, e2]
      have hlt : i < ((absD D).Read.drop f).length := by rw [List.length_drop, (abs_len h).2.1]; omega
      rw [List.take_succ_eq_append_getElem hlt]
      have hg : ((absD D).Read.drop f)[i] = rdD D ((f + i : Nat) : Int) := by
        have := abs_read h (show f + i < n by omega)
        rw [List.getElem_drop]
        have h3 := List.getElem?_eq_getElem (l := (absD D).Read) (i := f + i) (by rw [(abs_len h).2.1]; omega)
        rw [h3] at this
        exact Option.some.inj this
      rw [hg]
      simp
    · have h1 : decide ((k : Int) < (k : Int)) = false := by simp
      dsimp only [m_33b]
      rw [h1]; rfl
  rw [key]; rfl
end
end Go.Proofs.Ytdkfdmalbbfbmaa
