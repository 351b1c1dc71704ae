/- Plain laws: devices, as the document tells them. -/
import Derived.Test.YtdkfdmalbbfbmaaGreatMWL16
import Derived.Test.YtdkfdmalbbfbmaaGreatMWL17
/- Plain laws: devices, as the document tells them. -/
namespace Go.Proofs.YtdkfdmalbbfbmaaGreat
open Go
set_option maxRecDepth 4000

def isS (s : Sec) : Prop := s.length = 8 ∧ ∀ x ∈ s, isW x
theorem isS_Z8 : isS Z8 := ⟨rfl, fun x hx => by have := List.eq_of_mem_replicate hx; subst this; exact ⟨by decide, by decide⟩⟩
structure Good (D : Disk) (n : Nat) : Prop where
  len : D.lasts.length = n
  wr : D.wr.length = n
  small : n ≤ 4096
  ls : ∀ s ∈ D.lasts, isS s
  ws : ∀ i s, wAt D.wr i = some s → isS s
def absD (D : Disk) : RDisk := ⟨D.lasts, (List.range D.lasts.length).map fun (i : Nat) => rdD D (i : Int), D.wr.map (·.isSome)⟩
def wrX (X : RDisk) (i : Nat) (s : Sec) : RDisk := ⟨X.Lasts, X.Read.set i s, X.Dirty.set i true⟩
def syX (X : RDisk) : RDisk := ⟨X.Read, X.Read, List.replicate X.Dirty.length false⟩

section
variable {D : Disk} {n : Nat}
theorem rd_isS (h : Good D n) {i : Nat} (hi : i < n) : isS (rdD D (i : Int)) := by
  unfold rdD
  cases hw : wAt D.wr (i : Int) with
  | some s => exact h.ws _ _ hw
  | none =>
    simp only [Option.getD_none, Int.toNat_natCast]
    rw [List.getElem?_eq_getElem (by rw [h.len]; exact hi)]
    exact h.ls _ (List.getElem_mem _)
theorem abs_len (h : Good D n) : (absD D).Lasts.length = n ∧ (absD D).Read.length = n ∧ (absD D).Dirty.length = n := by
  simp [absD, h.len, h.wr]
theorem abs_read (h : Good D n) {i : Nat} (hi : i < n) : (absD D).Read[i]? = some (rdD D (i : Int)) := by
  simp [absD, h.len, hi]
theorem abs_isS (h : Good D n) : ∀ s ∈ (absD D).Read, isS s := by
  intro s hs
  simp only [absD, List.mem_map, List.mem_range, h.len] at hs
  obtain ⟨i, hi, rfl⟩ := hs
  exact rd_isS h hi
theorem there_t (h : Good D n) {i : Nat} (hi : i < n) : there D (i : Int) = true := by
  unfold there
  simp [h.len, hi]
theorem read_eq (h : Good D n) {i : Nat} (hi : i < n) : m_14 D (i : Int) = some (rdD D (i : Int), 0) := by
  unfold m_14
  rw [there_t h hi]; rfl
theorem wAt_nat (wr : List (Option Sec)) (i : Nat) : wAt wr (i : Int) = (wr[i]?).join := by
  unfold wAt
  rw [if_pos (by omega), Int.toNat_natCast]
theorem write_eq (h : Good D n) {i : Nat} (hi : i < n) {s : Sec} (hs : isS s) : ∃ D', m_60 D (i : Int) s = some (D', 0) ∧ Good D' n ∧ absD D' = wrX (absD D) i s := by
  have e : D.wr.set (i : Int).toNat (some s) = D.wr.set i (some s) := rfl
  refine ⟨{ D with wr := D.wr.set i (some s) }, ?_, ⟨h.len, by simpa using h.wr, h.small, h.ls, fun j t ht => ?_⟩, ?_⟩
  · unfold m_60
    rw [there_t h hi]; rfl
  · have := wAt_set (wr := D.wr) (i := (i : Int)) (by omega) (by rw [h.wr]; omega) (some s) j
    rw [e] at this
    simp only at ht
    rw [this] at ht
    split at ht
    · cases ht; exact hs
    · exact h.ws _ _ ht
  · unfold absD wrX
    simp only [RDisk.mk.injEq, true_and]
    constructor
    · apply List.ext_getElem?
      intro j
      rw [List.getElem?_set]
      by_cases hj : j < n
      · have hj2 : j < D.lasts.length := by rw [h.len]; exact hj
        simp only [List.getElem?_map, List.getElem?_range, hj2, List.length_map, List.length_range, Option.map_some]
        have := wAt_set (wr := D.wr) (i := (i : Int)) (by omega) (by rw [h.wr]; omega) (some s) (j : Int)
        rw [e] at this
        unfold rdD
        simp only [this]
        by_cases hij : i = j
        · subst hij
          simp [h.len, hi]
        · rw [if_neg (by omega), if_neg hij]
      · have hj2 : ¬ j < D.lasts.length := by rw [h.len]; exact hj
        have hij : ¬ i = j := by omega
        simp [hj2, hij]
    · rw [List.map_set]; rfl

/-- What lasts of what was written, by flags. -/
def lastL (wr : List (Option Sec)) (l : List Int) (bs : Nat → Bool) (ls : List Sec) : Nat → List Sec
  | 0 => ls
  | j + 1 => bif bs j then (lastL wr l bs ls j).set ((l[j]?).getD 0).toNat ((wAt wr ((l[j]?).getD 0)).getD Z8) else lastL wr l bs ls j
theorem lastL_len (wr : List (Option Sec)) (l : List Int) (bs : Nat → Bool) (ls : List Sec) : ∀ j, (lastL wr l bs ls j).length = ls.length
  | 0 => rfl
  | j + 1 => by
    unfold lastL
    cases bs j <;> simp [lastL_len wr l bs ls j]
theorem last_run {σ : Type} (c : σ → Int → Option (σ × Bool)) (U : Nat → σ) (bs : Nat → Bool) (hs : (dirty D.wr).length < 4294967296)
    (hc : ∀ j (hj : j < (dirty D.wr).length), c (U j) (dirty D.wr)[j] = some (U (j + 1), bs j)) :
    m_49 c D (U 0) = some (⟨lastL D.wr (dirty D.wr) bs D.lasts (dirty D.wr).length, List.replicate D.wr.length none⟩, U (dirty D.wr).length) := by
  unfold m_49
  have key : loopO (m_49b c D.wr (dirty D.wr)) (0, D.lasts, U 0) = some (lastL D.wr (dirty D.wr) bs D.lasts (dirty D.wr).length, U (dirty D.wr).length) := by
    refine loopO_count (f := m_49b c D.wr (dirty D.wr)) (fun j => ((j : Int), lastL D.wr (dirty D.wr) bs D.lasts j, U j)) (dirty D.wr).length (fun j hj => ?_) ?_
    · have h1 : decide ((j : Int) < ((dirty D.wr).length : Int)) = true := by simp; omega
      have e2 : IntKind.wrap .i64 ((j : Int) + 1) = ((j + 1 : Nat) : Int) := by rw [wi64 (by omega) (by omega)]; rfl
      dsimp only [m_49b]
      rw [h1, gt_eq hj]
      simp only [cond_true, ob_s, hc j hj, e2]
      have e3 : (dirty D.wr)[j]? = some (dirty D.wr)[j] := List.getElem?_eq_getElem hj
      rw [lastL, e3]
      rfl
    · have h1 : decide (((dirty D.wr).length : Int) < ((dirty D.wr).length : Int)) = false := by simp
      dsimp only [m_49b]
      rw [h1]; rfl
  rw [key]; rfl
theorem lastL_get (wr : List (Option Sec)) (l : List Int) (bs : Nat → Bool) (ls : List Sec) (hl : ∀ x ∈ l, 0 ≤ x) (p : Nat) (hp : p < ls.length) : ∀ k, k ≤ l.length →
    (lastL wr l bs ls k)[p]? = if ∃ q, q < k ∧ l[q]? = some (p : Int) ∧ bs q = true then some ((wAt wr (p : Int)).getD Z8) else ls[p]?
  | 0, _ => by simp [lastL]
  | k + 1, hk => by
    have ih := lastL_get wr l bs ls hl p hp k (by omega)
    have hk' : k < l.length := by omega
    have e3 : l[k]? = some l[k] := List.getElem?_eq_getElem hk'
    have h0 : 0 ≤ l[k] := hl _ (List.getElem_mem hk')
    unfold lastL
    rw [e3]
    simp only [Option.getD_some]
    cases hb : bs k with
    | false =>
      simp only [cond_false, ih]
      by_cases hq : ∃ q, q < k ∧ l[q]? = some (p : Int) ∧ bs q = true
      · obtain ⟨q, h1, h2⟩ := hq
        rw [if_pos ⟨q, h1, h2⟩, if_pos ⟨q, by omega, h2⟩]
      · rw [if_neg hq, if_neg]
        rintro ⟨q, h1, h2, h3⟩
        by_cases hqk : q = k
        · subst hqk; rw [hb] at h3; cases h3
        · exact hq ⟨q, by omega, h2, h3⟩
    | true =>
      simp only [cond_true]
      rw [List.getElem?_set]
      by_cases hpk : l[k] = (p : Int)
      · rw [if_pos (by rw [hpk]; simp), if_pos (by rw [lastL_len, hpk]; simpa using hp), if_pos ⟨k, by omega, by rw [e3, hpk], hb⟩, hpk]
      · rw [if_neg (by omega), ih]
        by_cases hq : ∃ q, q < k ∧ l[q]? = some (p : Int) ∧ bs q = true
        · obtain ⟨q, h1, h2⟩ := hq
          rw [if_pos ⟨q, h1, h2⟩, if_pos ⟨q, by omega, h2⟩]
        · rw [if_neg hq, if_neg]
          rintro ⟨q, h1, h2, h3⟩
          by_cases hqk : q = k
          · subst hqk; rw [e3] at h2; exact hpk (Option.some.inj h2)
          · exact hq ⟨q, by omega, h2, h3⟩
theorem dirty_nonneg {wr : List (Option Sec)} : ∀ x ∈ dirty wr, 0 ≤ x := fun x hx => (wAt_lt (mem_dirty.1 hx)).1
theorem dirty_le (wr : List (Option Sec)) : (dirty wr).length ≤ wr.length := by
  unfold dirty
  rw [List.length_map]
  exact Nat.le_trans (List.length_filter_le _ _) (by simp)
theorem good_last (h : Good D n) {ls : List Sec} (hl : ls.length = n) (hs : ∀ s ∈ ls, isS s) : Good ⟨ls, List.replicate D.wr.length none⟩ n :=
  ⟨hl, by simpa using h.wr, h.small, hs, fun i s hw => by rw [wAt_none] at hw; cases hw⟩
theorem abs_clean {ls : List Sec} {m : Nat} : absD ⟨ls, List.replicate m none⟩ = ⟨ls, ls, List.replicate m false⟩ := by
  unfold absD
  simp only [RDisk.mk.injEq, true_and]
  constructor
  · apply List.ext_getElem?
    intro j
    by_cases hj : j < ls.length
    · simp only [List.getElem?_map, List.getElem?_range, hj, Option.map_some]
      unfold rdD
      simp only [wAt_none, Option.getD_none, Int.toNat_natCast, List.getElem?_eq_getElem hj, Option.getD_some]
    · simp [hj]
  · simp
theorem sync_eq (h : Good D n) : ∃ D', m_51 D = some D' ∧ Good D' n ∧ absD D' = syX (absD D) := by
  have hr := last_run (D := D) (fun (_ : Unit) _ => some ((), true)) (fun _ => ()) (fun _ => true) (by have := dirty_le D.wr; have := h.wr; have := h.small; omega) (fun j hj => rfl)
  have hlen := lastL_len D.wr (dirty D.wr) (fun _ => true) D.lasts (dirty D.wr).length
  have heq : lastL D.wr (dirty D.wr) (fun _ => true) D.lasts (dirty D.wr).length = (absD D).Read := by
    apply List.ext_getElem?
    intro p
    by_cases hp : p < n
    · rw [lastL_get D.wr _ _ _ dirty_nonneg p (by rw [h.len]; exact hp) _ (Nat.le_refl _), abs_read h hp]
      unfold rdD
      by_cases hd : (p : Int) ∈ dirty D.wr
      · obtain ⟨q, hq⟩ := List.getElem?_of_mem hd
        have hq2 := (List.getElem?_eq_some_iff.1 hq).1
        rw [if_pos ⟨q, hq2, hq, rfl⟩]
        obtain ⟨s, hs⟩ := Option.isSome_iff_exists.1 (mem_dirty.1 hd)
        rw [hs]; rfl
      · rw [if_neg]
        · have : wAt D.wr (p : Int) = none := by
            cases hw : wAt D.wr (p : Int) with
            | none => rfl
            | some s => exact absurd (mem_dirty.2 (by rw [hw]; rfl)) hd
          rw [this]
          simp only [Option.getD_none, Int.toNat_natCast]
          rw [List.getElem?_eq_getElem (by rw [h.len]; exact hp)]; rfl
        · rintro ⟨q, _, hq, _⟩
          exact hd (List.mem_of_getElem? hq)
    · rw [List.getElem?_eq_none (by rw [hlen, h.len]; omega), List.getElem?_eq_none (by rw [(abs_len h).2.1]; omega)]
  refine ⟨_, by unfold m_51; rw [hr]; rfl, good_last h (by rw [hlen, h.len]) (by rw [heq]; exact abs_isS h), ?_⟩
  rw [abs_clean, heq]
  unfold syX
  rw [(abs_len h).2.2, h.wr]
theorem new_eq {n : Nat} (h1 : 1 ≤ n) (h2 : n ≤ 4096) : ∃ D, m_8 (n : Int) = some D ∧ Good D n ∧ absD D = ⟨List.replicate n Z8, List.replicate n Z8, List.replicate n false⟩ := by
  refine ⟨⟨List.replicate n Z8, List.replicate n none⟩, ?_, ⟨by simp, by simp, h2, fun s hs => ?_, fun i s hw => ?_⟩, abs_clean⟩
  · unfold m_8
    have e1 : decide ((n : Int) < 1) = false := by simp; omega
    have e2 : decide ((n : Int) > 4096) = false := by simp; omega
    rw [e1, e2]; rfl
  · rw [List.eq_of_mem_replicate hs]; exact isS_Z8
  · rw [wAt_none] at hw; cases hw
theorem words_isW {l : List Sec} (h : ∀ s ∈ l, isS s) : ∀ x ∈ l.flatten, isW x := by
  intro x hx
  obtain ⟨s, hs, hx⟩ := List.mem_flatten.1 hx
  exact (h s hs).2 x hx
theorem words_len {l : List Sec} (h : ∀ s ∈ l, isS s) : l.flatten.length = 8 * l.length := by
  induction l with
  | nil => rfl
  | cons s l ih =>
    rw [List.flatten_cons, List.length_append, ih (fun t ht => h t (List.mem_cons_of_mem _ ht)), (h s List.mem_cons_self).1, List.length_cons]; omega
theorem words_eq (h : Good D n) {f k : Nat} (hf : f + k ≤ n) : mq_33 D (f : Int) (k : Int) = some ((((absD D).Read.drop f).take k).flatten, 0) := by
  unfold mq_33 m_33
  have hsm := h.small
  have hall : ∀ i, ∀ s ∈ ((absD D).Read.drop f).take i, isS s := fun i s hs => abs_isS h s (List.mem_of_mem_drop (List.mem_of_mem_take hs))
  have key : loopO (m_33b D (f : Int) (k : Int)) ([], 0) = some (((absD D).Read.drop f).take k).flatten := by
    refine loopO_count (f := m_33b D (f : Int) (k : Int)) (fun i => ((((absD D).Read.drop f).take i).flatten, (i : Int))) k (fun i hi => ?_) ?_
    · have h1 : decide ((i : Int) < (k : Int)) = true := by simp; omega
      have e1 : IntKind.wrap .i64 ((f : Int) + (i : Int)) = ((f + i : Nat) : Int) := by rw [wi64 (by omega) (by omega)]; omega
      have e2 : IntKind.wrap .i64 ((i : Int) + 1) = ((i + 1 : Nat) : Int) := by rw [wi64 (by omega) (by omega)]; rfl
      dsimp only [m_33b]
      rw [h1, e1, read_eq h (show f + i < n by omega)]
      simp only [cond_true, ob_s]
      have hl : (((absD D).Read.drop f).take i).flatten.length = 8 * i := by
        rw [words_len (hall i), List.length_take, List.length_drop, (abs_len h).2.1]; omega
      have h8 := (rd_isS h (show f + i < n by omega)).1
      rw [show ((0 : Int) != 0) = false from rfl]
      simp only [cond_false]
      rw [ap_eq (by omega)]
      simp only [ob_s, e2]
      have hlt : i < ((absD D).Read.drop f).length := by rw [List.length_drop, (abs_len h).2.1]; omega
      rw [List.take_succ_eq_append_getElem hlt]
      have hg : ((absD D).Read.drop f)[i] = rdD D ((f + i : Nat) : Int) := by
        have := abs_read h (show f + i < n by omega)
        rw [List.getElem_drop]
        have h3 := List.getElem?_eq_getElem (l := (absD D).Read) (i := f + i) (by rw [(abs_len h).2.1]; omega)
        rw [h3] at this
        exact Option.some.inj this
      rw [hg]
      simp
    · have h1 : decide ((k : Int) < (k : Int)) = false := by simp
      dsimp only [m_33b]
      rw [h1]; rfl
  rw [key]; rfl
end
end Go.Proofs.YtdkfdmalbbfbmaaGreat

/- Plain laws: a log's sectors; clearing; writing. -/
namespace Go.Proofs.YtdkfdmalbbfbmaaGreat
open Go
set_option maxRecDepth 4000

/-- The sector i of words, with zeros behind them. -/
def secAt (ws : List Int) (i : Nat) : Sec := (List.range 8).map fun k => (ws[8 * i + k]?).getD 0
theorem secAt_isS {ws : List Int} (hw : ∀ x ∈ ws, isW x) (i : Nat) : isS (secAt ws i) := by
  refine ⟨by simp [secAt], fun x hx => ?_⟩
  simp only [secAt, List.mem_map] at hx
  obtain ⟨k, _, rfl⟩ := hx
  cases h : ws[8 * i + k]? with
  | none => exact ⟨by decide, by decide⟩
  | some y => exact hw y (List.mem_of_getElem? h)
theorem secAt_get (ws : List Int) (i k : Nat) (hk : k < 8) : (secAt ws i)[k]? = some ((ws[8 * i + k]?).getD 0) := by
  simp [secAt, hk]
theorem secAt_eq {s : Sec} {ws : List Int} {i : Nat} (hl : s.length = 8) (h : ∀ k, k < 8 → s[k]? = some ((ws[8 * i + k]?).getD 0)) : s = secAt ws i := by
  apply List.ext_getElem?
  intro k
  by_cases hk : k < 8
  · rw [h k hk, secAt_get ws i k hk]
  · rw [List.getElem?_eq_none (by omega), List.getElem?_eq_none (by simp [secAt]; omega)]
theorem sector_eq {L : LogM} {i : Nat} (hi : i < 4096) (hl : L.words.length < 4294967296) : m_64 L (i : Int) = some (secAt L.words i) := by
  unfold m_64
  have e1 : IntKind.wrap .i64 ((i : Int) * 8) = ((8 * i : Nat) : Int) := by rw [wi64 (by omega) (by omega)]; omega
  rw [e1]
  by_cases h : 8 * i < L.words.length
  · have h1 : decide (((8 * i : Nat) : Int) < (L.words.length : Int)) = true := by simp; omega
    rw [h1, sl_from (by omega)]
    simp only [cond_true, ob_s, Option.some.injEq]
    refine secAt_eq (cpy_len (Nat.zero_le _)) fun k hk => ?_
    unfold cpy
    simp only [Z8, List.take_zero, List.nil_append, List.length_replicate, Nat.sub_zero, Nat.zero_add, List.length_drop]
    rw [List.getElem?_append]
    simp only [List.length_take, List.length_drop]
    split
    · rename_i hlt
      rw [List.getElem?_take, if_pos hk, List.getElem?_drop, List.getElem?_eq_getElem (by omega)]; rfl
    · rename_i hge
      rw [List.getElem?_drop, List.getElem?_replicate, if_pos (by omega), List.getElem?_eq_none (l := L.words) (by omega)]; rfl
  · have h1 : decide (((8 * i : Nat) : Int) < (L.words.length : Int)) = false := by simp; omega
    rw [h1]
    simp only [cond_false, Option.some.injEq]
    refine secAt_eq rfl fun k hk => ?_
    rw [List.getElem?_eq_none (l := L.words) (by omega)]
    show (List.replicate 8 (0 : Int))[k]? = _
    rw [List.getElem?_replicate, if_pos hk]; rfl

theorem equal_65 {xs ys : List Int} (h : xs.length < 4294967296) : m_65 xs ys = some (decide (xs = ys)) := by
  unfold m_65
  by_cases hl : xs.length = ys.length
  · have e1 : ((xs.length : Int) != (ys.length : Int)) = false := by simp [hl]
    rw [e1]
    simp only [cond_false]
    have key : ∀ d i, xs.length - i = d → i ≤ xs.length → xs.take i = ys.take i → ob (loopO (m_65_1b xs ys) (false, (i : Int))) m_65_1k = some (decide (xs = ys)) := by
      intro d
      induction d with
      | zero =>
        intro i hd hi heq
        have hi' : i = xs.length := by omega
        subst hi'
        have hxy : xs = ys := by
          have h2 : ys.take xs.length = ys := by rw [hl, List.take_length]
          rw [List.take_length, h2] at heq; exact heq
        have h1 : decide ((xs.length : Int) < (xs.length : Int)) = false := by simp
        rw [loopO_eq]
        dsimp only [m_65_1b]
        rw [h1]
        simp [m_65_1k, hxy]
      | succ d ih =>
        intro i hd hi heq
        have hlt : i < xs.length := by omega
        have hlt2 : i < ys.length := by omega
        have h1 : decide ((i : Int) < (xs.length : Int)) = true := by simp; omega
        have e2 : IntKind.wrap .i64 ((i : Int) + 1) = ((i + 1 : Nat) : Int) := by rw [wi64 (by omega) (by omega)]; rfl
        rw [loopO_eq]
        dsimp only [m_65_1b]
        rw [h1, gt_eq hlt, gt_eq hlt2]
        simp only [cond_true, ob_s, e2]
        by_cases hxy : xs[i] = ys[i]
        · have hb : (xs[i] != ys[i]) = false := by simp [hxy]
          rw [hb]
          simp only [cond_false]
          exact ih (i + 1) (by omega) (by omega) (by rw [List.take_succ_eq_append_getElem hlt, List.take_succ_eq_append_getElem hlt2, heq, hxy])
        · have hb : (xs[i] != ys[i]) = true := by simp [hxy]
          rw [hb]
          simp only [cond_true, ob_s, m_65_1k, Option.some.injEq]
          have : ¬ xs = ys := fun e => by subst e; exact hxy rfl
          simp [this]
    exact key xs.length 0 (by omega) (by omega) rfl
  · have e1 : ((xs.length : Int) != (ys.length : Int)) = true := by simp; omega
    rw [e1]
    have : ¬ xs = ys := fun e => hl (by rw [e])
    simp [this]

/-- Clearing: sectors that are others are written; then, if there are such, a sync. -/
def clS (f : Nat) (ws : List Int) (a : Bool × RDisk) (i : Nat) : Bool × RDisk := if a.2.Read[f + i]? = some (secAt ws i) then a else (true, wrX a.2 (f + i) (secAt ws i))
def clX (X : RDisk) (f k : Nat) (ws : List Int) : RDisk :=
  let r := (List.range k).foldl (clS f ws) (false, X)
  if r.1 = true then syX r.2 else r.2
theorem clS_far (f : Nat) (ws : List Int) (X : RDisk) (p : Nat) : ∀ k, (p < f ∨ f + k ≤ p) → ((List.range k).foldl (clS f ws) (false, X)).2.Read[p]? = X.Read[p]?
  | 0, _ => rfl
  | k + 1, h => by
    rw [List.range_succ, List.foldl_append]
    simp only [List.foldl_cons, List.foldl_nil]
    unfold clS
    have ih := clS_far f ws X p k (by omega)
    unfold clS at ih
    split
    · exact ih
    · simp only [wrX]
      rw [List.getElem?_set_ne (by omega)]; exact ih
theorem chunk_eq {l : List Sec} (h : ∀ s ∈ l, isS s) : ∀ {i : Nat} {s : Sec}, l[i]? = some s → (l.flatten.take (8 * (i + 1))).drop (8 * i) = s := by
  induction l with
  | nil => intro i s hi; simp at hi
  | cons a l ih =>
    intro i s hi
    have ha := (h a List.mem_cons_self).1
    cases i with
    | zero =>
      simp at hi; subst hi
      simp [List.take_append, ha]
    | succ i =>
      have := ih (fun t ht => h t (List.mem_cons_of_mem _ ht)) (i := i) (s := s) (by simpa using hi)
      rw [List.flatten_cons, show 8 * (i + 1 + 1) = a.length + 8 * (i + 1) by omega, List.take_length_add_append, show 8 * (i + 1) = a.length + 8 * i by omega, List.drop_length_add_append]
      rw [show a.length + 8 * i = 8 * (i + 1) by omega]
      exact this
theorem clear_eq {D : Disk} {n : Nat} (h : Good D n) {L : LogM} {f k : Nat} (hf : L.from_ = (f : Int)) (hk : L.sectors = (k : Int)) (hfk : f + k ≤ n) (hw : ∀ x ∈ L.words, isW x) (hl : L.words.length < 4294967296) :
    ∃ D', m_35 L D (((absD D).Read.drop f).take k).flatten = some D' ∧ Good D' n ∧ absD D' = clX (absD D) f k L.words := by
  have hsm := h.small
  unfold m_35
  generalize hws : (((absD D).Read.drop f).take k).flatten = ws
  have hall : ∀ s ∈ ((absD D).Read.drop f).take k, isS s := fun s hs => abs_isS h s (List.mem_of_mem_drop (List.mem_of_mem_take hs))
  have hwl : ws.length = 8 * k := by
    rw [← hws, words_len hall, List.length_take, List.length_drop, (abs_len h).2.1]; omega
  have key : ∀ m, m ≤ k → ∃ D', loopO (m_35b L ws) (false, 0, D) = loopO (m_35b L ws) (((List.range m).foldl (clS f L.words) (false, absD D)).1, (m : Int), D') ∧ Good D' n ∧ absD D' = ((List.range m).foldl (clS f L.words) (false, absD D)).2 := by
    intro m
    induction m with
    | zero => intro _; exact ⟨D, rfl, h, rfl⟩
    | succ m ih =>
      intro hm
      obtain ⟨D', h1, h2, h3⟩ := ih (by omega)
      have hd : decide ((m : Int) < (k : Int)) = true := by simp; omega
      have e1 : IntKind.wrap .i64 ((m : Int) + 1) = ((m + 1 : Nat) : Int) := by rw [wi64 (by omega) (by omega)]; rfl
      have e2 : IntKind.wrap .i64 ((m : Int) * 8) = ((8 * m : Nat) : Int) := by rw [wi64 (by omega) (by omega)]; omega
      have e3 : IntKind.wrap .i64 (((m + 1 : Nat) : Int) * 8) = ((8 * (m + 1) : Nat) : Int) := by rw [wi64 (by omega) (by omega)]; omega
      have e4 : IntKind.wrap .i64 ((f : Int) + (m : Int)) = ((f + m : Nat) : Int) := by rw [wi64 (by omega) (by omega)]; omega
      have hfm : f + m < n := by omega
      have hr := abs_read h hfm
      have hfar := clS_far f L.words (absD D) (f + m) m (by omega)
      have hpart : (ws.take (8 * (m + 1))).drop (8 * m) = rdD D ((f + m : Nat) : Int) := by
        rw [← hws]
        refine chunk_eq hall (i := m) ?_
        rw [List.getElem?_take, if_pos (by omega), List.getElem?_drop]; exact hr
      have hstep : m_35b L ws (((List.range m).foldl (clS f L.words) (false, absD D)).1, (m : Int), D') = bif decide (secAt L.words m = rdD D ((f + m : Nat) : Int)) then some (.inl (((List.range m).foldl (clS f L.words) (false, absD D)).1, ((m + 1 : Nat) : Int), D')) else ob (m_60 D' ((f + m : Nat) : Int) (secAt L.words m)) fun r => some (.inl (true, ((m + 1 : Nat) : Int), r.1)) := by
        dsimp only [m_35b]
        rw [hk, hd, e1, e2, e3, hf, e4, sector_eq (by omega) hl, sl_eq (by omega) (by omega), hpart]
        simp only [cond_true, ob_s]
        rw [equal_65 (by rw [(secAt_isS hw m).1]; omega)]
        rfl
      rw [List.range_succ, List.foldl_append]
      simp only [List.foldl_cons, List.foldl_nil]
      have hcl : clS f L.words ((List.range m).foldl (clS f L.words) (false, absD D)) m = if secAt L.words m = rdD D ((f + m : Nat) : Int) then (List.range m).foldl (clS f L.words) (false, absD D) else (true, wrX ((List.range m).foldl (clS f L.words) (false, absD D)).2 (f + m) (secAt L.words m)) := by
        unfold clS at hfar ⊢
        rw [hfar, hr]
        by_cases hs : secAt L.words m = rdD D ((f + m : Nat) : Int)
        · rw [if_pos (by rw [hs]), if_pos hs]
        · rw [if_neg (fun e => hs (Option.some.inj e).symm), if_neg hs]
      rw [hcl]
      by_cases hs : secAt L.words m = rdD D ((f + m : Nat) : Int)
      · rw [if_pos hs]
        refine ⟨D', ?_, h2, h3⟩
        rw [h1]
        refine loopO_next ?_
        rw [hstep, decide_eq_true hs]; rfl
      · rw [if_neg hs]
        obtain ⟨D2, g1, g2, g3⟩ := write_eq h2 hfm (secAt_isS hw m)
        refine ⟨D2, ?_, g2, by rw [g3, h3]⟩
        rw [h1]
        refine loopO_next ?_
        rw [hstep, decide_eq_false hs, g1]; rfl
  obtain ⟨D', h1, h2, h3⟩ := key k (Nat.le_refl _)
  rw [h1]
  have hend : loopO (m_35b L ws) (((List.range k).foldl (clS f L.words) (false, absD D)).1, (k : Int), D') = some (((List.range k).foldl (clS f L.words) (false, absD D)).1, D') := by
    refine loopO_end ?_
    dsimp only [m_35b]
    rw [hk, show decide ((k : Int) < (k : Int)) = false by simp]; rfl
  rw [hend]
  simp only [ob_s]
  unfold clX
  cases hb : ((List.range k).foldl (clS f L.words) (false, absD D)).1 with
  | true =>
    obtain ⟨D2, g1, g2, g3⟩ := sync_eq h2
    refine ⟨D2, by simp only [cond_true]; exact g1, g2, ?_⟩
    rw [g3, h3]
    simp [hb]
  | false =>
    refine ⟨D', rfl, h2, ?_⟩
    rw [h3]
    simp [hb]
/-- What is read behind a clearing. -/
theorem clX_read (X : RDisk) (f k : Nat) (ws : List Int) (hf : f + k ≤ X.Read.length) (p : Nat) : (clX X f k ws).Read[p]? = if f ≤ p ∧ p < f + k then some (secAt ws (p - f)) else X.Read[p]? := by
  have key : ∀ m, m ≤ k → ((List.range m).foldl (clS f ws) (false, X)).2.Read.length = X.Read.length ∧ ((List.range m).foldl (clS f ws) (false, X)).2.Read[p]? = if f ≤ p ∧ p < f + m then some (secAt ws (p - f)) else X.Read[p]? := by
    intro m
    induction m with
    | zero => intro _; exact ⟨rfl, by rw [if_neg (by omega)]; rfl⟩
    | succ m ih =>
      intro hm
      obtain ⟨h1, h2⟩ := ih (by omega)
      rw [List.range_succ, List.foldl_append]
      simp only [List.foldl_cons, List.foldl_nil]
      generalize (List.range m).foldl (clS f ws) (false, X) = a at h1 h2
      unfold clS
      split
      · rename_i hr
        refine ⟨h1, ?_⟩
        rw [h2]
        by_cases hp : p = f + m
        · subst hp
          rw [if_neg (by omega), if_pos (by omega)]
          rw [if_neg (by omega)] at h2
          rw [← h2, hr, show f + m - f = m by omega]
        · by_cases hq : f ≤ p ∧ p < f + m
          · rw [if_pos hq, if_pos (by omega)]
          · rw [if_neg hq, if_neg (by omega)]
      · simp only [wrX]
        refine ⟨by simpa using h1, ?_⟩
        by_cases hp : p = f + m
        · subst hp
          rw [List.getElem?_set_self (by omega), if_pos (by omega), show f + m - f = m by omega]
        · rw [List.getElem?_set_ne (by omega), h2]
          by_cases hq : f ≤ p ∧ p < f + m
          · rw [if_pos hq, if_pos (by omega)]
          · rw [if_neg hq, if_neg (by omega)]
  unfold clX
  have h2 := (key k (Nat.le_refl _)).2
  simp only
  split
  · simpa [syX] using h2
  · exact h2

/-- Writing the sectors from a on, m of them. -/
def wsX (X : RDisk) (f : Nat) (ws : List Int) (a : Nat) : Nat → RDisk
  | 0 => X
  | m + 1 => wrX (wsX X f ws a m) (f + (a + m)) (secAt ws (a + m))
theorem wsX_len (X : RDisk) (f : Nat) (ws : List Int) (a : Nat) : ∀ m, (wsX X f ws a m).Read.length = X.Read.length
  | 0 => rfl
  | m + 1 => by simp [wsX, wrX, wsX_len X f ws a m]
theorem wsX_read (X : RDisk) (f : Nat) (ws : List Int) (a p : Nat) : ∀ m, f + (a + m) ≤ X.Read.length → (wsX X f ws a m).Read[p]? = if f + a ≤ p ∧ p < f + (a + m) then some (secAt ws (p - f)) else X.Read[p]?
  | 0, _ => by rw [if_neg (by omega)]; rfl
  | m + 1, h => by
    have ih := wsX_read X f ws a p m (by omega)
    have hl := wsX_len X f ws a m
    simp only [wsX, wrX]
    by_cases hp : p = f + (a + m)
    · subst hp
      rw [List.getElem?_set_self (by omega), if_pos (by omega), show f + (a + m) - f = a + m by omega]
    · rw [List.getElem?_set_ne (by omega), ih]
      by_cases hq : f + a ≤ p ∧ p < f + (a + m)
      · rw [if_pos hq, if_pos (by omega)]
      · rw [if_neg hq, if_neg (by omega)]
theorem write_40 {D : Disk} {n : Nat} (h : Good D n) {L : LogM} {f k at_ : Nat} (hf : L.from_ = (f : Int)) (hfk : f + k ≤ n) (hw : ∀ x ∈ L.words, isW x) (h0 : at_ < L.words.length) (hl : L.words.length ≤ 8 * k) :
    ∃ D', m_40 L D (at_ : Int) = some D' ∧ Good D' n ∧ absD D' = wsX (absD D) f L.words (at_ / 8) ((L.words.length - 1) / 8 + 1 - at_ / 8) := by
  have hsm := h.small
  unfold m_40
  have e0 : IntKind.wrap .i64 ((L.words.length : Int) - 1) = ((L.words.length - 1 : Nat) : Int) := by rw [wi64 (by omega) (by omega)]; omega
  have e1 : Int.tdiv ((L.words.length - 1 : Nat) : Int) 8 = (((L.words.length - 1) / 8 : Nat) : Int) := by rw [Int.tdiv_eq_ediv_of_nonneg (by omega)]; omega
  have e2 : Int.tdiv (at_ : Int) 8 = ((at_ / 8 : Nat) : Int) := by rw [Int.tdiv_eq_ediv_of_nonneg (by omega)]; omega
  rw [e0, e1, e2, wi64 (x := (((L.words.length - 1) / 8 : Nat) : Int)) (by omega) (by omega), wi64 (x := ((at_ / 8 : Nat) : Int)) (by omega) (by omega)]
  generalize hlast : (L.words.length - 1) / 8 = last
  have hle : at_ / 8 ≤ last := by omega
  have hlk : last < k := by omega
  have key : ∀ m, m ≤ last + 1 - at_ / 8 → ∃ D', loopO (m_40b L (last : Int)) (((at_ / 8 : Nat) : Int), D) = loopO (m_40b L (last : Int)) (((at_ / 8 + m : Nat) : Int), D') ∧ Good D' n ∧ absD D' = wsX (absD D) f L.words (at_ / 8) m := by
    intro m
    induction m with
    | zero => intro _; exact ⟨D, rfl, h, rfl⟩
    | succ m ih =>
      intro hm
      obtain ⟨D', h1, h2, h3⟩ := ih (by omega)
      have hd : decide (((at_ / 8 + m : Nat) : Int) ≤ (last : Int)) = true := by simp; omega
      have e5 : IntKind.wrap .i64 (((at_ / 8 + m : Nat) : Int) + 1) = ((at_ / 8 + (m + 1) : Nat) : Int) := by rw [wi64 (by omega) (by omega)]; omega
      have e4 : IntKind.wrap .i64 ((f : Int) + ((at_ / 8 + m : Nat) : Int)) = ((f + (at_ / 8 + m) : Nat) : Int) := by rw [wi64 (by omega) (by omega)]; omega
      obtain ⟨D2, g1, g2, g3⟩ := write_eq h2 (show f + (at_ / 8 + m) < n by omega) (secAt_isS hw (at_ / 8 + m))
      refine ⟨D2, ?_, g2, by rw [g3, h3]; rfl⟩
      rw [h1]
      refine loopO_next ?_
      dsimp only [m_40b]
      rw [hd, hf, e4, sector_eq (by omega) (by omega)]
      simp only [cond_true, ob_s, g1, e5]
  obtain ⟨D', h1, h2, h3⟩ := key (last + 1 - at_ / 8) (Nat.le_refl _)
  refine ⟨D', ?_, h2, h3⟩
  rw [h1]
  refine loopO_end ?_
  dsimp only [m_40b]
  rw [show decide (((at_ / 8 + (last + 1 - at_ / 8) : Nat) : Int) ≤ (last : Int)) = false by simp; omega]; rfl
end Go.Proofs.YtdkfdmalbbfbmaaGreat
