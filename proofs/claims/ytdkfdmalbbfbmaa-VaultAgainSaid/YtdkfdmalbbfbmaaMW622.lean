/- Plain laws: a crash; the document's device. -/
import Derived.Test.YtdkfdmalbbfbmaaMW619
import Derived.Test.YtdkfdmalbbfbmaaMW621
/- Plain laws: a crash; the document's device. -/
namespace Go.Proofs.Ytdkfdmalbbfbmaa
open Go
set_option maxRecDepth 4000

/-- A list as a function on places. -/
def lf {α : Type} (n : Nat) (g : Nat → α) : List α := (List.range n).map g
section
variable {α : Type} {n : Nat} {g h : Nat → α}
@[simp] theorem lf_len : (lf n g).length = n := by simp [lf]
theorem lf_get {i : Nat} (hi : i < n) : (lf n g)[i]? = some (g i) := by simp [lf, hi]
theorem lf_gt {i : Nat} (hi : i < n) : gt (lf n g) (i : Int) = some (g i) := gt_at (lf_get hi)
theorem lf_set {i : Nat} (x : α) : (lf n g).set i x = lf n fun p => if p = i then x else g p := by
  apply List.ext_getElem?
  intro p
  rw [List.getElem?_set]
  by_cases hp : p < n
  · rw [lf_get hp, lf_get hp]
    by_cases e : i = p
    · subst e; simp [hp]
    · rw [if_neg e, if_neg (Ne.symm e)]
  · rw [List.getElem?_eq_none (l := lf n g) (by simp; omega), List.getElem?_eq_none (l := lf n _) (by simp; omega)]
    simp [hp]
    intro e; omega
theorem lf_congr (hh : ∀ p, p < n → g p = h p) : lf n g = lf n h := by
  unfold lf
  exact List.map_congr_left fun p hp => hh p (List.mem_range.1 hp)
theorem lf_of (l : List α) (d : α) (hl : l.length = n) : l = lf n fun p => (l[p]?).getD d := by
  apply List.ext_getElem?
  intro p
  by_cases hp : p < n
  · rw [lf_get hp, List.getElem?_eq_getElem (by omega)]; rfl
  · rw [List.getElem?_eq_none (by omega), List.getElem?_eq_none (by simp; omega)]
end

structure GoodX (X : RDisk) (n : Nat) : Prop where
  l : X.Lasts.length = n
  r : X.Read.length = n
  d : X.Dirty.length = n
  small : n ≤ 4096
  ls : ∀ s ∈ X.Lasts, isS s
  rs : ∀ s ∈ X.Read, isS s
  clean : ∀ i : Nat, X.Dirty[i]? = some false → X.Read[i]? = X.Lasts[i]?
theorem abs_good {D : Disk} {n : Nat} (h : Good D n) : GoodX (absD D) n := by
  obtain ⟨a, b, c⟩ := abs_len h
  refine ⟨a, b, c, h.small, h.ls, abs_isS h, fun i hi => ?_⟩
  have hin : i < n := by
    have := (List.getElem?_eq_some_iff.1 hi).1
    omega
  rw [abs_read h hin]
  have hw : wAt D.wr (i : Int) = none := by
    rw [wAt_nat]
    simp only [absD, List.getElem?_map] at hi
    cases hx : D.wr[i]? with
    | none => rfl
    | some o =>
      rw [hx] at hi
      cases o with
      | none => rfl
      | some s => simp at hi
  unfold rdD
  rw [hw]
  simp only [Option.getD_none, Int.toNat_natCast]
  show _ = D.lasts[i]?
  rw [List.getElem?_eq_getElem (by rw [h.len]; exact hin)]; rfl

/-- What a crash leaves: of what was written the k-th lasts, if the list says so. -/
def dirtyB (X : RDisk) (i : Nat) : Bool := (X.Dirty[i]?).getD false
def rank (X : RDisk) (i : Nat) : Nat := ((List.range i).filter (dirtyB X)).length
def keepB (keep : List Bool) (j : Nat) : Bool := (keep[j]?).getD false
def newL (X : RDisk) (keep : List Bool) (i : Nat) : Sec := if dirtyB X i && keepB keep (rank X i) then (X.Read[i]?).getD Z8 else (X.Lasts[i]?).getD Z8
def crX (X : RDisk) (keep : List Bool) : RDisk := ⟨lf X.Lasts.length (newL X keep), lf X.Lasts.length (newL X keep), List.replicate X.Lasts.length false⟩
theorem rank_succ (X : RDisk) (i : Nat) : rank X (i + 1) = rank X i + (if dirtyB X i then 1 else 0) := by
  unfold rank
  rw [List.range_succ, List.filter_append, List.length_append]
  cases h : dirtyB X i <;> simp [h]
theorem rank_le (X : RDisk) (i : Nat) : rank X i ≤ i := by
  unfold rank
  exact Nat.le_trans (List.length_filter_le _ _) (by simp)

section
variable {X : RDisk} {n : Nat}
theorem crX_good (h : GoodX X n) (keep : List Bool) : GoodX (crX X keep) n := by
  have hs : ∀ s ∈ lf X.Lasts.length (newL X keep), isS s := by
    intro s hs
    simp only [lf, List.mem_map, List.mem_range] at hs
    obtain ⟨i, hi, rfl⟩ := hs
    unfold newL
    split
    · rw [List.getElem?_eq_getElem (by rw [h.r]; rw [h.l] at hi; exact hi)]
      exact h.rs _ (List.getElem_mem _)
    · rw [List.getElem?_eq_getElem hi]
      exact h.ls _ (List.getElem_mem _)
  refine ⟨by simp [crX, h.l], by simp [crX, h.l], by simp [crX, h.l], h.small, hs, hs, fun i _ => rfl⟩
theorem ref_write (h : GoodX X n) {i : Nat} (hi : i < n) (s : Sec) : m_44 X (i : Int) s = some (wrX X i s) := by
  unfold m_44
  rw [gt_eq (show i < X.Read.length by rw [h.r]; exact hi), gt_eq (show i < X.Dirty.length by rw [h.d]; exact hi)]
  rfl
theorem wrX_good (h : GoodX X n) {i : Nat} {s : Sec} (hs : isS s) : GoodX (wrX X i s) n := by
  refine ⟨h.l, by simp [wrX, h.r], by simp [wrX, h.d], h.small, h.ls, fun t ht => ?_, fun j hj => ?_⟩
  · rcases List.mem_or_eq_of_mem_set ht with ht | rfl
    · exact h.rs t ht
    · exact hs
  · simp only [wrX] at hj ⊢
    by_cases e : i = j
    · subst e
      rw [List.getElem?_set] at hj
      simp at hj
    · rw [List.getElem?_set_ne e] at hj ⊢
      exact h.clean j hj
theorem syX_good (h : GoodX X n) : GoodX (syX X) n := ⟨h.r, h.r, by simp [syX, h.d], h.small, h.rs, h.rs, fun i _ => rfl⟩
theorem wsX_good (h : GoodX X n) {f a : Nat} {ws : List Int} (hw : ∀ x ∈ ws, isW x) : ∀ m, GoodX (wsX X f ws a m) n
  | 0 => h
  | m + 1 => wrX_good (wsX_good h hw m) (secAt_isS hw _)
theorem ref_sync (h : GoodX X n) : m_45 X = some (syX X) := by
  have hsm := h.small
  unfold m_45
  have key : loopO m_45_1b (0, X) = some ((n : Int), syX X) := by
    have := loopO_count (f := m_45_1b) (fun i => ((i : Int), (⟨lf n fun p => if p < i then (X.Read[p]?).getD Z8 else (X.Lasts[p]?).getD Z8, X.Read, lf n fun p => if p < i then false else (X.Dirty[p]?).getD false⟩ : RDisk))) n (r := ((n : Int), syX X)) (fun i hi => by
      have h1 : decide ((i : Int) < (X.Read.length : Int)) = true := by simp [h.r]; omega
      have e2 : IntKind.wrap .i64 ((i : Int) + 1) = ((i + 1 : Nat) : Int) := by rw [wi64 (by omega) (by omega)]; rfl
      dsimp only [m_45_1b]
      rw [h1, gt_eq (show i < X.Read.length by rw [h.r]; exact hi), lf_gt hi, lf_gt hi]
      simp only [cond_true, ob_s, e2, Int.toNat_natCast, lf_set]
      have hx : (X.Read[i]?).getD Z8 = X.Read[i]'(by rw [h.r]; exact hi) := by rw [List.getElem?_eq_getElem (by rw [h.r]; exact hi)]; rfl
      congr 4
      · refine lf_congr fun p hp => ?_
        by_cases e : p = i
        · subst e; rw [if_pos rfl, if_pos (by omega), hx]
        · rw [if_neg e]
          by_cases q : p < i
          · rw [if_pos q, if_pos (by omega)]
          · rw [if_neg q, if_neg (by omega)]
      · refine lf_congr fun p hp => ?_
        by_cases e : p = i
        · subst e; rw [if_pos rfl, if_pos (by omega)]
        · rw [if_neg e]
          by_cases q : p < i
          · rw [if_pos q, if_pos (by omega)]
          · rw [if_neg q, if_neg (by omega)]) (by
      have h1 : decide ((n : Int) < (X.Read.length : Int)) = false := by simp [h.r]
      dsimp only [m_45_1b]
      rw [h1]
      simp only [cond_false]
      congr 4
      · rw [lf_of X.Read Z8 h.r]
        conv => rhs; rw [lf_of X.Read Z8 h.r]
        refine lf_congr fun p hp => ?_
        rw [if_pos hp, ← lf_of X.Read Z8 h.r]
      · rw [h.d]
        apply List.ext_getElem?
        intro p
        by_cases hp : p < n
        · rw [lf_get hp, if_pos hp, List.getElem?_replicate, if_pos hp]
        · rw [List.getElem?_eq_none (by simp; omega), List.getElem?_eq_none (by simp; omega)])
    have e0 : ((⟨lf n fun p => if p < 0 then (X.Read[p]?).getD Z8 else (X.Lasts[p]?).getD Z8, X.Read, lf n fun p => if p < 0 then false else (X.Dirty[p]?).getD false⟩ : RDisk)) = X := by
      simp only [Nat.not_lt_zero, if_false]
      rw [← lf_of X.Lasts Z8 h.l, ← lf_of X.Dirty false h.d]
    simp only [e0] at this
    exact this
  rw [key]; rfl
theorem ref_crash (h : GoodX X n) (keep : List Bool) : m_21 X keep = some (crX X keep) := by
  have hsm := h.small
  unfold m_21
  have hL : ∀ {p}, p < n → (X.Lasts[p]?) = some ((X.Lasts[p]?).getD Z8) := fun {p} hp => by rw [List.getElem?_eq_getElem (by rw [h.l]; exact hp)]; rfl
  have hR : ∀ {p}, p < n → (X.Read[p]?) = some ((X.Read[p]?).getD Z8) := fun {p} hp => by rw [List.getElem?_eq_getElem (by rw [h.r]; exact hp)]; rfl
  have hD : ∀ {p}, p < n → (X.Dirty[p]?) = some (dirtyB X p) := fun {p} hp => by unfold dirtyB; rw [List.getElem?_eq_getElem (by rw [h.d]; exact hp)]; rfl
  have key : loopO (m_21_1b keep) (0, 0, X) = some ((rank X n : Int), (n : Int), crX X keep) := by
    have := loopO_count (f := m_21_1b keep) (fun i => ((rank X i : Int), (i : Int), (⟨lf n fun p => if p < i then newL X keep p else (X.Lasts[p]?).getD Z8, lf n fun p => if p < i then newL X keep p else (X.Read[p]?).getD Z8, lf n fun p => if p < i then false else dirtyB X p⟩ : RDisk))) n (r := ((rank X n : Int), (n : Int), crX X keep)) (fun i hi => by
      have h1 : decide ((i : Int) < ((lf n fun p => if p < i then newL X keep p else (X.Read[p]?).getD Z8).length : Int)) = true := by simp; omega
      have e2 : IntKind.wrap .i64 ((i : Int) + 1) = ((i + 1 : Nat) : Int) := by rw [wi64 (by omega) (by omega)]; rfl
      have hr := rank_le X i
      have e3 : IntKind.wrap .i64 ((rank X i : Int) + 1) = ((rank X i + 1 : Nat) : Int) := by rw [wi64 (by omega) (by omega)]; rfl
      dsimp only [m_21_1b]
      rw [h1, lf_gt hi]
      simp only [cond_true, ob_s]
      rw [if_neg (by omega)]
      rw [rank_succ]
      cases hb : dirtyB X i with
      | false =>
        simp only [Bool.not_false, cond_true, e2]
        have hnew : newL X keep i = (X.Lasts[i]?).getD Z8 := by unfold newL; rw [hb]; rfl
        have hcl := h.clean i (by rw [hD hi, hb])
        congr 4
        congr 1
        · refine lf_congr fun p hp => ?_
          by_cases e : p = i
          · subst e; rw [if_neg (by omega), if_pos (by omega), hnew]
          · by_cases q : p < i
            · rw [if_pos q, if_pos (by omega)]
            · rw [if_neg q, if_neg (by omega)]
        · refine lf_congr fun p hp => ?_
          by_cases e : p = i
          · subst e; rw [if_neg (by omega), if_pos (by omega), hnew, hcl]
          · by_cases q : p < i
            · rw [if_pos q, if_pos (by omega)]
            · rw [if_neg q, if_neg (by omega)]
        · refine lf_congr fun p hp => ?_
          by_cases e : p = i
          · subst e; rw [if_neg (by omega), if_pos (by omega), hb]
          · by_cases q : p < i
            · rw [if_pos q, if_pos (by omega)]
            · rw [if_neg q, if_neg (by omega)]
      | true =>
        simp only [Bool.not_true, cond_false]
        have hkp : (bif decide ((rank X i : Int) < (keep.length : Int)) then (ob (gt keep (rank X i : Int)) fun x10 => some x10) else (some false)) = some (keepB keep (rank X i)) := by
          unfold keepB
          by_cases hq : rank X i < keep.length
          · rw [show decide ((rank X i : Int) < (keep.length : Int)) = true by simp; omega, gt_eq hq, List.getElem?_eq_getElem hq]; rfl
          · rw [show decide ((rank X i : Int) < (keep.length : Int)) = false by simp; omega, List.getElem?_eq_none (by omega)]; rfl
        rw [hkp]
        simp only [ob_s]
        cases hk2 : keepB keep (rank X i) with
        | true =>
          have hnew : newL X keep i = (X.Read[i]?).getD Z8 := by unfold newL; rw [hb, hk2]; rfl
          rw [lf_gt hi, lf_gt hi]
          simp only [cond_true, ob_s, if_neg (Nat.lt_irrefl i), Int.toNat_natCast, lf_set, m_21_2k]
          rw [lf_gt hi, lf_gt hi, lf_gt hi]
          simp only [ob_s, if_pos, if_neg (Nat.lt_irrefl i), lf_set, e2, e3]
          congr 4
          congr 1
          · refine lf_congr fun p hp => ?_
            by_cases e : p = i
            · subst e; rw [if_pos rfl, if_pos (by omega), hnew]
            · rw [if_neg e]
              by_cases q : p < i
              · rw [if_pos q, if_pos (by omega)]
              · rw [if_neg q, if_neg (by omega)]
          · refine lf_congr fun p hp => ?_
            by_cases e : p = i
            · subst e; rw [if_pos rfl, if_pos (by omega), hnew]
            · rw [if_neg e]
              by_cases q : p < i
              · rw [if_pos q, if_pos (by omega)]
              · rw [if_neg q, if_neg (by omega)]
          · refine lf_congr fun p hp => ?_
            by_cases e : p = i
            · subst e; rw [if_pos rfl, if_pos (by omega)]
            · rw [if_neg e]
              by_cases q : p < i
              · rw [if_pos q, if_pos (by omega)]
              · rw [if_neg q, if_neg (by omega)]
        | false =>
          have hnew : newL X keep i = (X.Lasts[i]?).getD Z8 := by unfold newL; rw [hb, hk2]; rfl
          simp only [cond_false, ob_s, m_21_2k]
          rw [lf_gt hi, lf_gt hi, lf_gt hi]
          simp only [ob_s, if_neg (Nat.lt_irrefl i), Int.toNat_natCast, lf_set, e2, e3]
          congr 4
          congr 1
          · refine lf_congr fun p hp => ?_
            by_cases e : p = i
            · subst e; rw [if_neg (by omega), if_pos (by omega), hnew]
            · by_cases q : p < i
              · rw [if_pos q, if_pos (by omega)]
              · rw [if_neg q, if_neg (by omega)]
          · refine lf_congr fun p hp => ?_
            by_cases e : p = i
            · subst e; rw [if_pos rfl, if_pos (by omega), hnew]
            · rw [if_neg e]
              by_cases q : p < i
              · rw [if_pos q, if_pos (by omega)]
              · rw [if_neg q, if_neg (by omega)]
          · refine lf_congr fun p hp => ?_
            by_cases e : p = i
            · subst e; rw [if_pos rfl, if_pos (by omega)]
            · rw [if_neg e]
              by_cases q : p < i
              · rw [if_pos q, if_pos (by omega)]
              · rw [if_neg q, if_neg (by omega)]) (by
      have h1 : decide ((n : Int) < ((lf n fun p => if p < n then newL X keep p else (X.Read[p]?).getD Z8).length : Int)) = false := by simp
      dsimp only [m_21_1b]
      rw [h1]
      simp only [cond_false, crX, h.l]
      congr 4
      congr 1
      · exact lf_congr fun p hp => if_pos hp
      · exact lf_congr fun p hp => if_pos hp
      · apply List.ext_getElem?
        intro p
        by_cases hp : p < n
        · rw [lf_get hp, if_pos hp, List.getElem?_replicate, if_pos hp]
        · rw [List.getElem?_eq_none (by simp; omega), List.getElem?_eq_none (by simp; omega)])
    have e0 : ((⟨lf n fun p => if p < 0 then newL X keep p else (X.Lasts[p]?).getD Z8, lf n fun p => if p < 0 then newL X keep p else (X.Read[p]?).getD Z8, lf n fun p => if p < 0 then false else dirtyB X p⟩ : RDisk)) = X := by
      simp only [Nat.not_lt_zero, if_false]
      unfold dirtyB
      rw [← lf_of X.Lasts Z8 h.l, ← lf_of X.Read Z8 h.r, ← lf_of X.Dirty false h.d]
    simp only [e0] at this
    exact this
  rw [key]; rfl
end

/-- The program's crash is the document's. -/
theorem dirty_abs (D : Disk) : dirty D.wr = ((List.range D.wr.length).filter (dirtyB (absD D))).map Int.ofNat := by
  unfold dirty
  congr 1
  refine List.filter_congr fun i hi => ?_
  have hi := List.mem_range.1 hi
  unfold dirtyB absD
  simp only [List.getElem?_map]
  rw [List.getElem?_eq_getElem hi]
  cases D.wr[i] <;> rfl
theorem crash_eq {D : Disk} {n : Nat} (h : Good D n) (keep : List Bool) : ∃ D', mq_19 D keep = some D' ∧ Good D' n ∧ absD D' = crX (absD D) keep := by
  have hsm := h.small
  have hdl : (dirty D.wr).length ≤ n := by have := dirty_le D.wr; have := h.wr; omega
  have hr := last_run (D := D) (cK keep) (fun j => (j : Int)) (fun j => keepB keep j) (by omega) (fun j hj => by
    unfold cK
    have e3 : IntKind.wrap .i64 ((j : Int) + 1) = ((j + 1 : Nat) : Int) := by rw [wi64 (by omega) (by omega)]; rfl
    rw [e3]
    unfold keepB
    by_cases hq : j < keep.length
    · rw [show decide (((j + 1 : Nat) : Int) ≤ (keep.length : Int)) = true by simp; omega, show IntKind.wrap .i64 (((j + 1 : Nat) : Int) - 1) = ((j : Nat) : Int) by rw [wi64 (by omega) (by omega)]; omega, gt_eq hq, List.getElem?_eq_getElem hq]; rfl
    · rw [show decide (((j + 1 : Nat) : Int) ≤ (keep.length : Int)) = false by simp; omega, List.getElem?_eq_none (by omega)]; rfl)
  have hlen := lastL_len D.wr (dirty D.wr) (fun j => keepB keep j) D.lasts (dirty D.wr).length
  have hrank : ∀ p, p < n → dirtyB (absD D) p = true → (dirty D.wr)[rank (absD D) p]? = some (p : Int) := by
    intro p hp hd
    rw [dirty_abs, List.getElem?_map]
    have hspl : List.range D.wr.length = List.range p ++ (p :: (List.range (D.wr.length - (p + 1))).map (p + 1 + ·)) := by
      have := List.range_add (n := p) (m := D.wr.length - p)
      rw [show p + (D.wr.length - p) = D.wr.length by have := h.wr; omega] at this
      rw [this, show D.wr.length - p = (D.wr.length - (p + 1)) + 1 by have := h.wr; omega, List.range_succ_eq_map]
      simp [Function.comp_def, Nat.add_assoc, Nat.add_comm 1]
    rw [hspl, List.filter_append, List.filter_cons, if_pos hd]
    unfold rank
    rw [List.getElem?_append_right (Nat.le_refl _), Nat.sub_self]
    rfl
  have heq : lastL D.wr (dirty D.wr) (fun j => keepB keep j) D.lasts (dirty D.wr).length = lf n (newL (absD D) keep) := by
    apply List.ext_getElem?
    intro p
    by_cases hp : p < n
    · rw [lastL_get D.wr _ _ _ dirty_nonneg p (by rw [h.len]; exact hp) _ (Nat.le_refl _), lf_get hp]
      unfold newL
      rw [abs_read h hp]
      have hl0 : (absD D).Lasts[p]? = D.lasts[p]? := rfl
      rw [hl0]
      cases hd : dirtyB (absD D) p with
      | true =>
        have hq := hrank p hp hd
        have hq2 := (List.getElem?_eq_some_iff.1 hq).1
        have hmem : (p : Int) ∈ dirty D.wr := List.mem_of_getElem? hq
        obtain ⟨s, hs⟩ := Option.isSome_iff_exists.1 (mem_dirty.1 hmem)
        have hrd : rdD D (p : Int) = s := by unfold rdD; rw [hs]; rfl
        cases hkp : keepB keep (rank (absD D) p) with
        | true =>
          rw [if_pos ⟨_, hq2, hq, hkp⟩, hs, hrd]; rfl
        | false =>
          rw [if_neg]
          · simp only [Bool.and_false, Bool.false_eq_true, if_false]
            rw [List.getElem?_eq_getElem (by rw [h.len]; exact hp)]; rfl
          · rintro ⟨q, h1, h2, h3⟩
            have hnd := dirty_nodup D.wr
            have hqq : q = rank (absD D) p := (List.getElem?_inj h1 hnd).1 (h2.trans hq.symm)
            subst hqq
            rw [hkp] at h3; cases h3
      | false =>
        rw [if_neg]
        · simp only [Bool.false_and, Bool.false_eq_true, if_false]
          rw [List.getElem?_eq_getElem (by rw [h.len]; exact hp)]; rfl
        · rintro ⟨q, h1, h2, h3⟩
          have hmem : (p : Int) ∈ dirty D.wr := List.mem_of_getElem? h2
          rw [dirty_abs] at hmem
          obtain ⟨x, hx, hx2⟩ := List.mem_map.1 hmem
          have : x = p := by have : (x : Int) = (p : Int) := hx2; omega
          subst this
          rw [(List.mem_filter.1 hx).2] at hd; cases hd
    · rw [List.getElem?_eq_none (by rw [hlen, h.len]; omega), List.getElem?_eq_none (by simp; omega)]
  have hg := crX_good (abs_good h) keep
  have hl0 : (absD D).Lasts.length = n := (abs_len h).1
  refine ⟨⟨lastL D.wr (dirty D.wr) (fun j => keepB keep j) D.lasts (dirty D.wr).length, List.replicate D.wr.length none⟩, ?_, good_last h (by rw [hlen, h.len]) ?_, ?_⟩
  · unfold mq_19
    have hr : m_49 (cK keep) D 0 = _ := hr
    rw [hr]; rfl
  · rw [heq]
    have := hg.ls
    unfold crX at this
    rw [hl0] at this
    exact this
  · rw [abs_clean, heq]
    unfold crX
    rw [hl0, h.wr]
end Go.Proofs.Ytdkfdmalbbfbmaa

/- The plain law of LogLasts. -/
namespace Go.Proofs.Ytdkfdmalbbfbmaa
open Go
set_option maxRecDepth 4000

theorem LogOk.good_frames {f k : Nat} {e : Int} {fs : List Frame} {L : LogM} {X : RDisk} (h : LogOk f k e fs L X) : L.frames = fs := by rw [h.eq]
theorem allF_prefix (e : Int) (he : num e = true) : ∀ (fs : List Frame) (n : Nat) (r : List Int), (∀ F ∈ fs, may F = true) → n + fs.length ≤ 4294967296 → (allF e n (streamF e n fs ++ r)).1 = fs ++ (allF e (n + fs.length) r).1
  | [], n, r, _, _ => by simp [streamF]
  | F :: fs, n, r, hm, hn => by
    have hg : getF e n (streamF e n (F :: fs) ++ r) = some F := getF_iff.2 ⟨hm F List.mem_cons_self, he, num_iff.2 ⟨by omega, by simp only [List.length_cons] at hn; omega⟩, streamF e (n + 1) fs ++ r, by simp [streamF]⟩
    rw [allF_some hg]
    have hd : (streamF e n (F :: fs) ++ r).drop (1 + F.Words.length) = streamF e (n + 1) fs ++ r := by
      simp only [streamF, List.append_assoc]
      rw [← putF_len e n F, List.drop_left]
    rw [hd, allF_prefix e he fs (n + 1) r (fun G hG => hm G (List.mem_cons_of_mem _ hG)) (by simp only [List.length_cons] at hn; omega)]
    rw [show n + 1 + fs.length = n + (F :: fs).length by simp; omega]
    rfl
/-- What is read behind a crash, sector by sector. -/
theorem crX_read {X : RDisk} {n : Nat} (h : GoodX X n) (keep : List Bool) {i : Nat} (hi : i < n) : (crX X keep).Read[i]? = X.Lasts[i]? ∨ (crX X keep).Read[i]? = X.Read[i]? := by
  unfold crX
  rw [h.l, lf_get hi]
  unfold newL
  split
  · right; rw [List.getElem?_eq_getElem (by rw [h.r]; exact hi)]; rfl
  · left; rw [List.getElem?_eq_getElem (by rw [h.l]; exact hi)]; rfl
/-- Words whose sectors are those of one stream or of a longer one begin with the first. -/
theorem part_prefix {X : RDisk} {f k : Nat} (hs : ∀ s ∈ X.Read, isS s) (hfk : f + k ≤ X.Read.length) {ws vs : List Int} (hl : ws.length ≤ 8 * k) (h : ∀ i, i < k → X.Read[f + i]? = some (secAt ws i) ∨ X.Read[f + i]? = some (secAt (ws ++ vs) i)) : ∃ r, partW X f k = ws ++ r := by
  refine ⟨(partW X f k).drop ws.length, ?_⟩
  have hpl := part_len (f := f) (k := k) hs hfk
  have : (partW X f k).take ws.length = ws := by
    apply List.ext_getElem?
    intro p
    by_cases hp : p < ws.length
    · rw [List.getElem?_take, if_pos hp]
      have hi : p / 8 < k := by omega
      have e1 := part_sec hs hfk hi
      have e3 : (partW X f k)[p]? = some ((partW X f k)[p]'(by omega)) := List.getElem?_eq_getElem (by omega)
      rcases h _ hi with h1 | h1
      · rw [h1] at e1
        have e2 := congrArg (fun s : Option Sec => s.bind (·[p % 8]?)) e1
        simp only [Option.bind_some] at e2
        rw [secAt_get _ _ _ (by omega), secAt_get _ _ _ (by omega), show 8 * (p / 8) + p % 8 = p by omega, e3, List.getElem?_eq_getElem hp] at e2
        rw [e3, List.getElem?_eq_getElem hp]
        simpa using e2.symm
      · rw [h1] at e1
        have e2 := congrArg (fun s : Option Sec => s.bind (·[p % 8]?)) e1
        simp only [Option.bind_some] at e2
        rw [secAt_get _ _ _ (by omega), secAt_get _ _ _ (by omega), show 8 * (p / 8) + p % 8 = p by omega, e3, List.getElem?_append_left hp, List.getElem?_eq_getElem hp] at e2
        rw [e3, List.getElem?_eq_getElem hp]
        simpa using e2.symm
    · rw [List.getElem?_eq_none (by rw [List.length_take]; omega), List.getElem?_eq_none (by omega)]
  conv => lhs; rw [← List.take_append_drop ws.length (partW X f k)]
  rw [this]
theorem wsX_lasts (X : RDisk) (f : Nat) (ws : List Int) (a : Nat) : ∀ m, (wsX X f ws a m).Lasts = X.Lasts
  | 0 => rfl
  | m + 1 => by simp only [wsX, wrX]; exact wsX_lasts X f ws a m

/-- So much lasts. -/
def Synced (N : Nat) (e : Int) (all : List Frame) (X : RDisk) (synced : Int) : Prop := ∃ fs tl, all = fs ++ tl ∧ synced = (fs.length : Int) ∧ ∀ i, i < N → X.Lasts[i]? = some (secAt (streamF e 0 fs) i)

theorem kind_eta (F : Frame) : (⟨F.Kind, F.Words⟩ : Frame) = F := by cases F; rfl
theorem lasts_loop {x1 x2 : List Frame} (hw1 : ∀ F ∈ x1, frameW F) (hw2 : ∀ F ∈ x2, frameW F) (hl1 : x1.length ≤ 30) (hl2 : x2.length ≤ 30) {N : Nat} (hN : N ≤ 30) : ∀ (d i : Nat) (D : Disk) (L : LogM) (fs : List Frame) (sy : Int), x1.length + x2.length - i = d → i ≤ x1.length + x2.length → fs.length ≤ i → Good D N → LogOk 0 N 1 fs L (absD D) → (i ≤ x1.length ∨ Synced N 1 fs (absD D) sy) →
    ∃ r, loopO (m_5_1b x1 x2) (sy, false, fs, (i : Int), D, L) = some r ∧ (r = .inr true ∨ ∃ sy' fs' j D' L', r = .inl (sy', false, fs', j, D', L') ∧ fs'.length ≤ 60 ∧ Good D' N ∧ LogOk 0 N 1 fs' L' (absD D') ∧ (x2.length = 0 ∨ Synced N 1 fs' (absD D') sy')) := by
  intro d
  induction d with
  | zero =>
    intro i D L fs sy hd hi hfl hg hL hs
    refine ⟨.inl (sy, false, fs, (i : Int), D, L), loopO_end ?_, .inr ⟨sy, fs, (i : Int), D, L, rfl, by omega, hg, hL, ?_⟩⟩
    · dsimp only [m_5_1b]
      rw [wi64 (by omega) (by omega), show decide ((i : Int) < (x1.length : Int) + (x2.length : Int)) = false by simp; omega]; rfl
    · rcases hs with hs | hs
      · left; omega
      · exact .inr hs
  | succ d ih =>
    intro i D L fs sy hd hi hfl hg hL hs
    have hlt : i < x1.length + x2.length := by omega
    have e2 : IntKind.wrap .i64 ((i : Int) + 1) = ((i + 1 : Nat) : Int) := by rw [wi64 (by omega) (by omega)]; rfl
    -- the sync, where it is
    obtain ⟨D1, sy1, hsy, hg1, hL1, hs1⟩ : ∃ D1 sy1, (bif (i : Int) == (x1.length : Int) then (ob (mq_22 L D) fun X2 => some ((fs.length : Int), X2)) else (some (sy, D))) = some (sy1, D1) ∧ Good D1 N ∧ LogOk 0 N 1 fs L (absD D1) ∧ (i + 1 ≤ x1.length ∨ Synced N 1 fs (absD D1) sy1) := by
      by_cases e : i = x1.length
      · obtain ⟨D', k1, k2, k3⟩ := sync_eq hg
        refine ⟨D', (fs.length : Int), ?_, k2, ?_, .inr ⟨fs, [], by simp, rfl, ?_⟩⟩
        · have hb : ((i : Int) == (x1.length : Int)) = true := by simp [e]
          rw [hb]
          unfold mq_22
          rw [k1]; rfl
        · rw [k3]; exact ⟨hL.eq, hL.may, hL.w, hL.len, hL.read⟩
        · intro j hj
          rw [k3]
          have := hL.read j hj
          rw [Nat.zero_add] at this
          exact this
      · refine ⟨D, sy, ?_, hg, hL, ?_⟩
        · have hb : ((i : Int) == (x1.length : Int)) = false := by simp; omega
          rw [hb]; rfl
        · rcases hs with hs | hs
          · left; omega
          · exact .inr hs
    -- the frame
    obtain ⟨F, hF, hFw⟩ : ∃ F, (bif decide ((i : Int) < (x1.length : Int)) then (ob (gt x1 (i : Int)) fun x23 => some (x23.Kind, x23.Words)) else (ob (gt x2 (IntKind.wrap .i64 ((i : Int) - (x1.length : Int)))) fun x24 => some (x24.Kind, x24.Words))) = some (F.Kind, F.Words) ∧ frameW F := by
      by_cases e : i < x1.length
      · refine ⟨x1[i], ?_, hw1 _ (List.getElem_mem e)⟩
        rw [show decide ((i : Int) < (x1.length : Int)) = true by simp; omega, gt_eq e]; rfl
      · refine ⟨x2[i - x1.length]'(by omega), ?_, hw2 _ (List.getElem_mem _)⟩
        rw [show decide ((i : Int) < (x1.length : Int)) = false by simp; omega, show IntKind.wrap .i64 ((i : Int) - (x1.length : Int)) = ((i - x1.length : Nat) : Int) by rw [wi64 (by omega) (by omega)]; omega, gt_eq (show i - x1.length < x2.length by omega)]; rfl
    have hround : ∀ z, m_5_3k false fs (i : Int) L sy1 D1 (F.Kind, F.Words) = some z → loopO (m_5_1b x1 x2) (sy, false, fs, (i : Int), D, L) = match z with | .inl s => loopO (m_5_1b x1 x2) s | .inr r => some r := by
      intro z hz
      rw [loopO_eq]
      dsimp only [m_5_1b]
      rw [wi64 (by omega) (by omega), show decide ((i : Int) < (x1.length : Int) + (x2.length : Int)) = true by simp; omega]
      simp only [cond_true]
      rw [hsy]
      simp only [ob_s, m_5_2k]
      rw [hF]
      simp only [ob_s, hz]
      cases z <;> rfl
    by_cases h4 : F.Words.length > 400
    · refine ⟨.inr true, ?_, .inl rfl⟩
      rw [hround (.inr (.inr true)) (by
        dsimp only [m_5_3k]
        rw [show decide ((F.Words.length : Int) > 400) = true by simp; omega]; rfl)]
    · have hround2 : ∀ y L' D' fs', mq_10 L D1 F = some (y, L', D') → (bif y == 0 then (ob (ap fs [F]) fun x28 => some x28) else (some fs)) = some fs' → loopO (m_5_1b x1 x2) (sy, false, fs, (i : Int), D, L) = loopO (m_5_1b x1 x2) (sy1, false, fs', ((i + 1 : Nat) : Int), D', L') := by
        intro y L' D' fs' h1 h2
        rw [hround (.inl (sy1, false, fs', ((i + 1 : Nat) : Int), D', L')) (by
          dsimp only [m_5_3k]
          rw [show decide ((F.Words.length : Int) > 400) = false by simp; omega]
          simp only [cond_false, kind_eta, h1, ob_s, h2, m_5_4k, e2])]
      cases hm : may F with
      | false =>
        rw [hround2 1 L D1 fs (append_bad hm) rfl]
        exact ih (i + 1) D1 L fs sy1 (by omega) (by omega) (by omega) hg1 hL1 hs1
      | true =>
        have ha := append_eq hg1 hL1 (by omega) rfl hm (fun x hx => isW_wf (hFw.2.2 x hx))
        split at ha
        · obtain ⟨L', D', g1, g2, g3, g4⟩ := ha
          rw [hround2 0 L' D' (fs ++ [F]) g1 (by rw [show ((0 : Int) == 0) = true from rfl, ap_eq (by simp; omega)]; rfl)]
          refine ih (i + 1) D' L' _ sy1 (by omega) (by omega) (by simp; omega) g2 g3 (hs1.imp id ?_)
          rintro ⟨gs, tl, h1, h2, h3⟩
          exact ⟨gs, tl ++ [F], by rw [h1, List.append_assoc], h2, fun j hj => by rw [g4, wsX_lasts]; exact h3 j hj⟩
        · rw [hround2 4 L D1 fs ha rfl]
          exact ih (i + 1) D1 L fs sy1 (by omega) (by omega) (by omega) hg1 hL1 hs1

theorem sec_loop5 : m_5_7b = m_3_3b := rfl
theorem words_loop5 {x0 : Int} {D : Disk} {N : Nat} (h : Good D N) (hN : IntKind.wrap .i64 (IntKind.wrap .i64 (Int.tmod x0 30) + 1) = (N : Int)) (h30 : N ≤ 30) : ∃ z, loopO (m_5_6b x0 D) ([], 0) = some (partW (absD D) 0 N, z) := words_loop h hN h30

theorem p_5 (x0 : Int) (x1 x2 : List Frame) (x3 : List Bool) (w0 : (Lit.int .u8 x0).wf = true) (w1 : x1.length ≤ maxLen ∧ ∀ F ∈ x1, frameW F) (w2 : x2.length ≤ maxLen ∧ ∀ F ∈ x2, frameW F) (_ : x3.length ≤ maxLen ∧ ∀ b ∈ x3, True) : m_5 x0 x1 x2 x3 = some true := by
  obtain ⟨h0, h255⟩ := wf_u8 w0
  obtain ⟨N, hN1, hN2, hN⟩ := n30 h0 h255
  unfold m_5
  rw [alive_8]
  simp only [ob_s, Bool.not_true, cond_false]
  by_cases hl1 : x1.length > 30
  · rw [show decide ((x1.length : Int) > 30) = true by simp; omega]; rfl
  rw [show decide ((x1.length : Int) > 30) = false by simp; omega]
  by_cases hl2 : x2.length > 30
  · rw [show decide ((x2.length : Int) > 30) = true by simp; omega]; rfl
  rw [show decide ((x2.length : Int) > 30) = false by simp; omega]
  simp only [cond_false, ob_s, hN]
  obtain ⟨D, h1, h2, h3⟩ := new_eq (n := N) hN1 (by omega)
  rw [h1]
  simp only [ob_s]
  obtain ⟨D1, g1, g2, g3, g4⟩ := open_eq h2 (f := 0) (k := N) (e := 1) hN1 (by omega) rfl
  have hz : allF 1 0 (partW (absD D) 0 N) = ([], 0) := by
    rw [zeros_part h2 (by rw [h3]) 0 N (by omega)]
    exact zeros_all
  rw [hz] at g1 g4
  have g1 : m_9 D 0 (N : Int) 1 = some (_, 0, D1) := g1
  rw [g1]
  simp only [ob_s]
  rw [show ((0 : Int) != 0) = false from rfl]
  simp only [cond_false]
  obtain ⟨r, hr, hcase⟩ := lasts_loop w1.2 w2.2 (by omega) (by omega) hN2 (x1.length + x2.length) 0 D1 _ _ 0 (by omega) (by omega) (by simp) g2 g4 (.inl (by omega))
  have hr : loopO (m_5_1b x1 x2) (0, false, [], 0, D1, _) = some r := hr
  rw [hr]
  simp only [ob_s]
  rcases hcase with rfl | ⟨sy, fs, j, D2, L2, rfl, hfl, k1, k2, hs⟩
  · rfl
  dsimp only [m_5_1k]
  -- the sync at the end
  obtain ⟨D3, sy3, hsy, a1, a2, hs3⟩ : ∃ D3 sy3, (bif (x2.length : Int) == 0 then (ob (mq_22 L2 D2) fun X5 => some ((fs.length : Int), X5)) else (some (sy, D2))) = some (sy3, D3) ∧ Good D3 N ∧ LogOk 0 N 1 fs L2 (absD D3) ∧ Synced N 1 fs (absD D3) sy3 := by
    by_cases e : x2.length = 0
    · obtain ⟨D', q1, q2, q3⟩ := sync_eq k1
      refine ⟨D', (fs.length : Int), ?_, q2, ?_, ⟨fs, [], by simp, rfl, ?_⟩⟩
      · have hb : ((x2.length : Int) == 0) = true := by rw [beq_iff_eq]; omega
        rw [hb]
        unfold mq_22
        rw [q1]; rfl
      · rw [q3]; exact ⟨k2.eq, k2.may, k2.w, k2.len, k2.read⟩
      · intro i hi
        rw [q3]
        have := k2.read i hi
        rw [Nat.zero_add] at this
        exact this
    · refine ⟨D2, sy, ?_, k1, k2, hs.resolve_left e⟩
      have hb : ((x2.length : Int) == 0) = false := by rw [beq_eq_false_iff_ne]; omega
      rw [hb]; rfl
  rw [hsy]
  simp only [ob_s, m_5_5k]
  rw [hN]
  obtain ⟨D4, c1, c2, c3⟩ := crash_eq a1 x3
  rw [c1]
  simp only [ob_s]
  obtain ⟨D5, b1, b2, b3, b4⟩ := open_eq c2 (f := 0) (k := N) (e := 1) hN1 (by omega) rfl
  obtain ⟨gs0, tl, hall, hsyn, hlast⟩ := hs3
  have hst : streamF 1 0 fs = streamF 1 0 gs0 ++ streamF 1 (0 + gs0.length) tl := by rw [hall, streamF_append]
  have hlen := a2.len
  rw [hst, List.length_append] at hlen
  obtain ⟨rest, hrest⟩ := part_prefix (X := absD D4) (f := 0) (k := N) (ws := streamF 1 0 gs0) (vs := streamF 1 (0 + gs0.length) tl) (abs_isS c2) (by rw [(abs_len c2).2.1]; omega) (by omega) (fun i hi => by
    rw [c3, Nat.zero_add]
    rcases crX_read (abs_good a1) x3 hi with h | h
    · left; rw [h]; exact hlast i hi
    · right; rw [h, ← hst]
      have := a2.read i hi
      rw [Nat.zero_add] at this
      exact this)
  have hcnt := stream_count 1 0 gs0
  have hgot : ∃ more, (allF 1 0 (partW (absD D4) 0 N)).1 = gs0 ++ more := by
    rw [hrest]
    exact ⟨_, allF_prefix 1 rfl gs0 0 rest (fun F hF => a2.may F (by rw [hall]; exact List.mem_append_left _ hF)) (by omega)⟩
  obtain ⟨more, hmore⟩ := hgot
  generalize hgs : (allF 1 0 (partW (absD D4) 0 N)).1 = gs at b1 b4 hmore
  have b1 : m_9 D4 0 (N : Int) 1 = some (⟨((0 : Nat) : Int), (N : Int), 1, streamF 1 0 gs, gs⟩, 0, D5) := b1
  rw [b1]
  simp only [ob_s]
  rw [show ((0 : Int) != 0) = false from rfl]
  simp only [cond_false, b4.frames (show 8 * N < _ by omega), ob_s]
  obtain ⟨z, hz2⟩ := words_loop5 (x0 := x0) b2 hN hN2
  rw [hz2]
  simp only [ob_s, m_5_6k]
  have hpl := part_len (X := absD D5) (f := 0) (k := N) (abs_isS b2) (by rw [(abs_len b2).2.1]; omega)
  rw [all_15 (part_isW (abs_isS b2)) (by omega), log_all b4 (abs_isS b2) (by rw [(abs_len b2).2.1]; omega) rfl (by omega)]
  simp only [ob_s, same_refl b4 (show 8 * N < _ by omega), Bool.not_true, cond_false]
  by_cases hgl : gs.length > fs.length
  · rw [show decide ((gs.length : Int) > (fs.length : Int)) = true by simp; omega]; rfl
  rw [show decide ((gs.length : Int) > (fs.length : Int)) = false by simp; omega]
  simp only [cond_false]
  have hcg := stream_count 1 0 gs
  have hbl := b4.len
  rw [show (0 : Int) = ((0 : Nat) : Int) from rfl, sl_eq (by omega) (by omega)]
  simp only [ob_s]
  rw [same_11 (by omega) (fun F hF => by have := (may_iff.1 (b4.may F hF)).2.2; omega)]
  simp only [ob_s]
  cases hd : decide (gs = (fs.take gs.length).drop 0) with
  | false => rfl
  | true =>
    simp only [Bool.not_true, cond_false, Option.some.injEq, decide_eq_true_eq]
    rw [hsyn, hmore, List.length_append]
    omega
end Go.Proofs.Ytdkfdmalbbfbmaa
