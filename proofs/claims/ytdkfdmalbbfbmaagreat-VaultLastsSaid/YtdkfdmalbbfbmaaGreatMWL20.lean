/- Plain laws: a crash; the document's device. -/
import Derived.Test.YtdkfdmalbbfbmaaGreatMWL19
/- Plain laws: a crash; the document's device. -/
namespace Go.Proofs.YtdkfdmalbbfbmaaGreat
open Go
set_option maxRecDepth 4000

/-- A list as a function on places. -/
def lf {α : Type} (n : Nat) (g : Nat → α) : List α := (List.range n).map g
section
variable {α : Type} {n : Nat} {g h : Nat → α}
@[simp] theorem lf_len : (lf n g).length = n := by simp [lf]
theorem lf_get {i : Nat} (hi : i < n) : (lf n g)[i]? = some (g i) := by simp [lf, hi]
theorem lf_gt {i : Nat} (hi : i < n) : gt (lf n g) (i : Int) = some (g i) := gt_at (lf_get hi)
theorem lf_set {i : Nat} (x : α) : (lf n g).set i x = lf n fun p => if p = i then x else g p := by
  apply List.ext_getElem?
  intro p
  rw [List.getElem?_set]
  by_cases hp : p < n
  · rw [lf_get hp, lf_get hp]
    by_cases e : i = p
    · subst e; simp [hp]
    · rw [if_neg e, if_neg (Ne.symm e)]
  · rw [List.getElem?_eq_none (l := lf n g) (by simp; omega), List.getElem?_eq_none (l := lf n _) (by simp; omega)]
    simp [hp]
    intro e; omega
theorem lf_congr (hh : ∀ p, p < n → g p = h p) : lf n g = lf n h := by
  unfold lf
  exact List.map_congr_left fun p hp => hh p (List.mem_range.1 hp)
theorem lf_of (l : List α) (d : α) (hl : l.length = n) : l = lf n fun p => (l[p]?).getD d := by
  apply List.ext_getElem?
  intro p
  by_cases hp : p < n
  · rw [lf_get hp, List.getElem?_eq_getElem (by omega)]; rfl
  · rw [List.getElem?_eq_none (by omega), List.getElem?_eq_none (by simp; omega)]
end

structure GoodX (X : RDisk) (n : Nat) : Prop where
  l : X.Lasts.length = n
  r : X.Read.length = n
  d : X.Dirty.length = n
  small : n ≤ 4096
  ls : ∀ s ∈ X.Lasts, isS s
  rs : ∀ s ∈ X.Read, isS s
  clean : ∀ i : Nat, X.Dirty[i]? = some false → X.Read[i]? = X.Lasts[i]?
theorem abs_good {D : Disk} {n : Nat} (h : Good D n) : GoodX (absD D) n := by
  obtain ⟨a, b, c⟩ := abs_len h
  refine ⟨a, b, c, h.small, h.ls, abs_isS h, fun i hi => ?_⟩
  have hin : i < n := by
    have := (List.getElem?_eq_some_iff.1 hi).1
    omega
  rw [abs_read h hin]
  have hw : wAt D.wr (i : Int) = none := by
    rw [wAt_nat]
    simp only [absD, List.getElem?_map] at hi
    cases hx : D.wr[i]? with
    | none => rfl
    | some o =>
      rw [hx] at hi
      cases o with
      | none => rfl
      | some s => simp at hi
  unfold rdD
  rw [hw]
  simp only [Option.getD_none, Int.toNat_natCast]
  show _ = D.lasts[i]?
  rw [List.getElem?_eq_getElem (by rw [h.len]; exact hin)]; rfl

/-- What a crash leaves: of what was written the k-th lasts, if the list says so. -/
def dirtyB (X : RDisk) (i : Nat) : Bool := (X.Dirty[i]?).getD false
def rank (X : RDisk) (i : Nat) : Nat := ((List.range i).filter (dirtyB X)).length
def keepB (keep : List Bool) (j : Nat) : Bool := (keep[j]?).getD false
def newL (X : RDisk) (keep : List Bool) (i : Nat) : Sec := if dirtyB X i && keepB keep (rank X i) then (X.Read[i]?).getD Z8 else (X.Lasts[i]?).getD Z8
def crX (X : RDisk) (keep : List Bool) : RDisk := ⟨lf X.Lasts.length (newL X keep), lf X.Lasts.length (newL X keep), List.replicate X.Lasts.length false⟩
theorem rank_succ (X : RDisk) (i : Nat) : rank X (i + 1) = rank X i + (if dirtyB X i then 1 else 0) := by
  unfold rank
  rw [List.range_succ, List.filter_append, List.length_append]
  cases h : dirtyB X i <;> simp [h]
theorem rank_le (X : RDisk) (i : Nat) : rank X i ≤ i := by
  unfold rank
  exact Nat.le_trans (List.length_filter_le _ _) (by simp)

section
variable {X : RDisk} {n : Nat}
theorem crX_good (h : GoodX X n) (keep : List Bool) : GoodX (crX X keep) n := by
  have hs : ∀ s ∈ lf X.Lasts.length (newL X keep), isS s := by
    intro s hs
    simp only [lf, List.mem_map, List.mem_range] at hs
    obtain ⟨i, hi, rfl⟩ := hs
    unfold newL
    split
    · rw [List.getElem?_eq_getElem (by rw [h.r]; rw [h.l] at hi; exact hi)]
      exact h.rs _ (List.getElem_mem _)
    · rw [List.getElem?_eq_getElem hi]
      exact h.ls _ (List.getElem_mem _)
  refine ⟨by simp [crX, h.l], by simp [crX, h.l], by simp [crX, h.l], h.small, hs, hs, fun i _ => rfl⟩
theorem ref_write (h : GoodX X n) {i : Nat} (hi : i < n) (s : Sec) : m_44 X (i : Int) s = some (wrX X i s) := by
  unfold m_44
  rw [gt_eq (show i < X.Read.length by rw [h.r]; exact hi), gt_eq (show i < X.Dirty.length by rw [h.d]; exact hi)]
  rfl
theorem wrX_good (h : GoodX X n) {i : Nat} {s : Sec} (hs : isS s) : GoodX (wrX X i s) n := by
  refine ⟨h.l, by simp [wrX, h.r], by simp [wrX, h.d], h.small, h.ls, fun t ht => ?_, fun j hj => ?_⟩
  · rcases List.mem_or_eq_of_mem_set ht with ht | rfl
    · exact h.rs t ht
    · exact hs
  · simp only [wrX] at hj ⊢
    by_cases e : i = j
    · subst e
      rw [List.getElem?_set] at hj
      simp at hj
    · rw [List.getElem?_set_ne e] at hj ⊢
      exact h.clean j hj
theorem syX_good (h : GoodX X n) : GoodX (syX X) n := ⟨h.r, h.r, by simp [syX, h.d], h.small, h.rs, h.rs, fun i _ => rfl⟩
theorem wsX_good (h : GoodX X n) {f a : Nat} {ws : List Int} (hw : ∀ x ∈ ws, isW x) : ∀ m, GoodX (wsX X f ws a m) n
  | 0 => h
  | m + 1 => wrX_good (wsX_good h hw m) (secAt_isS hw _)
theorem ref_sync (h : GoodX X n) : m_45 X = some (syX X) := by
  have hsm := h.small
  unfold m_45
  have key : loopO m_45_1b (0, X) = some ((n : Int), syX X) := by
    have := loopO_count (f := m_45_1b) (fun i => ((i : Int), (⟨lf n fun p => if p < i then (X.Read[p]?).getD Z8 else (X.Lasts[p]?).getD Z8, X.Read, lf n fun p => if p < i then false else (X.Dirty[p]?).getD false⟩ : RDisk))) n (r := ((n : Int), syX X)) (fun i hi => by
      have h1 : decide ((i : Int) < (X.Read.length : Int)) = true := by simp [h.r]; omega
      have e2 : IntKind.wrap .i64 ((i : Int) + 1) = ((i + 1 : Nat) : Int) := by rw [wi64 (by omega) (by omega)]; rfl
      dsimp only [m_45_1b]
      rw [h1, gt_eq (show i < X.Read.length by rw [h.r]; exact hi), lf_gt hi, lf_gt hi]
      simp only [cond_true, ob_s, e2, Int.toNat_natCast, lf_set]
      have hx : (X.Read[i]?).getD Z8 = X.Read[i]'(by rw [h.r]; exact hi) := by rw [List.getElem?_eq_getElem (by rw [h.r]; exact hi)]; rfl
      congr 4
      · refine lf_congr fun p hp => ?_
        by_cases e : p = i
        · subst e; rw [if_pos rfl, if_pos (by omega), hx]
        · rw [if_neg e]
          by_cases q : p < i
          · rw [if_pos q, if_pos (by omega)]
          · rw [if_neg q, if_neg (by omega)]
      · refine lf_congr fun p hp => ?_
        by_cases e : p = i
        · subst e; rw [if_pos rfl, if_pos (by omega)]
        · rw [if_neg e]
          by_cases q : p < i
          · rw [if_pos q, if_pos (by omega)]
          · rw [if_neg q, if_neg (by omega)]) (by
      have h1 : decide ((n : Int) < (X.Read.length : Int)) = false := by simp [h.r]
      dsimp only [m_45_1b]
      rw [h1]
      simp only [cond_false]
      congr 4
      · rw [lf_of X.Read Z8 h.r]
        conv => rhs; rw [lf_of X.Read Z8 h.r]
        refine lf_congr fun p hp => ?_
        rw [if_pos hp, ← lf_of X.Read Z8 h.r]
      · rw [h.d]
        apply List.ext_getElem?
        intro p
        by_cases hp : p < n
        · rw [lf_get hp, if_pos hp, List.getElem?_replicate, if_pos hp]
        · rw [List.getElem?_eq_none (by simp; omega), List.getElem?_eq_none (by simp; omega)])
    have e0 : ((⟨lf n fun p => if p < 0 then (X.Read[p]?).getD Z8 else (X.Lasts[p]?).getD Z8, X.Read, lf n fun p => if p < 0 then false else (X.Dirty[p]?).getD false⟩ : RDisk)) = X := by
      simp only [Nat.not_lt_zero, if_false]
      rw [← lf_of X.Lasts Z8 h.l, ← lf_of X.Dirty false h.d]
    simp only [e0] at this
    exact this
  rw [key]; rfl
theorem ref_crash (h : GoodX X n) (keep : List Bool) : m_21 X keep = some (crX X keep) := by
  have hsm := h.small
  unfold m_21
  have hL : ∀ {p}, p < n → (X.Lasts[p]?) = some ((X.Lasts[p]?).getD Z8) := fun {p} hp => by rw [List.getElem?_eq_getElem (by rw [h.l]; exact hp)]; rfl
  have hR : ∀ {p}, p < n → (X.Read[p]?) = some ((X.Read[p]?).getD Z8) := fun {p} hp => by rw [List.getElem?_eq_getElem (by rw [h.r]; exact hp)]; rfl
  have hD : ∀ {p}, p < n → (X.Dirty[p]?) = some (dirtyB X p) := fun {p} hp => by unfold dirtyB; rw [List.getElem?_eq_getElem (by rw [h.d]; exact hp)]; rfl
  have key : loopO (m_21_1b keep) (0, 0, X) = some ((rank X n : Int), (n : Int), crX X keep) := by
    have := loopO_count (f := m_21_1b keep) (fun i => ((rank X i : Int), (i : Int), (⟨lf n fun p => if p < i then newL X keep p else (X.Lasts[p]?).getD Z8, lf n fun p => if p < i then newL X keep p else (X.Read[p]?).getD Z8, lf n fun p => if p < i then false else dirtyB X p⟩ : RDisk))) n (r := ((rank X n : Int), (n : Int), crX X keep)) (fun i hi => by
      have h1 : decide ((i : Int) < ((lf n fun p => if p < i then newL X keep p else (X.Read[p]?).getD Z8).length : Int)) = true := by simp; omega
      have e2 : IntKind.wrap .i64 ((i : Int) + 1) = ((i + 1 : Nat) : Int) := by rw [wi64 (by omega) (by omega)]; rfl
      have hr := rank_le X i
      have e3 : IntKind.wrap .i64 ((rank X i : Int) + 1) = ((rank X i + 1 : Nat) : Int) := by rw [wi64 (by omega) (by omega)]; rfl
      dsimp only [m_21_1b]
      rw [h1, lf_gt hi]
      simp only [cond_true, ob_s]
      rw [if_neg (by omega)]
      rw [rank_succ]
      cases hb : dirtyB X i with
      | false =>
        simp only [Bool.not_false, cond_true, e2]
        have hnew : newL X keep i = (X.Lasts[i]?).getD Z8 := by unfold newL; rw [hb]; rfl
        have hcl := h.clean i (by rw [hD hi, hb])
        congr 4
        congr 1
        · refine lf_congr fun p hp => ?_
          by_cases e : p = i
          · subst e; rw [if_neg (by omega), if_pos (by omega), hnew]
          · by_cases q : p < i
            · rw [if_pos q, if_pos (by omega)]
            · rw [if_neg q, if_neg (by omega)]
        · refine lf_congr fun p hp => ?_
          by_cases e : p = i
          · subst e; rw [if_neg (by omega), if_pos (by omega), hnew, hcl]
          · by_cases q : p < i
            · rw [if_pos q, if_pos (by omega)]
            · rw [if_neg q, if_neg (by omega)]
        · refine lf_congr fun p hp => ?_
          by_cases e : p = i
          · subst e; rw [if_neg (by omega), if_pos (by omega), hb]
          · by_cases q : p < i
            · rw [if_pos q, if_pos (by omega)]
            · rw [if_neg q, if_neg (by omega)]
      | true =>
        simp only [Bool.not_true, cond_false]
        have hkp : (bif decide ((rank X i : Int) < (keep.length : Int)) then (ob (gt keep (rank X i : Int)) fun x10 => some x10) else (some false)) = some (keepB keep (rank X i)) := by
          unfold keepB
          by_cases hq : rank X i < keep.length
          · rw [show decide ((rank X i : Int) < (keep.length : Int)) = true by simp; omega, gt_eq hq, List.getElem?_eq_getElem hq]; rfl
          · rw [show decide ((rank X i : Int) < (keep.length : Int)) = false by simp; omega, List.getElem?_eq_none (by omega)]; rfl
        rw [hkp]
        simp only [ob_s]
        cases hk2 : keepB keep (rank X i) with
        | true =>
          have hnew : newL X keep i = (X.Read[i]?).getD Z8 := by unfold newL; rw [hb, hk2]; rfl
          rw [lf_gt hi, lf_gt hi]
          simp only [cond_true, ob_s, if_neg (Nat.lt_irrefl i), Int.toNat_natCast, lf_set, m_21_2k]
          rw [lf_gt hi, lf_gt hi, lf_gt hi]
          simp only [ob_s, if_pos, if_neg (Nat.lt_irrefl i), lf_set, e2, e3]
          congr 4
          congr 1
          · refine lf_congr fun p hp => ?_
            by_cases e : p = i
            · subst e; rw [if_pos rfl, if_pos (by omega), hnew]
            · rw [if_neg e]
              by_cases q : p < i
              · rw [if_pos q, if_pos (by omega)]
              · rw [if_neg q, if_neg (by omega)]
          · refine lf_congr fun p hp => ?_
            by_cases e : p = i
            · subst e; rw [if_pos rfl, if_pos (by omega), hnew]
            · rw [if_neg e]
              by_cases q : p < i
              · rw [if_pos q, if_pos (by omega)]
              · rw [if_neg q, if_neg (by omega)]
          · refine lf_congr fun p hp => ?_
            by_cases e : p = i
            · subst e; rw [if_pos rfl, if_pos (by omega)]
            · rw [if_neg e]
              by_cases q : p < i
              · rw [if_pos q, if_pos (by omega)]
              · rw [if_neg q, if_neg (by omega)]
        | false =>
          have hnew : newL X keep i = (X.Lasts[i]?).getD Z8 := by unfold newL; rw [hb, hk2]; rfl
          simp only [cond_false, ob_s, m_21_2k]
          rw [lf_gt hi, lf_gt hi, lf_gt hi]
          simp only [ob_s, if_neg (Nat.lt_irrefl i), Int.toNat_natCast, lf_set, e2, e3]
          congr 4
          congr 1
          · refine lf_congr fun p hp => ?_
            by_cases e : p = i
            · subst e; rw [if_neg (by omega), if_pos (by omega), hnew]
            · by_cases q : p < i
              · rw [if_pos q, if_pos (by omega)]
              · rw [if_neg q, if_neg (by omega)]
          · refine lf_congr fun p hp => ?_
            by_cases e : p = i
            · subst e; rw [if_pos rfl, if_pos (by omega), hnew]
            · rw [if_neg e]
              by_cases q : p < i
              · rw [if_pos q, if_pos (by omega)]
              · rw [if_neg q, if_neg (by omega)]
          · refine lf_congr fun p hp => ?_
            by_cases e : p = i
            · subst e; rw [if_pos rfl, if_pos (by omega)]
            · rw [if_neg e]
              by_cases q : p < i
              · rw [if_pos q, if_pos (by omega)]
              · rw [if_neg q, if_neg (by omega)]) (by
      have h1 : decide ((n : Int) < ((lf n fun p => if p < n then newL X keep p else (X.Read[p]?).getD Z8).length : Int)) = false := by simp
      dsimp only [m_21_1b]
      rw [h1]
      simp only [cond_false, crX, h.l]
      congr 4
      congr 1
      · exact lf_congr fun p hp => if_pos hp
      · exact lf_congr fun p hp => if_pos hp
      · apply List.ext_getElem?
        intro p
        by_cases hp : p < n
        · rw [lf_get hp, if_pos hp, List.getElem?_replicate, if_pos hp]
        · rw [List.getElem?_eq_none (by simp; omega), List.getElem?_eq_none (by simp; omega)])
    have e0 : ((⟨lf n fun p => if p < 0 then newL X keep p else (X.Lasts[p]?).getD Z8, lf n fun p => if p < 0 then newL X keep p else (X.Read[p]?).getD Z8, lf n fun p => if p < 0 then false else dirtyB X p⟩ : RDisk)) = X := by
      simp only [Nat.not_lt_zero, if_false]
      unfold dirtyB
      rw [← lf_of X.Lasts Z8 h.l, ← lf_of X.Read Z8 h.r, ← lf_of X.Dirty false h.d]
    simp only [e0] at this
    exact this
  rw [key]; rfl
end

/-- The program's crash is the document's. -/
theorem dirty_abs (D : Disk) : dirty D.wr = ((List.range D.wr.length).filter (dirtyB (absD D))).map Int.ofNat := by
  unfold dirty
  congr 1
  refine List.filter_congr fun i hi => ?_
  have hi := List.mem_range.1 hi
  unfold dirtyB absD
  simp only [List.getElem?_map]
  rw [List.getElem?_eq_getElem hi]
  cases D.wr[i] <;> rfl
theorem crash_eq {D : Disk} {n : Nat} (h : Good D n) (keep : List Bool) : ∃ D', mq_19 D keep = some D' ∧ Good D' n ∧ absD D' = crX (absD D) keep := by
  have hsm := h.small
  have hdl : (dirty D.wr).length ≤ n := by have := dirty_le D.wr; have := h.wr; omega
  have hr := last_run (D := D) (cK keep) (fun j => (j : Int)) (fun j => keepB keep j) (by omega) (fun j hj => by
    unfold cK
    have e3 : IntKind.wrap .i64 ((j : Int) + 1) = ((j + 1 : Nat) : Int) := by rw [wi64 (by omega) (by omega)]; rfl
    rw [e3]
    unfold keepB
    by_cases hq : j < keep.length
    · rw [show decide (((j + 1 : Nat) : Int) ≤ (keep.length : Int)) = true by simp; omega, show IntKind.wrap .i64 (((j + 1 : Nat) : Int) - 1) = ((j : Nat) : Int) by rw [wi64 (by omega) (by omega)]; omega, gt_eq hq, List.getElem?_eq_getElem hq]; rfl
    · rw [show decide (((j + 1 : Nat) : Int) ≤ (keep.length : Int)) = false by simp; omega, List.getElem?_eq_none (by omega)]; rfl)
  have hlen := lastL_len D.wr (dirty D.wr) (fun j => keepB keep j) D.lasts (dirty D.wr).length
  have hrank : ∀ p, p < n → dirtyB (absD D) p = true → (dirty D.wr)[rank (absD D) p]? = some (p : Int) := by
    intro p hp hd
    rw [dirty_abs, List.getElem?_map]
    have hspl : List.range D.wr.length = List.range p ++ (p :: (List.range (D.wr.length - (p + 1))).map (p + 1 + ·)) := by
      have := List.range_add (n := p) (m := D.wr.length - p)
      rw [show p + (D.wr.length - p) = D.wr.length by have := h.wr; omega] at this
      rw [this, show D.wr.length - p = (D.wr.length - (p + 1)) + 1 by have := h.wr; omega, List.range_succ_eq_map]
      simp [Function.comp_def, Nat.add_assoc, Nat.add_comm 1]
    rw [hspl, List.filter_append, List.filter_cons, if_pos hd]
    unfold rank
    rw [List.getElem?_append_right (Nat.le_refl _), Nat.sub_self]
    rfl
  have heq : lastL D.wr (dirty D.wr) (fun j => keepB keep j) D.lasts (dirty D.wr).length = lf n (newL (absD D) keep) := by
    apply List.ext_getElem?
    intro p
    by_cases hp : p < n
    · rw [lastL_get D.wr _ _ _ dirty_nonneg p (by rw [h.len]; exact hp) _ (Nat.le_refl _), lf_get hp]
      unfold newL
      rw [abs_read h hp]
      have hl0 : (absD D).Lasts[p]? = D.lasts[p]? := rfl
      rw [hl0]
      cases hd : dirtyB (absD D) p with
      | true =>
        have hq := hrank p hp hd
        have hq2 := (List.getElem?_eq_some_iff.1 hq).1
        have hmem : (p : Int) ∈ dirty D.wr := List.mem_of_getElem? hq
        obtain ⟨s, hs⟩ := Option.isSome_iff_exists.1 (mem_dirty.1 hmem)
        have hrd : rdD D (p : Int) = s := by unfold rdD; rw [hs]; rfl
        cases hkp : keepB keep (rank (absD D) p) with
        | true =>
          rw [if_pos ⟨_, hq2, hq, hkp⟩, hs, hrd]; rfl
        | false =>
          rw [if_neg]
          · simp only [Bool.and_false, Bool.false_eq_true, if_false]
            rw [List.getElem?_eq_getElem (by rw [h.len]; exact hp)]; rfl
          · rintro ⟨q, h1, h2, h3⟩
            have hnd := dirty_nodup D.wr
            have hqq : q = rank (absD D) p := (List.getElem?_inj h1 hnd).1 (h2.trans hq.symm)
            subst hqq
            rw [hkp] at h3; cases h3
      | false =>
        rw [if_neg]
        · simp only [Bool.false_and, Bool.false_eq_true, if_false]
          rw [List.getElem?_eq_getElem (by rw [h.len]; exact hp)]; rfl
        · rintro ⟨q, h1, h2, h3⟩
          have hmem : (p : Int) ∈ dirty D.wr := List.mem_of_getElem? h2
          rw [dirty_abs] at hmem
          obtain ⟨x, hx, hx2⟩ := List.mem_map.1 hmem
          have : x = p := by have : (x : Int) = (p : Int) := hx2; omega
          subst this
          rw [(List.mem_filter.1 hx).2] at hd; cases hd
    · rw [List.getElem?_eq_none (by rw [hlen, h.len]; omega), List.getElem?_eq_none (by simp; omega)]
  have hg := crX_good (abs_good h) keep
  have hl0 : (absD D).Lasts.length = n := (abs_len h).1
  refine ⟨⟨lastL D.wr (dirty D.wr) (fun j => keepB keep j) D.lasts (dirty D.wr).length, List.replicate D.wr.length none⟩, ?_, good_last h (by rw [hlen, h.len]) ?_, ?_⟩
  · unfold mq_19
    have hr : m_49 (cK keep) D 0 = _ := hr
    rw [hr]; rfl
  · rw [heq]
    have := hg.ls
    unfold crX at this
    rw [hl0] at this
    exact this
  · rw [abs_clean, heq]
    unfold crX
    rw [hl0, h.wr]
end Go.Proofs.YtdkfdmalbbfbmaaGreat

/- The plain law of LogLasts. -/
namespace Go.Proofs.YtdkfdmalbbfbmaaGreat
open Go
set_option maxRecDepth 4000

theorem LogOk.good_frames {f k : Nat} {e : Int} {fs : List Frame} {L : LogM} {X : RDisk} (h : LogOk f k e fs L X) : L.frames = fs := by rw [h.eq]
theorem allF_prefix (e : Int) (he : num e = true) : ∀ (fs : List Frame) (n : Nat) (r : List Int), (∀ F ∈ fs, may F = true) → n + fs.length ≤ 4294967296 → (allF e n (streamF e n fs ++ r)).1 = fs ++ (allF e (n + fs.length) r).1
  | [], n, r, _, _ => by simp [streamF]
  | F :: fs, n, r, hm, hn => by
    have hg : getF e n (streamF e n (F :: fs) ++ r) = some F := getF_iff.2 ⟨hm F List.mem_cons_self, he, num_iff.2 ⟨by omega, by simp only [List.length_cons] at hn; omega⟩, streamF e (n + 1) fs ++ r, by simp [streamF]⟩
    rw [allF_some hg]
    have hd : (streamF e n (F :: fs) ++ r).drop (1 + F.Words.length) = streamF e (n + 1) fs ++ r := by
      simp only [streamF, List.append_assoc]
      rw [← putF_len e n F, List.drop_left]
    rw [hd, allF_prefix e he fs (n + 1) r (fun G hG => hm G (List.mem_cons_of_mem _ hG)) (by simp only [List.length_cons] at hn; omega)]
    rw [show n + 1 + fs.length = n + (F :: fs).length by simp; omega]
    rfl
/-- What is read behind a crash, sector by sector. -/
theorem crX_read {X : RDisk} {n : Nat} (h : GoodX X n) (keep : List Bool) {i : Nat} (hi : i < n) : (crX X keep).Read[i]? = X.Lasts[i]? ∨ (crX X keep).Read[i]? = X.Read[i]? := by
  unfold crX
  rw [h.l, lf_get hi]
  unfold newL
  split
  · right; rw [List.getElem?_eq_getElem (by rw [h.r]; exact hi)]; rfl
  · left; rw [List.getElem?_eq_getElem (by rw [h.l]; exact hi)]; rfl
/-- Words whose sectors are those of one stream or of a longer one begin with the first. -/
theorem part_prefix {X : RDisk} {f k : Nat} (hs : ∀ s ∈ X.Read, isS s) (hfk : f + k ≤ X.Read.length) {ws vs : List Int} (hl : ws.length ≤ 8 * k) (h : ∀ i, i < k → X.Read[f + i]? = some (secAt ws i) ∨ X.Read[f + i]? = some (secAt (ws ++ vs) i)) : ∃ r, partW X f k = ws ++ r := by
  refine ⟨(partW X f k).drop ws.length, ?_⟩
  have hpl := part_len (f := f) (k := k) hs hfk
  have : (partW X f k).take ws.length = ws := by
    apply List.ext_getElem?
    intro p
    by_cases hp : p < ws.length
    · rw [List.getElem?_take, if_pos hp]
      have hi : p / 8 < k := by omega
      have e1 := part_sec hs hfk hi
      have e3 : (partW X f k)[p]? = some ((partW X f k)[p]'(by omega)) := List.getElem?_eq_getElem (by omega)
      rcases h _ hi with h1 | h1
      · rw [h1] at e1
        have e2 := congrArg (fun s : Option Sec => s.bind (·[p % 8]?)) e1
        simp only [Option.bind_some] at e2
        rw [secAt_get _ _ _ (by omega), secAt_get _ _ _ (by omega), show 8 * (p / 8) + p % 8 = p by omega, e3, List.getElem?_eq_getElem hp] at e2
        rw [e3, List.getElem?_eq_getElem hp]
        simpa using e2.symm
      · rw [h1] at e1
        have e2 := congrArg (fun s : Option Sec => s.bind (·[p % 8]?)) e1
        simp only [Option.bind_some] at e2
        rw [secAt_get _ _ _ (by omega), secAt_get _ _ _ (by omega), show 8 * (p / 8) + p % 8 = p by omega, e3, List.getElem?_append_left hp, List.getElem?_eq_getElem hp] at e2
        rw [e3, List.getElem?_eq_getElem hp]
        simpa using e2.symm
    · rw [List.getElem?_eq_none (by rw [List.length_take]; omega), List.getElem?_eq_none (by omega)]
  conv => lhs; rw [← List.take_append_drop ws.length (partW X f k)]
  rw [this]
theorem wsX_lasts (X : RDisk) (f : Nat) (ws : List Int) (a : Nat) : ∀ m, (wsX X f ws a m).Lasts = X.Lasts
  | 0 => rfl
  | m + 1 => by simp only [wsX, wrX]; exact wsX_lasts X f ws a m

/-- So much lasts. -/
def Synced (N : Nat) (e : Int) (all : List Frame) (X : RDisk) (synced : Int) : Prop := ∃ fs tl, all = fs ++ tl ∧ synced = (fs.length : Int) ∧ ∀ i, i < N → X.Lasts[i]? = some (secAt (streamF e 0 fs) i)

theorem kind_eta (F : Frame) : (⟨F.Kind, F.Words⟩ : Frame) = F := by cases F; rfl
end Go.Proofs.YtdkfdmalbbfbmaaGreat

/- Plain laws: the document's log. -/
namespace Go.Proofs.YtdkfdmalbbfbmaaGreat
open Go
set_option maxRecDepth 4000

theorem st_eq {xs : List Int} {i : Nat} {z : Int} (h : i < xs.length) : st xs (i : Int) z = some (xs.set i z) := by
  unfold st
  rw [show (decide (0 ≤ (i : Int)) && decide ((i : Int) < (xs.length : Int))) = true by simp; omega]; rfl
/-- The words of a sector are told one by one. -/
theorem ref_sec {X : RDisk} {f j : Nat} {s : Sec} (hs : X.Read[f + j]? = some s) (h8 : s.length = 8) (hj : f + j < 4096) {out : List Int} (hl : out.length < 4294967000) : loopO (m_43_2b X (f : Int) (j : Int)) (out, 0) = some (out ++ s, 8) := by
  have hw : IntKind.wrap .i64 ((f : Int) + (j : Int)) = ((f + j : Nat) : Int) := by rw [wi64 (by omega) (by omega)]; omega
  have := loopO_count (f := m_43_2b X (f : Int) (j : Int)) (fun i => (out ++ s.take i, (i : Int))) 8 (r := (out ++ s, 8)) (fun i hi => by
    have h1 : decide ((i : Int) < 8) = true := by simp; omega
    have h0 : decide (0 ≤ (i : Int)) = true := by simp
    have e2 : IntKind.wrap .i64 ((i : Int) + 1) = ((i + 1 : Nat) : Int) := by rw [wi64 (by omega) (by omega)]; rfl
    dsimp only [m_43_2b]
    rw [h1, h0, hw, gt_at hs]
    simp only [cond_true, ob_s, Bool.and_self, gd_t]
    rw [gt_eq (show i < s.length by omega)]
    simp only [ob_s]
    rw [ap_eq (by simp; omega)]
    simp only [ob_s, e2]
    rw [List.take_succ_eq_append_getElem (show i < s.length by omega), List.append_assoc]) (by
    dsimp only [m_43_2b]
    rw [List.take_of_length_le (by omega)]; rfl)
  simpa using this
theorem ref_words {X : RDisk} {n : Nat} (h : GoodX X n) {f k : Nat} (hfk : f + k ≤ n) : m_43 X (f : Int) (k : Int) = some (partW X f k) := by
  have hsm := h.small
  unfold m_43
  have key : loopO (m_43_1b X (f : Int) (k : Int)) ([], 0) = some (partW X f k, (k : Int)) := by
    have := loopO_count (f := m_43_1b X (f : Int) (k : Int)) (fun i => (((X.Read.drop f).take i).flatten, (i : Int))) k (r := (partW X f k, (k : Int))) (fun i hi => by
      have h1 : decide ((i : Int) < (k : Int)) = true := by simp; omega
      have e2 : IntKind.wrap .i64 ((i : Int) + 1) = ((i + 1 : Nat) : Int) := by rw [wi64 (by omega) (by omega)]; rfl
      have hl : ((X.Read.drop f).take i).flatten.length = 8 * i := by
        rw [words_len (fun s hh => h.rs s (List.mem_of_mem_drop (List.mem_of_mem_take hh))), List.length_take, List.length_drop, h.r]; omega
      have hfi : f + i < X.Read.length := by rw [h.r]; omega
      have hg : X.Read[f + i]? = some (X.Read[f + i]) := List.getElem?_eq_getElem hfi
      dsimp only [m_43_1b]
      rw [h1]
      simp only [cond_true]
      rw [ref_sec hg (h.rs _ (List.getElem_mem hfi)).1 (by omega) (by omega)]
      simp only [ob_s, m_43_2k, e2]
      rw [List.take_succ_eq_append_getElem (show i < (X.Read.drop f).length by rw [List.length_drop]; omega), List.flatten_append]
      simp [List.getElem_drop]) (by
      dsimp only [m_43_1b]
      rw [show decide ((k : Int) < (k : Int)) = false by simp]
      rfl)
    simpa using this
  rw [key]; rfl
/-- The length of what a log has. -/
theorem ref_used {f k : Int} {e : Int} {fs : List Frame} (hm : ∀ F ∈ fs, may F = true) (hl : (streamF e 0 fs).length < 4294967296) : m_47 ⟨f, k, e, fs⟩ = some ((streamF e 0 fs).length : Int) := by
  unfold m_47
  have hc := stream_count e 0 fs
  have key : loopO (m_47_1b ⟨f, k, e, fs⟩) (0, 0) = some (((streamF e 0 fs).length : Int), (fs.length : Int)) := by
    have := loopO_count (f := m_47_1b ⟨f, k, e, fs⟩) (fun i => (((streamF e 0 (fs.take i)).length : Int), (i : Int))) fs.length (r := (((streamF e 0 fs).length : Int), (fs.length : Int))) (fun i hi => by
      have h1 : decide ((i : Int) < (fs.length : Int)) = true := by simp; omega
      have e2 : IntKind.wrap .i64 ((i : Int) + 1) = ((i + 1 : Nat) : Int) := by rw [wi64 (by omega) (by omega)]; rfl
      have hF := (may_iff.1 (hm _ (List.getElem_mem hi))).2.2
      have hlen : (streamF e 0 (fs.take (i + 1))).length = (streamF e 0 (fs.take i)).length + (1 + fs[i].Words.length) := by
        rw [List.take_succ_eq_append_getElem hi, streamF_append, List.length_append]
        simp [streamF, putF_len]
      have hle : (streamF e 0 (fs.take (i + 1))).length ≤ (streamF e 0 fs).length := by
        conv => rhs; rw [← List.take_append_drop (i + 1) fs]
        rw [streamF_append, List.length_append]; omega
      dsimp only [m_47_1b]
      rw [h1, gt_eq hi]
      simp only [cond_true, ob_s, e2]
      rw [wi64 (x := (((streamF e 0 (fs.take i)).length : Nat) : Int) + 1) (by omega) (by omega), wi64 (by omega) (by omega), hlen]
      congr 3
      omega) (by
      dsimp only [m_47_1b]
      rw [show decide ((fs.length : Int) < (fs.length : Int)) = false by simp, List.take_length]; rfl)
    simpa [streamF] using this
  rw [key]; rfl
/-- The document's opening. -/
theorem ref_open {X : RDisk} {n : Nat} (h : GoodX X n) {f k : Nat} {e : Int} (hfk : f + k ≤ n) :
    m_17 X (f : Int) (k : Int) e = some (⟨(f : Int), (k : Int), e, (allF e 0 (partW X f k)).1⟩, clX X f k (streamF e 0 (allF e 0 (partW X f k)).1)) := by
  have hsm := h.small
  have hrl := h.r
  have hpl := part_len (f := f) (k := k) h.rs (by rw [hrl]; exact hfk)
  have hpw := part_isW (f := f) (k := k) h.rs
  obtain ⟨r, hr1, hr2, hr3, hr4⟩ := allF_spec e _ 0 (partW X f k) (Nat.le_refl _)
  have hfw := allF_isW (e := e) hpw _ 0 (partW X f k) (Nat.le_refl _) hpw
  unfold m_17
  rw [ref_words h hfk]
  simp only [ob_s]
  rw [all_15 hpw (by omega)]
  simp only [ob_s]
  generalize hfs : (allF e 0 (partW X f k)).1 = fs at hr1 hr2 hr3 hr4 hfw ⊢
  rw [hr2]
  have hsl : (streamF e 0 fs).length ≤ 8 * k := by
    have := congrArg List.length hr1
    rw [List.length_append, hpl] at this
    omega
  have hsw := isW_stream (e := e) (n := 0) hr3 hfw
  generalize hst : streamF e 0 fs = st at hr1 hsl hsw ⊢
  -- one sector
  have sect : ∀ {m : Nat} {s : Sec}, m < k → X.Read[f + m]? = some s → loopO (m_17_2b (st.length : Int) (m : Int)) (false, 0, s) = some (decide (s ≠ secAt st m), 8, secAt st m) := by
    intro m s hm hs
    have h8 := (h.rs s (List.mem_of_getElem? hs)).1
    have hsec := part_sec h.rs (by rw [hrl]; exact hfk) hm
    rw [hs] at hsec
    have hget : ∀ i, i < 8 → s[i]? = some (((partW X f k)[8 * m + i]?).getD 0) := fun i hi => by
      rw [Option.some.inj hsec]; exact secAt_get _ _ _ hi
    have hlow : ∀ i, i < 8 → 8 * m + i < st.length → s[i]? = (secAt st m)[i]? := fun i hi hlt => by
      rw [hget i hi, secAt_get _ _ _ hi, hr1, List.getElem?_append_left hlt]
    have hst8 : (secAt st m).length = 8 := (secAt_isS hsw m).1
    have hgen : ∀ d i, 8 - i = d → i ≤ 8 → loopO (m_17_2b (st.length : Int) (m : Int)) (decide (s.take i ≠ (secAt st m).take i), (i : Int), (secAt st m).take i ++ s.drop i) = some (decide (s ≠ secAt st m), 8, secAt st m) := by
      intro d
      induction d with
      | zero =>
        intro i hd hi
        have : i = 8 := by omega
        subst this
        refine loopO_end ?_
        dsimp only [m_17_2b]
        rw [List.take_of_length_le (by omega), List.take_of_length_le (by omega), List.drop_eq_nil_of_le (by omega), List.append_nil]; rfl
      | succ d ih =>
        intro i hd hi
        have hlt : i < 8 := by omega
        have h1 : decide ((i : Int) < 8) = true := by simp; omega
        have h0 : decide (0 ≤ (i : Int)) = true := by simp
        have e2 : IntKind.wrap .i64 ((i : Int) + 1) = ((i + 1 : Nat) : Int) := by rw [wi64 (by omega) (by omega)]; rfl
        have e3 : IntKind.wrap .i64 (IntKind.wrap .i64 (8 * (m : Int)) + (i : Int)) = ((8 * m + i : Nat) : Int) := by rw [wi64 (x := 8 * (m : Int)) (by omega) (by omega), wi64 (by omega) (by omega)]; omega
        have hcur : ((secAt st m).take i ++ s.drop i)[i]? = s[i]? := by
          rw [List.getElem?_append_right (by rw [List.length_take]; omega), List.length_take, Nat.min_eq_left (by omega), Nat.sub_self, List.getElem?_drop, Nat.add_zero]
        have hgi := hget i hlt
        have hsg := secAt_get st m i hlt
        have hset : ∀ y, (secAt st m)[i]? = some y → ((secAt st m).take i ++ s.drop i).set i y = (secAt st m).take (i + 1) ++ s.drop (i + 1) := by
          intro y hy
          have hy2 : (secAt st m)[i]'(by omega) = y := by
            rw [List.getElem?_eq_getElem (by omega)] at hy; exact Option.some.inj hy
          rw [List.take_succ_eq_append_getElem (show i < (secAt st m).length by omega), hy2, List.append_assoc, List.set_append, List.length_take, Nat.min_eq_left (by omega), if_neg (by omega), Nat.sub_self]
          rw [List.drop_eq_getElem_cons (show i < s.length by omega)]
          rfl
        have hkeep : s[i]? = (secAt st m)[i]? → (secAt st m).take i ++ s.drop i = (secAt st m).take (i + 1) ++ s.drop (i + 1) := by
          intro hy
          have hy3 : s[i]'(by omega) = (secAt st m)[i]'(by omega) := by
            rw [List.getElem?_eq_getElem (by omega), List.getElem?_eq_getElem (by omega)] at hy; exact Option.some.inj hy
          rw [List.take_succ_eq_append_getElem (show i < (secAt st m).length by omega), List.drop_eq_getElem_cons (show i < s.length by omega), hy3, List.append_assoc]; rfl
        have hdec : s[i]? = (secAt st m)[i]? → decide (s.take (i + 1) ≠ (secAt st m).take (i + 1)) = decide (s.take i ≠ (secAt st m).take i) := by
          intro hy
          have hy3 : s[i]'(by omega) = (secAt st m)[i]'(by omega) := by
            rw [List.getElem?_eq_getElem (by omega), List.getElem?_eq_getElem (by omega)] at hy; exact Option.some.inj hy
          rw [List.take_succ_eq_append_getElem (show i < (secAt st m).length by omega), List.take_succ_eq_append_getElem (show i < s.length by omega), hy3]
          simp only [ne_eq, List.append_cancel_right_eq]
        have hne : s[i]? ≠ (secAt st m)[i]? → decide (s.take (i + 1) ≠ (secAt st m).take (i + 1)) = true := by
          intro hy
          rw [decide_eq_true_eq]
          intro e
          apply hy
          have := congrArg (·[i]?) e
          simpa [List.getElem?_take] using this
        by_cases hz : 8 * m + i < st.length
        · have hy := hlow i hlt hz
          rw [loopO_next (s' := (decide (s.take (i + 1) ≠ (secAt st m).take (i + 1)), ((i + 1 : Nat) : Int), (secAt st m).take (i + 1) ++ s.drop (i + 1))) ?_]
          · exact ih (i + 1) (by omega) (by omega)
          · dsimp only [m_17_2b]
            rw [h1, e3, show decide (((8 * m + i : Nat) : Int) ≥ (st.length : Int)) = false by simp; omega]
            simp only [cond_true, cond_false, ob_s, m_17_3k, e2]
            rw [hdec hy, ← hkeep hy]
        · rw [List.getElem?_eq_none (l := st) (by omega)] at hsg
          have hsg : (secAt st m)[i]? = some 0 := hsg
          by_cases hv : ((partW X f k)[8 * m + i]?).getD 0 = 0
          · rw [hv] at hgi
            have hy : s[i]? = (secAt st m)[i]? := by rw [hgi, hsg]
            rw [loopO_next (s' := (decide (s.take (i + 1) ≠ (secAt st m).take (i + 1)), ((i + 1 : Nat) : Int), (secAt st m).take (i + 1) ++ s.drop (i + 1))) ?_]
            · exact ih (i + 1) (by omega) (by omega)
            · dsimp only [m_17_2b]
              rw [h1, e3, h0, show decide (((8 * m + i : Nat) : Int) ≥ (st.length : Int)) = true by simp; omega]
              simp only [cond_true, ob_s, Bool.and_self, gd_t]
              rw [gt_at (hcur.trans hgi)]
              simp only [ob_s, m_17_3k, e2]
              rw [show ((0 : Int) != 0) = false from rfl]
              simp only [cond_false, ob_s, m_17_3k, e2, hdec hy, ← hkeep hy]
          · have hy : s[i]? ≠ (secAt st m)[i]? := by rw [hgi, hsg]; exact fun e => hv (Option.some.inj e)
            rw [loopO_next (s' := (decide (s.take (i + 1) ≠ (secAt st m).take (i + 1)), ((i + 1 : Nat) : Int), (secAt st m).take (i + 1) ++ s.drop (i + 1))) ?_]
            · exact ih (i + 1) (by omega) (by omega)
            · dsimp only [m_17_2b]
              rw [h1, e3, h0, show decide (((8 * m + i : Nat) : Int) ≥ (st.length : Int)) = true by simp; omega]
              simp only [cond_true, ob_s, Bool.and_self, gd_t]
              rw [gt_at (hcur.trans hgi)]
              simp only [ob_s, m_17_3k, e2]
              rw [show ((((partW X f k)[8 * m + i]?).getD 0) != 0) = true by simpa using hv]
              simp only [cond_true, ob_s]
              rw [st_eq (by simp; omega), hset 0 hsg]
              simp only [ob_s, m_17_3k, e2, hne hy]
    have := hgen 8 0 rfl (by omega)
    simpa using this
  have key : ∀ m, m ≤ k → loopO (m_17_1b (f : Int) (k : Int) (st.length : Int)) (false, 0, X) = loopO (m_17_1b (f : Int) (k : Int) (st.length : Int)) (((List.range m).foldl (clS f st) (false, X)).1, (m : Int), ((List.range m).foldl (clS f st) (false, X)).2) ∧ GoodX ((List.range m).foldl (clS f st) (false, X)).2 n := by
    intro m
    induction m with
    | zero => intro _; exact ⟨rfl, h⟩
    | succ m ih =>
      intro hm
      obtain ⟨g1, g2⟩ := ih (by omega)
      have hd : decide ((m : Int) < (k : Int)) = true := by simp; omega
      have e1 : IntKind.wrap .i64 ((m : Int) + 1) = ((m + 1 : Nat) : Int) := by rw [wi64 (by omega) (by omega)]; rfl
      have e4 : IntKind.wrap .i64 ((f : Int) + (m : Int)) = ((f + m : Nat) : Int) := by rw [wi64 (by omega) (by omega)]; omega
      have hfm : f + m < n := by omega
      have hfar := clS_far f st X (f + m) m (by omega)
      have hr : X.Read[f + m]? = some (X.Read[f + m]'(by omega)) := List.getElem?_eq_getElem (by omega)
      generalize hs : X.Read[f + m]'(by omega) = s at hr
      rw [List.range_succ, List.foldl_append]
      simp only [List.foldl_cons, List.foldl_nil]
      generalize ((List.range m).foldl (clS f st) (false, X)) = acc at g1 g2 hfar ⊢
      have hcl : clS f st acc m = if s = secAt st m then acc else (true, wrX acc.2 (f + m) (secAt st m)) := by
        unfold clS
        rw [hfar, hr]
        by_cases e : s = secAt st m
        · rw [if_pos (by rw [e]), if_pos e]
        · rw [if_neg (fun q => e (Option.some.inj q)), if_neg e]
      rw [hcl]
      have hsec := sect (m := m) (by omega) hr
      by_cases e : s = secAt st m
      · rw [if_pos e]
        refine ⟨?_, g2⟩
        rw [g1]
        refine loopO_next ?_
        dsimp only [m_17_1b]
        rw [hd, e4, gt_at (hfar.trans hr)]
        simp only [cond_true, ob_s]
        rw [hsec]
        simp only [ob_s, m_17_2k]
        rw [show decide (s ≠ secAt st m) = false by simp [e]]
        simp only [cond_false, ob_s, m_17_4k, e1]
      · rw [if_neg e]
        refine ⟨?_, wrX_good g2 (secAt_isS hsw m)⟩
        rw [g1]
        refine loopO_next ?_
        dsimp only [m_17_1b]
        rw [hd, e4, gt_at (hfar.trans hr)]
        simp only [cond_true, ob_s]
        rw [hsec]
        simp only [ob_s, m_17_2k]
        rw [show decide (s ≠ secAt st m) = true by simp [e], e4, ref_write g2 hfm]
        simp only [cond_true, ob_s, m_17_4k, e1]
  obtain ⟨g1, g2⟩ := key k (Nat.le_refl _)
  have hend : loopO (m_17_1b (f : Int) (k : Int) (st.length : Int)) (((List.range k).foldl (clS f st) (false, X)).1, (k : Int), ((List.range k).foldl (clS f st) (false, X)).2) = some (((List.range k).foldl (clS f st) (false, X)).1, (k : Int), ((List.range k).foldl (clS f st) (false, X)).2) := by
    refine loopO_end ?_
    dsimp only [m_17_1b]
    rw [show decide ((k : Int) < (k : Int)) = false by simp]; rfl
  rw [g1, hend]
  simp only [ob_s, m_17_1k]
  unfold clX
  cases hb : ((List.range k).foldl (clS f st) (false, X)).1 with
  | true =>
    simp only [cond_true, hb]
    rw [ref_sync g2]
    rfl
  | false =>
    simp only [cond_false, hb]
    rfl
end Go.Proofs.YtdkfdmalbbfbmaaGreat
