/- Plain laws: the document's Get; all frames of a stream. -/
import Derived.Test.YtdkfdmalbbfbmaaGreatMWL15
/- Plain laws: the document's Get; all frames of a stream. -/
namespace Go.Proofs.YtdkfdmalbbfbmaaGreat
open Go
set_option maxRecDepth 4000

theorem get_42 {e n : Int} {l : List Int} (hw : ∀ x ∈ l, isW x) (hl : l.length < 268435456) : m_42 e n l = some (gotF (getF e n l)) := by
  unfold m_42
  rw [guard_get m_68 m_68 num_68]
  simp only [ob_s]
  cases l with
  | nil => rfl
  | cons m r =>
    simp only [List.isEmpty_cons, Bool.false_or]
    cases he : num e with
    | false => simp [getF, he, gotF]
    | true =>
    cases hn : num n with
    | false => simp [getF, hn, gotF]
    | true =>
    simp only [Bool.not_true, Bool.or_self, cond_false]
    obtain ⟨m0, m1⟩ := hw m List.mem_cons_self
    have hg : gt (m :: r) 0 = some m := rfl
    rw [hg]
    simp only [ob_s]
    simp only [List.length_cons] at hl
    have hd1 : Int.tdiv m 72057594037927936 = m / 72057594037927936 := Int.tdiv_eq_ediv_of_nonneg m0
    have hd2 : Int.tdiv m 4294967296 = m / 4294967296 := Int.tdiv_eq_ediv_of_nonneg m0
    have hmm : Int.tmod (m / 4294967296) 16777216 = m / 4294967296 % 16777216 := Int.tmod_eq_emod_of_nonneg (by omega)
    rw [hd1, hd2, wu64 (x := m / 72057594037927936) (by omega) (by omega), wu64 (x := m / 4294967296) (by omega) (by omega), hmm, wi64 (x := m / 72057594037927936) (by omega) (by omega), wi64 (x := m / 4294967296 % 16777216) (by omega) (by omega)]
    obtain ⟨q, hq⟩ := Int.eq_ofNat_of_zero_le (show 0 ≤ m / 4294967296 % 16777216 by omega)
    have q24 : q < 16777216 := by omega
    rw [hq]
    have e0 : IntKind.wrap .i64 ((q : Int) + 1) = (q : Int) + 1 := wi64 (by omega) (by omega)
    have e1 : IntKind.wrap .i64 (1 + (q : Int)) = ((1 + q : Nat) : Int) := by rw [wi64 (by omega) (by omega)]; omega
    rw [e0, e1]
    by_cases h3 : m / 72057594037927936 = 0
    · have hb : (m / 72057594037927936 == 0) = true := by simp [h3]
      rw [hb]
      simp only [cond_true, ob_s]
      rw [getF, if_neg]
      · rfl
      · rintro ⟨_, _, h, _⟩; omega
    · have hb : (m / 72057594037927936 == 0) = false := by simp [h3]
      rw [hb]
      simp only [cond_false]
      by_cases h5 : q ≤ 2000
      · have hf : decide ((q : Int) > 2000) = false := by simp; omega
        rw [hf]
        simp only [cond_false, ob_s]
        by_cases h6 : q ≤ r.length
        · have hf : decide ((q : Int) + 1 > ((m :: r).length : Int)) = false := by simp; omega
          rw [hf]
          simp only [cond_false]
          rw [show (1 : Int) = ((1 : Nat) : Int) from rfl, sl_eq (by omega) (by simp; omega)]
          have e2 : ((m :: r).take (1 + q)).drop 1 = r.take q := by rw [Nat.add_comm]; simp
          simp only [ob_s, e2]
          have hlt : (r.take q).length = q := by rw [List.length_take]; omega
          rw [ap_eq (by simp; omega)]
          simp only [ob_s, List.nil_append]
          have hwt : ∀ x ∈ r.take q, isW x := fun x hx => hw x (List.mem_cons_of_mem _ (List.mem_of_mem_take hx))
          rw [put_48 (F := ⟨m / 72057594037927936, r.take q⟩) he hn ⟨by show 0 ≤ m / 72057594037927936; omega, by show m / 72057594037927936 ≤ 255; omega⟩ (by simp only [hlt]; exact h5) hwt]
          have hg2 : gt (putF e n ⟨m / 72057594037927936, r.take q⟩) 0 = some (markV e n (m / 72057594037927936) (r.take q)) := rfl
          simp only [ob_s]
          rw [hg2]
          simp only [ob_s]
          by_cases h7 : markV e n (m / 72057594037927936) (r.take q) = m
          · have hb : (markV e n (m / 72057594037927936) (r.take q) != m) = false := by simp [h7]
            rw [hb]
            simp only [cond_false]
            rw [getF, hq, Int.toNat_natCast, if_pos ⟨he, hn, by omega, by omega, by omega, by omega, h7⟩]
            simp only [gotF, hlt]
            have e3 : (q : Int) + ((1 : Nat) : Int) = 1 + (q : Int) := by omega
            rw [e3]
          · have hb : (markV e n (m / 72057594037927936) (r.take q) != m) = true := by simp [h7]
            rw [hb]
            simp only [cond_true]
            rw [getF, if_neg]
            · rfl
            · rintro ⟨_, _, _, _, _, _, h⟩
              rw [hq, Int.toNat_natCast] at h
              exact h7 h
        · have hf : decide ((q : Int) + 1 > ((m :: r).length : Int)) = true := by simp; omega
          rw [hf]
          simp only [cond_true]
          rw [getF, if_neg]
          · rfl
          · rintro ⟨_, _, _, _, _, h, _⟩; omega
      · have hf : decide ((q : Int) > 2000) = true := by simp; omega
        rw [hf]
        simp only [cond_true, ob_s]
        rw [getF, if_neg]
        · rfl
        · rintro ⟨_, _, _, _, h, _⟩; omega

theorem getF_len {e n : Int} {l : List Int} {F : Frame} (h : getF e n l = some F) : 1 + F.Words.length ≤ l.length := by
  obtain ⟨_, _, _, r, rfl⟩ := getF_iff.1 h
  simp [putF]; omega
/-- All frames at the head of words, and how many words they take. -/
def allF (e : Int) (n : Nat) (l : List Int) : List Frame × Nat :=
  match h : getF e n l with
  | none => ([], 0)
  | some F =>
    let r := allF e (n + 1) (l.drop (1 + F.Words.length))
    (F :: r.1, 1 + F.Words.length + r.2)
termination_by l.length
decreasing_by
  have := getF_len h
  simp; omega
theorem allF_none {e : Int} {n : Nat} {l : List Int} (h : getF e n l = none) : allF e n l = ([], 0) := by
  rw [allF]
  split
  · rfl
  · rename_i F hF; rw [h] at hF; cases hF
theorem allF_some {e : Int} {n : Nat} {l : List Int} {F : Frame} (h : getF e n l = some F) : allF e n l = (F :: (allF e (n + 1) (l.drop (1 + F.Words.length))).1, 1 + F.Words.length + (allF e (n + 1) (l.drop (1 + F.Words.length))).2) := by
  rw [allF]
  split
  · rename_i hF; rw [h] at hF; cases hF
  · rename_i G hF; rw [h] at hF; cases hF; rfl

/-- The words of frames. -/
def streamF (e : Int) : Nat → List Frame → List Int
  | _, [] => []
  | n, F :: fs => putF e n F ++ streamF e (n + 1) fs
theorem streamF_append (e : Int) : ∀ (n : Nat) (fs gs : List Frame), streamF e n (fs ++ gs) = streamF e n fs ++ streamF e (n + fs.length) gs
  | n, [], gs => by simp [streamF]
  | n, F :: fs, gs => by
    simp only [List.cons_append, streamF, streamF_append e (n + 1) fs gs, List.append_assoc, List.length_cons]
    rw [show n + 1 + fs.length = n + (fs.length + 1) by omega]
theorem putF_len (e n : Int) (F : Frame) : (putF e n F).length = 1 + F.Words.length := by simp [putF]; omega
theorem stream_count (e : Int) : ∀ (n : Nat) (fs : List Frame), fs.length ≤ (streamF e n fs).length
  | n, [] => by simp [streamF]
  | n, F :: fs => by
    have := stream_count e (n + 1) fs
    simp only [streamF, List.length_append, putF_len, List.length_cons]; omega
/-- What all frames are: exactly the frames at the head, in this epoch. -/
theorem allF_spec (e : Int) : ∀ (k : Nat) (n : Nat) (l : List Int), l.length ≤ k → ∃ r, l = streamF e n (allF e n l).1 ++ r ∧ (allF e n l).2 = (streamF e n (allF e n l).1).length ∧ (∀ F ∈ (allF e n l).1, may F = true) ∧ getF e ((n + (allF e n l).1.length : Nat) : Int) r = none := by
  intro k
  induction k with
  | zero =>
    intro n l hl
    have : l = [] := List.eq_nil_of_length_eq_zero (by omega)
    subst this
    rw [allF_none rfl]
    exact ⟨[], rfl, rfl, (fun F h => absurd h List.not_mem_nil), rfl⟩
  | succ k ih =>
    intro n l hl
    cases h : getF e n l with
    | none => rw [allF_none h]; exact ⟨l, rfl, rfl, fun F h => (by cases h), by simpa using h⟩
    | some F =>
      have hlen := getF_len h
      obtain ⟨hm, he, hn, r, hr⟩ := getF_iff.1 h
      obtain ⟨r2, h1, h2, h3, h4⟩ := ih (n + 1) (l.drop (1 + F.Words.length)) (by simp; omega)
      have hd : l.drop (1 + F.Words.length) = r := by rw [hr, ← putF_len e n F, List.drop_left]
      rw [allF_some h]
      refine ⟨r2, ?_, ?_, ?_, ?_⟩
      · simp only [streamF, List.append_assoc]
        rw [← h1, hd]; exact hr
      · simp only [streamF, List.length_append, putF_len, h2]
      · intro G hG
        rcases List.mem_cons.1 hG with rfl | hG
        · exact hm
        · exact h3 G hG
      · simp only [List.length_cons]
        rw [show n + ((allF e (n + 1) (l.drop (1 + F.Words.length))).1.length + 1) = n + 1 + (allF e (n + 1) (l.drop (1 + F.Words.length))).1.length by omega]
        exact h4
theorem allF_of (e : Int) (he : num e = true) : ∀ (fs : List Frame) (n : Nat) (r : List Int), (∀ F ∈ fs, may F = true) → n + fs.length ≤ 4294967296 → getF e ((n + fs.length : Nat) : Int) r = none → allF e n (streamF e n fs ++ r) = (fs, (streamF e n fs).length)
  | [], n, r, _, _, h => by simpa [streamF] using allF_none (by simpa using h)
  | F :: fs, n, r, hm, hn, h => by
    have hg : getF e n (streamF e n (F :: fs) ++ r) = some F := getF_iff.2 ⟨hm F List.mem_cons_self, he, num_iff.2 ⟨by omega, by simp only [List.length_cons] at hn; omega⟩, streamF e (n + 1) fs ++ r, by simp [streamF]⟩
    rw [allF_some hg]
    have hd : (streamF e n (F :: fs) ++ r).drop (1 + F.Words.length) = streamF e (n + 1) fs ++ r := by
      simp only [streamF, List.append_assoc]
      rw [← putF_len e n F, List.drop_left]
    rw [hd, allF_of e he fs (n + 1) r (fun G hG => hm G (List.mem_cons_of_mem _ hG)) (by simp only [List.length_cons] at hn; omega) (by
      rw [show n + 1 + fs.length = n + (F :: fs).length by simp; omega]; exact h)]
    simp [streamF, putF_len]

theorem isW_drop {l : List Int} (hw : ∀ x ∈ l, isW x) (k : Nat) : ∀ x ∈ l.drop k, isW x := fun x hx => hw x (List.mem_of_mem_drop hx)
theorem isW_take {l : List Int} (hw : ∀ x ∈ l, isW x) (k : Nat) : ∀ x ∈ l.take k, isW x := fun x hx => hw x (List.mem_of_mem_take hx)

theorem all_loop {e : Int} {l : List Int} (hw : ∀ x ∈ l, isW x) (hl : l.length < 268435456) : ∀ (k at_ n : Nat) (fs : List Frame), l.length - at_ ≤ k → at_ ≤ l.length → n = fs.length → n ≤ at_ →
    loopO (m_80_1b c34 e l) ((at_ : Int), (n : Int), (fs, (at_ : Int))) = some (.inr (fs ++ (allF e n (l.drop at_)).1, ((at_ + (allF e n (l.drop at_)).2 : Nat) : Int))) := by
  intro k
  induction k with
  | zero =>
    intro at_ n fs hk hat hn hna
    have hd : l.drop at_ = [] := List.drop_eq_nil_of_le (by omega)
    rw [loopO_eq]
    dsimp only [m_80_1b]
    rw [sl_from hat, hd]
    simp only [ob_s]
    rw [get_81 (fun x h => by cases h) (by simp)]
    rw [allF_none (l := []) rfl]
    simp [gotF, getF]
  | succ k ih =>
    intro at_ n fs hk hat hn hna
    rw [loopO_eq]
    dsimp only [m_80_1b]
    rw [sl_from hat]
    simp only [ob_s]
    rw [get_81 (isW_drop hw _) (by simp; omega)]
    simp only [ob_s]
    cases h : getF e n (l.drop at_) with
    | none =>
      rw [allF_none h]
      simp [gotF]
    | some F =>
      have hlen := getF_len h
      simp only [List.length_drop] at hlen
      have hfs : fs.length < 4294967295 := by omega
      have e1 : IntKind.wrap .i64 ((at_ : Int) + (1 + (F.Words.length : Int))) = ((at_ + (1 + F.Words.length) : Nat) : Int) := by rw [wi64 (by omega) (by omega)]; omega
      have e2 : IntKind.wrap .i64 ((n : Int) + 1) = ((n + 1 : Nat) : Int) := by rw [wi64 (by omega) (by omega)]; omega
      simp only [gotF, Bool.not_true, cond_false, c34, e1, e2]
      rw [ap_eq (by simp; omega)]
      simp only [ob_s, cond_false]
      rw [ih (at_ + (1 + F.Words.length)) (n + 1) (fs ++ [F]) (by omega) (by omega) (by simp [hn]) (by omega)]
      rw [allF_some h, List.drop_drop]
      simp only [List.append_assoc, List.cons_append, List.nil_append]
      congr 4
      omega
theorem all_34 {e : Int} {l : List Int} (hw : ∀ x ∈ l, isW x) (hl : l.length < 268435456) : m_34 e l = some ((allF e 0 l).1, ((allF e 0 l).2 : Int)) := by
  unfold m_34 m_80
  have := all_loop (e := e) hw hl l.length 0 0 [] (by omega) (by omega) rfl (by omega)
  simp only [List.drop_zero, List.nil_append, Nat.zero_add] at this
  rw [show ((0 : Int), (0 : Int), (([] : List Frame), (0 : Int))) = (((0 : Nat) : Int), ((0 : Nat) : Int), (([] : List Frame), ((0 : Nat) : Int))) from rfl, this]
  rfl
theorem ref_loop {e : Int} {l : List Int} (hw : ∀ x ∈ l, isW x) (hl : l.length < 268435456) (a : List Frame) (b : Int) : ∀ (k at_ : Nat) (fs : List Frame), l.length - at_ ≤ k → at_ ≤ l.length → fs.length ≤ at_ →
    loopO (m_15_1b e l) (a, b, fs, (at_ : Int)) = some (.inr (fs ++ (allF e fs.length (l.drop at_)).1, ((at_ + (allF e fs.length (l.drop at_)).2 : Nat) : Int))) := by
  intro k
  induction k with
  | zero =>
    intro at_ fs hk hat hna
    have hd : l.drop at_ = [] := List.drop_eq_nil_of_le (by omega)
    rw [loopO_eq]
    dsimp only [m_15_1b]
    rw [sl_from hat, hd]
    simp only [ob_s]
    rw [get_42 (fun x h => by cases h) (by simp)]
    rw [allF_none (l := []) rfl]
    simp [gotF, getF]
  | succ k ih =>
    intro at_ fs hk hat hna
    rw [loopO_eq]
    dsimp only [m_15_1b]
    rw [sl_from hat]
    simp only [ob_s]
    rw [get_42 (isW_drop hw _) (by simp; omega)]
    simp only [ob_s]
    cases h : getF e fs.length (l.drop at_) with
    | none =>
      rw [allF_none h]
      simp [gotF]
    | some F =>
      have hlen := getF_len h
      simp only [List.length_drop] at hlen
      have hfs : fs.length < 4294967295 := by omega
      have e1 : IntKind.wrap .i64 ((at_ : Int) + (1 + (F.Words.length : Int))) = ((at_ + (1 + F.Words.length) : Nat) : Int) := by rw [wi64 (by omega) (by omega)]; omega
      simp only [gotF, Bool.not_true, cond_false, e1]
      rw [ap_eq (by simp; omega)]
      simp only [ob_s]
      rw [ih (at_ + (1 + F.Words.length)) (fs ++ [F]) (by omega) (by omega) (by simp; omega)]
      rw [allF_some h, List.drop_drop]
      simp only [List.append_assoc, List.cons_append, List.nil_append, List.length_append, List.length_cons, List.length_nil, Nat.zero_add]
      congr 4
      omega
theorem all_15 {e : Int} {l : List Int} (hw : ∀ x ∈ l, isW x) (hl : l.length < 268435456) : m_15 e l = some ((allF e 0 l).1, ((allF e 0 l).2 : Int)) := by
  unfold m_15
  have := ref_loop (e := e) hw hl [] 0 l.length 0 [] (by omega) (by omega) (by simp)
  simp only [List.drop_zero, List.nil_append, Nat.zero_add, List.length_nil] at this
  rw [show (([] : List Frame), (0 : Int), ([] : List Frame), (0 : Int)) = (([] : List Frame), (0 : Int), ([] : List Frame), ((0 : Nat) : Int)) from rfl, this]
  rfl
end Go.Proofs.YtdkfdmalbbfbmaaGreat
