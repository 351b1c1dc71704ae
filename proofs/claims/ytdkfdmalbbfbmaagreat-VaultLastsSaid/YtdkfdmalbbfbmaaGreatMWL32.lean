/- Plain laws: the document's anchors; its vault is opened. -/
import Derived.Test.YtdkfdmalbbfbmaaGreatMWL29
import Derived.Test.YtdkfdmalbbfbmaaGreatMWL31
/- Plain laws: the document's anchors; its vault is opened. -/
namespace Go.Proofs.YtdkfdmalbbfbmaaGreat
open Go
set_option maxRecDepth 4000

theorem may_L77 (a : Anchor) : m_L77 a = some (okA a) := by
  unfold m_L77 okA
  have e1 : decide (a.Number ≥ 1) = decide (1 ≤ a.Number) := rfl
  have e2 : decide (a.Number < 4294967296) = decide (a.Number ≤ 4294967295) := by
    by_cases h : a.Number ≤ 4294967295 <;> simp [h] <;> omega
  have e3 : decide (a.Epoch ≥ 0) = decide (0 ≤ a.Epoch) := rfl
  have e4 : decide (a.Epoch < 4294967296) = decide (a.Epoch ≤ 4294967295) := by
    by_cases h : a.Epoch ≤ 4294967295 <;> simp [h] <;> omega
  have e5 : decide (a.Words ≥ 0) = decide (0 ≤ a.Words) := rfl
  have e6 : (decide (0 ≤ a.Area) && decide (a.Area ≤ 1)) = ((a.Area == 0) || (a.Area == 1)) := by
    by_cases h : a.Area = 0
    · simp [h]
    · by_cases h1 : a.Area = 1
      · simp [h1]
      · have hr : ((a.Area == 0) || (a.Area == 1)) = false := by simp [h, h1]
        rw [hr, Bool.and_eq_false_iff, decide_eq_false_iff_not, decide_eq_false_iff_not]
        omega
  rw [e1, e2, e3, e4, e5, e6]
  cases decide (1 ≤ a.Number) <;> cases decide (a.Number ≤ 4294967295) <;> cases decide (0 ≤ a.Epoch) <;> cases decide (a.Epoch ≤ 4294967295) <;> cases (a.Area == 0) <;> cases (a.Area == 1) <;> cases decide (0 ≤ a.Words) <;> rfl
theorem sector_L40 {a : Anchor} (h : okA a = true) : m_L40 a = some (secA a) := by
  obtain ⟨a0, a1, a2, a3, a4, a5, a6, a7⟩ := okA_iff.1 h
  unfold m_L40
  rw [Int.tmod_eq_emod_of_nonneg (by omega), wu64 (by omega) (by omega), wu64 (by omega) (by omega), wu64 (by omega) (by omega), wu64 (by omega) (by omega)]
  show ob (m_69 9 (a.Number % 16777216) (wordsA a)) _ = _
  rw [mark_69 (l := wordsA a) ⟨by decide, by decide⟩ ⟨by omega, by omega⟩ (by
    intro x hx
    simp only [wordsA, List.mem_cons, List.not_mem_nil, or_false] at hx
    rcases hx with rfl | rfl | rfl | rfl <;> exact ⟨by omega, by omega⟩) (by simp [wordsA])]
  rfl
theorem read_L57 {s : Sec} (hs : isS s) : m_L57 s = some (gotA (getA s)) := by
  have hl : s.length = 8 := hs.1
  have step : ∀ i : Nat, i < 5 → m_L57_1b s (false, (i : Int), 0, 0, 0, 0) = some (if 4294967296 ≤ (s[i]?).getD 0 then .inr (.inr (⟨0, 0, 0, 0⟩, false)) else .inl (false, ((i + 1 : Nat) : Int), 0, 0, 0, 0)) := fun i hi => by
    have hil : i < s.length := by omega
    have e2 : IntKind.wrap .i64 ((i : Int) + 1) = ((i + 1 : Nat) : Int) := by rw [wi64 (by omega) (by omega)]; rfl
    dsimp only [m_L57_1b]
    rw [show decide ((i : Int) < 5) = true by simp; omega, show (decide (0 ≤ (i : Int)) && decide ((i : Int) < 8)) = true by simp; omega, gt_eq hil]
    simp only [cond_true, gd_t, ob_s]
    rw [List.getElem?_eq_getElem hil]
    simp only [Option.getD_some]
    by_cases hb : 4294967296 ≤ s[i]
    · rw [if_pos hb, decide_eq_true (show s[i] ≥ 4294967296 from hb)]; rfl
    · rw [if_neg hb, decide_eq_false (show ¬ s[i] ≥ 4294967296 from hb)]
      simp only [cond_false, e2]
  have big : ∀ i : Nat, 1 ≤ i → i < 5 → 4294967296 ≤ (s[i]?).getD 0 → getA s = none := fun i h1 h5 hb => by
    cases hg : getA s with
    | none => rfl
    | some a =>
      exfalso
      obtain ⟨hok, rfl⟩ := getA_iff.1 hg
      obtain ⟨a0, a1, a2, a3, a4, a5, a6, a7⟩ := okA_iff.1 hok
      rcases (show i = 1 ∨ i = 2 ∨ i = 3 ∨ i = 4 by omega) with rfl | rfl | rfl | rfl
      · have hb : 4294967296 ≤ a.Number := hb
        omega
      · have hb : 4294967296 ≤ a.Epoch := hb
        omega
      · have hb : 4294967296 ≤ a.Area := hb
        omega
      · have hb : 4294967296 ≤ a.Words := hb
        omega
  have key : ∀ d i : Nat, 5 - i = d → 1 ≤ i → i ≤ 5 → (∀ j, 1 ≤ j → j < i → ¬ 4294967296 ≤ (s[j]?).getD 0) → ob (loopO (m_L57_1b s) (false, (i : Int), 0, 0, 0, 0)) (m_L57_1k s) = some (gotA (getA s)) := by
    intro d
    induction d with
    | zero =>
      intro i hd h1 h5 hsm
      have hi : i = 5 := by omega
      subst hi
      rw [loopO_end (r := .inl (false, 5, 0, 0, 0, 0)) rfl]
      simp only [ob_s, m_L57_1k]
      have low : ∀ j : Nat, 1 ≤ j → j < 5 → gt s (j : Int) = some (lowA s j) ∧ IntKind.wrap .i64 (lowA s j) = lowA s j := fun j hj1 hj5 => by
        have hjl : j < s.length := by omega
        have hx := hs.2 _ (List.getElem_mem hjl)
        have hn := hsm j hj1 hj5
        rw [List.getElem?_eq_getElem hjl] at hn
        simp only [Option.getD_some] at hn
        have e : lowA s j = s[j] := by
          unfold lowA
          rw [List.getElem?_eq_getElem hjl]
          simp only [Option.getD_some]
          have := hx.1
          omega
        have := hx.1
        exact ⟨by rw [gt_eq hjl, e], by rw [e, wi64 (by omega) (by omega)]⟩
      obtain ⟨l1, w1⟩ := low 1 (by decide) (by decide)
      obtain ⟨l2, w2⟩ := low 2 (by decide) (by decide)
      obtain ⟨l3, w3⟩ := low 3 (by decide) (by decide)
      obtain ⟨l4, w4⟩ := low 4 (by decide) (by decide)
      have l1 : gt s 1 = some (lowA s 1) := l1
      have l2 : gt s 2 = some (lowA s 2) := l2
      have l3 : gt s 3 = some (lowA s 3) := l3
      have l4 : gt s 4 = some (lowA s 4) := l4
      rw [l1, l2, l3, l4]
      simp only [ob_s, w1, w2, w3, w4]
      show ob (ob (m_L77 (rawA s)) fun y1 => bif !y1 then (some true) else (ob (m_L40 (rawA s)) fun y2 => some (!decide (y2 = s)))) (fun t8 => bif t8 then (some ((⟨0, 0, 0, 0⟩ : Anchor), false)) else some (rawA s, true)) = _
      rw [may_L77]
      cases h : okA (rawA s) with
      | false =>
        simp only [ob_s, Bool.not_false, cond_true]
        unfold getA
        rw [if_neg (by rw [h]; simp)]
        rfl
      | true =>
        simp only [ob_s, Bool.not_true, cond_false]
        rw [sector_L40 h]
        simp only [ob_s]
        by_cases e : secA (rawA s) = s
        · rw [show decide (secA (rawA s) = s) = true by simpa using e]
          simp only [Bool.not_true, cond_false]
          unfold getA
          rw [if_pos ⟨h, e⟩]; rfl
        · rw [show decide (secA (rawA s) = s) = false by simpa using e]
          simp only [Bool.not_false, cond_true]
          unfold getA
          rw [if_neg (fun q => e q.2)]; rfl
    | succ d ih =>
      intro i hd h1 h5 hsm
      have hs1 := step i (by omega)
      by_cases hb : 4294967296 ≤ (s[i]?).getD 0
      · rw [if_pos hb] at hs1
        rw [loopO_end hs1, big i h1 (by omega) hb]
        rfl
      · rw [if_neg hb] at hs1
        rw [loopO_next hs1]
        refine ih (i + 1) (by omega) (by omega) (by omega) fun j hj1 hj2 => ?_
        by_cases e : j = i
        · subst e; exact hb
        · exact hsm j hj1 (by omega)
  unfold m_L57
  exact key 4 1 rfl (by decide) (by decide) (fun j hj1 hj2 => by omega)
def toldA : Option Anchor → Anchor × Bool
  | some a => (a, true)
  | none => (⟨0, 0, 0, 0⟩, false)
theorem find_L27 {s0 s1 : Sec} (h0 : isS s0) (h1 : isS s1) : m_L27 s0 s1 = some (toldA (findA s0 s1)) := by
  unfold m_L27
  rw [read_L57 h0, read_L57 h1]
  simp only [ob_s]
  have c : ∀ (i : Nat) (s : Sec), (bif (gotA (getA s)).2 then some (Int.tmod (gotA (getA s)).1.Number 2 == (i : Int)) else some false) = some (cand i s).isSome ∧ ((cand i s).isSome = true → cand i s = some (gotA (getA s)).1) := fun i s => by
    unfold cand
    cases hg : getA s with
    | none => exact ⟨rfl, fun h => by simp at h⟩
    | some a =>
      obtain ⟨hok, _⟩ := getA_iff.1 hg
      have := (okA_iff.1 hok).1
      simp only [gotA, cond_true]
      rw [Int.tmod_eq_emod_of_nonneg (by omega)]
      cases hb : (a.Number % 2 == (i : Int)) <;> simp [Option.filter, hb]
  obtain ⟨p0, q0⟩ := c 0 s0
  obtain ⟨p1, q1⟩ := c 1 s1
  have p0 : (bif (gotA (getA s0)).2 then some (Int.tmod (gotA (getA s0)).1.Number 2 == 0) else some false) = some (cand 0 s0).isSome := p0
  have p1 : (bif (gotA (getA s1)).2 then some (Int.tmod (gotA (getA s1)).1.Number 2 == 1) else some false) = some (cand 1 s1).isSome := p1
  rw [p0]
  simp only [ob_s]
  rw [p1]
  simp only [ob_s]
  unfold findA
  cases h0c : cand 0 s0 with
  | none =>
    cases h1c : cand 1 s1 with
    | none => rfl
    | some b =>
      have := q1 (by rw [h1c]; rfl)
      rw [h1c] at this
      rw [← Option.some.inj this]
      rfl
  | some a =>
    have ha := q0 (by rw [h0c]; rfl)
    rw [h0c] at ha
    rw [← Option.some.inj ha]
    cases h1c : cand 1 s1 with
    | none => rfl
    | some b =>
      have hb := q1 (by rw [h1c]; rfl)
      rw [h1c] at hb
      rw [← Option.some.inj hb]
      have e0 := (cand_iff.1 h0c).2.2
      have e1 := (cand_iff.1 h1c).2.2
      simp only [Option.isSome_some, cond_true, Bool.not_true, cond_false, ob_s]
      by_cases hab : a.Number < b.Number
      · rw [if_pos hab, show decide (a.Number > b.Number) = false by simp; omega]
        rfl
      · rw [if_neg hab, show decide (a.Number > b.Number) = true by simp; omega]
        rfl
/-- The document's vault is opened. -/
theorem open_L8 {X : RDisk} {n a : Nat} (hX : GoodX X n) (a1 : 1 ≤ a) (hfit : 2 + 2 * a < n) {at_ : Anchor} {st : List Frame}
    (hfind : (findA (sec X 0) (sec X 1) = none ∧ at_ = ⟨0, 0, 0, 0⟩ ∧ st = []) ∨
      (findA (sec X 0) (sec X 1) = some at_ ∧ ∃ r w : Nat, at_.Area = (r : Int) ∧ r ≤ 1 ∧ at_.Words = (w : Int) ∧ w ≤ 8 * a ∧ allF at_.Epoch 0 ((partW X (2 + r * a) a).take w) = (st, w))) :
    m_L8 X (a : Int) = some (⟨(a : Int), at_, st, ⟨((2 + 2 * a : Nat) : Int), ((n - (2 + 2 * a) : Nat) : Int), at_.Epoch, (allF at_.Epoch 0 (partW X (2 + 2 * a) (n - (2 + 2 * a)))).1⟩⟩, 0, clX X (2 + 2 * a) (n - (2 + 2 * a)) (streamF at_.Epoch 0 (allF at_.Epoch 0 (partW X (2 + 2 * a) (n - (2 + 2 * a)))).1)) := by
  have hsm := hX.small
  have hrl := hX.r
  unfold m_L8
  rw [hrl]
  have e1 : decide ((a : Int) < 1) = false := by simp; omega
  have e2 : decide ((a : Int) > (n : Int)) = false := by simp; omega
  have e3 : IntKind.wrap .i64 (2 + IntKind.wrap .i64 (2 * (a : Int))) = ((2 + 2 * a : Nat) : Int) := by rw [wi64 (x := 2 * (a : Int)) (by omega) (by omega), wi64 (by omega) (by omega)]; omega
  have e4 : decide (((2 + 2 * a : Nat) : Int) ≥ (n : Int)) = false := by simp; omega
  have e5 : IntKind.wrap .i64 (IntKind.wrap .i64 ((n : Int) - 2) - IntKind.wrap .i64 (2 * (a : Int))) = ((n - (2 + 2 * a) : Nat) : Int) := by rw [wi64 (x := 2 * (a : Int)) (by omega) (by omega), wi64 (x := (n : Int) - 2) (by omega) (by omega), wi64 (by omega) (by omega)]; omega
  rw [e1, e2, e3, e4, e5]
  simp only [cond_false, ob_s]
  have g0 : gt X.Read 0 = some (sec X 0) := by
    have : X.Read[0]? = some (sec X 0) := by unfold sec; rw [List.getElem?_eq_getElem (by omega)]; rfl
    exact gt_at (i := 0) this
  have g1 : gt X.Read 1 = some (sec X 1) := by
    have : X.Read[1]? = some (sec X 1) := by unfold sec; rw [List.getElem?_eq_getElem (by omega)]; rfl
    exact gt_at (i := 1) this
  have s0 : isS (sec X 0) := by unfold sec; rw [List.getElem?_eq_getElem (by omega)]; exact hX.rs _ (List.getElem_mem _)
  have s1 : isS (sec X 1) := by unfold sec; rw [List.getElem?_eq_getElem (by omega)]; exact hX.rs _ (List.getElem_mem _)
  rw [g0, g1]
  simp only [ob_s]
  rw [find_L27 s0 s1]
  simp only [ob_s]
  rcases hfind with ⟨hf, rfl, rfl⟩ | ⟨hf, r, w, hr, hr1, hw, hwa, hall⟩
  · rw [hf]
    simp only [toldA, cond_false]
    have := ref_open hX (f := 2 + 2 * a) (k := n - (2 + 2 * a)) (e := 0) (by omega)
    rw [this]; rfl
  · rw [hf]
    have hra := rarea (a := a) hr1
    cases at_ with
    | mk N E A W =>
    simp only at hr hw hall ⊢
    subst hr
    subst hw
    simp only [toldA, cond_true]
    have e6 : IntKind.wrap .i64 (8 * (a : Int)) = ((8 * a : Nat) : Int) := by rw [wi64 (by omega) (by omega)]; omega
    have e7 : IntKind.wrap .i64 (2 + IntKind.wrap .i64 ((r : Int) * (a : Int))) = ((2 + r * a : Nat) : Int) := by
      have h1 : (r : Int) * (a : Int) = ((r * a : Nat) : Int) := by simp
      rw [h1, wi64 (x := ((r * a : Nat) : Int)) (by omega) (by omega), wi64 (by omega) (by omega)]
      omega
    rw [e6, e7]
    change (bif decide ((w : Int) > ((8 * a : Nat) : Int)) then none else _) = _
    rw [show decide ((w : Int) > ((8 * a : Nat) : Int)) = false by simp; omega]
    simp only [cond_false]
    rw [ref_words hX (f := 2 + r * a) (k := a) (by omega)]
    simp only [ob_s]
    have hpl := part_len (f := 2 + r * a) (k := a) hX.rs (by omega)
    rw [show sl (partW X (2 + r * a) a) 0 (w : Int) = some (((partW X (2 + r * a) a).take w).drop 0) from sl_eq (l := 0) (by omega) (by omega)]
    simp only [ob_s, List.drop_zero]
    rw [all_15 (isW_take (part_isW hX.rs) w) (by rw [List.length_take]; omega), hall]
    simp only [ob_s]
    rw [show ((w : Int) != (w : Int)) = false by simp]
    simp only [cond_false]
    rw [ref_open hX (f := 2 + 2 * a) (k := n - (2 + 2 * a)) (e := E) (by omega)]
    simp only [ob_s]
end Go.Proofs.YtdkfdmalbbfbmaaGreat

/- Plain laws: a checkpoint, here and in the document. -/
namespace Go.Proofs.YtdkfdmalbbfbmaaGreat
open Go
set_option maxRecDepth 4000

theorem loops_L13 {e : Int} {fs : List Frame} {V : RVault} (hE : IntKind.wrap .i64 (V.At.Epoch + 1) = e) (he : num e = true) (hm : ∀ F ∈ fs, may F = true) (hw : ∀ F ∈ fs, ∀ x ∈ F.Words, isW x) (hl : (streamF e 0 fs).length < 4294967296) :
    loopO (m_L13_1b V fs) ([], 0) = some (streamF e 0 fs, (fs.length : Int)) := by
  have hc := stream_count e 0 fs
  have := loopO_count (f := m_L13_1b V fs) (fun i => (streamF e 0 (fs.take i), (i : Int))) fs.length (r := (streamF e 0 fs, (fs.length : Int))) (fun i hi => by
    have e2 : IntKind.wrap .i64 ((i : Int) + 1) = ((i + 1 : Nat) : Int) := by rw [wi64 (by omega) (by omega)]; rfl
    have hst : streamF e 0 (fs.take (i + 1)) = streamF e 0 (fs.take i) ++ putF e (i : Int) fs[i] := by
      rw [List.take_succ_eq_append_getElem hi, streamF_append]
      simp [streamF, Nat.min_eq_left (show i ≤ fs.length by omega)]
    have hle : (streamF e 0 (fs.take (i + 1))).length ≤ (streamF e 0 fs).length := by
      conv => rhs; rw [← List.take_append_drop (i + 1) fs]
      rw [streamF_append, List.length_append]; omega
    have hF := may_iff.1 (hm _ (List.getElem_mem hi))
    dsimp only [m_L13_1b]
    rw [show decide ((i : Int) < (fs.length : Int)) = true by simp; omega, gt_eq hi, hE]
    simp only [cond_true, ob_s]
    rw [put_48 he (num_iff.2 ⟨by omega, by omega⟩) ⟨by omega, hF.2.1⟩ hF.2.2 (hw _ (List.getElem_mem hi))]
    simp only [ob_s]
    rw [ap_eq (by rw [hst, List.length_append] at hle; omega)]
    simp only [ob_s, e2, hst]) (by
    dsimp only [m_L13_1b]
    rw [show decide ((fs.length : Int) < (fs.length : Int)) = false by simp, List.take_length]; rfl)
  exact this
theorem sect_L13 {ws : List Int} {i : Nat} (hi : i < 4096) (hlt : 8 * i < ws.length) (hl : ws.length < 4294967296) : ∃ z, loopO (m_L13_4b ws (i : Int)) (0, List.replicate 8 0) = some (z, secAt ws i) := by
  have h8 : (secAt ws i).length = 8 := by simp [secAt]
  refine ⟨((min 8 (ws.length - 8 * i) : Nat) : Int), ?_⟩
  have := loopO_count (f := m_L13_4b ws (i : Int)) (fun j => ((j : Int), (secAt ws i).take j ++ List.replicate (8 - j) 0)) (min 8 (ws.length - 8 * i)) (r := (((min 8 (ws.length - 8 * i) : Nat) : Int), secAt ws i)) (fun j hj => by
    have e2 : IntKind.wrap .i64 ((j : Int) + 1) = ((j + 1 : Nat) : Int) := by rw [wi64 (by omega) (by omega)]; rfl
    have e3 : IntKind.wrap .i64 (IntKind.wrap .i64 (8 * (i : Int)) + (j : Int)) = ((8 * i + j : Nat) : Int) := by rw [wi64 (x := 8 * (i : Int)) (by omega) (by omega), wi64 (by omega) (by omega)]; omega
    have hjl : 8 * i + j < ws.length := by omega
    have hSg := secAt_get ws i j (by omega)
    rw [List.getElem?_eq_getElem hjl] at hSg
    simp only [Option.getD_some] at hSg
    have hy2 : (secAt ws i)[j]'(by omega) = ws[8 * i + j] := by
      rw [List.getElem?_eq_getElem (by omega)] at hSg; exact Option.some.inj hSg
    dsimp only [m_L13_4b]
    rw [show decide ((j : Int) < 8) = true by simp; omega, e3, show decide (((8 * i + j : Nat) : Int) < (ws.length : Int)) = true by simp; omega]
    simp only [cond_true, ob_s]
    rw [gt_eq hjl, show (decide (0 ≤ (j : Int)) && true) = true by simp]
    simp only [gd_t, ob_s]
    rw [st_eq (by rw [List.length_append, List.length_take, List.length_replicate]; omega)]
    simp only [ob_s, e2]
    congr 4
    rw [List.take_succ_eq_append_getElem (show j < (secAt ws i).length by omega), hy2, List.append_assoc, List.set_append, List.length_take, Nat.min_eq_left (by omega), if_neg (by omega), Nat.sub_self, show 8 - j = (8 - (j + 1)) + 1 by omega, List.replicate_succ]
    rfl) (by
    have hend : (secAt ws i).take (min 8 (ws.length - 8 * i)) ++ List.replicate (8 - min 8 (ws.length - 8 * i)) 0 = secAt ws i := by
      apply List.ext_getElem?
      intro p
      by_cases hp : p < 8
      · rw [List.getElem?_append, List.length_take, h8]
        split
        · rw [List.getElem?_take, if_pos (by omega)]
        · rw [List.getElem?_replicate, if_pos (by omega), secAt_get ws i p hp, List.getElem?_eq_none (by omega)]; rfl
      · rw [List.getElem?_eq_none (by simp; omega), List.getElem?_eq_none (by omega)]
    dsimp only [m_L13_4b]
    rw [hend]
    by_cases hq : 8 ≤ ws.length - 8 * i
    · rw [Nat.min_eq_left hq]; rfl
    · have e3 : IntKind.wrap .i64 (IntKind.wrap .i64 (8 * (i : Int)) + ((min 8 (ws.length - 8 * i) : Nat) : Int)) = ((8 * i + min 8 (ws.length - 8 * i) : Nat) : Int) := by rw [wi64 (x := 8 * (i : Int)) (by omega) (by omega), wi64 (by omega) (by omega)]; omega
      rw [e3, show decide (((8 * i + min 8 (ws.length - 8 * i) : Nat) : Int) < (ws.length : Int)) = false by simp; omega]
      cases decide (((min 8 (ws.length - 8 * i) : Nat) : Int) < 8) <;> rfl)
  simpa using this
theorem sects_L13 {V : RVault} {X : RDisk} {n a r : Nat} (hX : GoodX X n) (ha : V.Area = (a : Int)) (hr : r ≤ 1) {ws : List Int} (hw : ∀ x ∈ ws, isW x) (hf : 2 + r * a + cnt8 ws.length ≤ n) : ∃ z, loopO (m_L13_3b V ws (r : Int)) (0, X) = some (z, wsX X (2 + r * a) ws 0 (cnt8 ws.length)) := by
  have hsm := hX.small
  have hra := rarea (a := a) hr
  unfold cnt8 at hf ⊢
  have h1 : (r : Int) * (a : Int) = ((r * a : Nat) : Int) := by simp
  refine ⟨(((ws.length + 7) / 8 : Nat) : Int), ?_⟩
  have := loopO_count (f := m_L13_3b V ws (r : Int)) (fun i => ((i : Int), wsX X (2 + r * a) ws 0 i)) ((ws.length + 7) / 8) (r := ((((ws.length + 7) / 8 : Nat) : Int), wsX X (2 + r * a) ws 0 ((ws.length + 7) / 8))) (fun i hi => by
    have e2 : IntKind.wrap .i64 ((i : Int) + 1) = ((i + 1 : Nat) : Int) := by rw [wi64 (by omega) (by omega)]; rfl
    have e3 : IntKind.wrap .i64 ((i : Int) * 8) = ((8 * i : Nat) : Int) := by rw [wi64 (by omega) (by omega)]; omega
    have e4 : IntKind.wrap .i64 (IntKind.wrap .i64 (2 + IntKind.wrap .i64 ((r : Int) * V.Area)) + (i : Int)) = ((2 + r * a + i : Nat) : Int) := by
      rw [ha, h1, wi64 (x := ((r * a : Nat) : Int)) (by omega) (by omega), wi64 (x := 2 + ((r * a : Nat) : Int)) (by omega) (by omega), wi64 (by omega) (by omega)]
      omega
    obtain ⟨z, hz⟩ := sect_L13 (ws := ws) (i := i) (by omega) (by omega) (by omega)
    dsimp only [m_L13_3b]
    rw [e3, show decide (((8 * i : Nat) : Int) < (ws.length : Int)) = true by simp; omega, hz]
    simp only [cond_true, ob_s, m_L13_4k]
    rw [e4, ref_write (wsX_good hX hw i) (by omega)]
    simp only [ob_s, e2, wsX, Nat.zero_add]) (by
    have e3 : IntKind.wrap .i64 ((((ws.length + 7) / 8 : Nat) : Int) * 8) = ((8 * ((ws.length + 7) / 8) : Nat) : Int) := by rw [wi64 (by omega) (by omega)]; omega
    dsimp only [m_L13_3b]
    rw [e3, show decide (((8 * ((ws.length + 7) / 8) : Nat) : Int) < (ws.length : Int)) = false by simp; omega]
    rfl)
  exact this

/-- The document's vault, like the program's. -/
def refV (n a : Nat) (V : VaultM) (fs : List Frame) : RVault := ⟨(a : Int), V.at_, V.stored, ⟨((2 + 2 * a : Nat) : Int), ((n - (2 + 2 * a) : Nat) : Int), V.at_.Epoch, fs⟩⟩
section
variable {V : VaultM} {D : Disk} {n a N : Nat} {fs : List Frame}
theorem VOk.told (h : VOk V D n a N fs) : m_L11 (refV n a V fs) = some (V.stored ++ fs) := by
  have h1 := h.small
  have h2 := stream_count (N : Int) 0 V.stored
  have h3 := stream_count (N : Int) 0 fs
  unfold m_L11 refV
  simp only
  rw [ap_eq (by simp; omega)]
  simp only [ob_s, List.nil_append]
  rw [ap_eq (by omega)]
  rfl
theorem VOk.next2 (h : VOk V D n a N fs) : ∃ r : Nat, r ≤ 1 ∧ (∀ w : Nat, m_57 ⟨V.area, V.at_, V.stored⟩ (w : Int) = some (nextA N r w)) ∧ (bif decide (V.at_.Number > 0) then some (V.at_.Area == 0) else some false) = some (r == 1) := by
  have hN := h.hN
  have e1 : IntKind.wrap .i64 (V.at_.Number + 1) = ((N + 1 : Nat) : Int) := by rw [h.number, wi64 (by omega) (by omega)]; rfl
  have e2 : IntKind.wrap .i64 (V.at_.Epoch + 1) = ((N + 1 : Nat) : Int) := by rw [h.epoch, wi64 (by omega) (by omega)]; rfl
  by_cases h0 : N = 0
  · refine ⟨0, by decide, fun w => ?_, ?_⟩
    · unfold m_57
      simp only
      rw [e1, e2, h.number, h0]
      rfl
    · rw [h.number, h0]; rfl
  · obtain ⟨p1, p2, r, q1, q2, q3, q4⟩ := h.pos (by omega)
    refine ⟨1 - r, by omega, fun w => ?_, ?_⟩
    · unfold m_57
      simp only
      rw [e1, e2, h.number, show decide ((N : Int) > 0) = true by simp; omega, q1]
      have e3 : IntKind.wrap .i64 (1 - (r : Int)) = ((1 - r : Nat) : Int) := by rw [wi64 (by omega) (by omega)]; omega
      rw [e3]; rfl
    · rw [h.number, show decide ((N : Int) > 0) = true by simp; omega, q1]
      rcases (show r = 0 ∨ r = 1 by omega) with rfl | rfl <;> rfl
/-- What a checkpoint does to the device, one after the other. -/
theorem VOk.check2 (h : VOk V D n a N fs) (hN1 : N + 1 < 1000000) :
    if (streamF ((N + 1 : Nat) : Int) 0 (V.stored ++ fs)).length > 8 * a then m_26 V D = some (4, V, D) ∧ m_L13 (refV n a V fs) (absD D) = some (4, refV n a V fs, absD D)
    else ∃ V' D', m_26 V D = some (0, V', D') ∧ VOk V' D' n a (N + 1) [] ∧ V'.stored = V.stored ++ fs ∧ (absD D').Lasts = (absD D').Read ∧ m_L13 (refV n a V fs) (absD D) = some (0, refV n a V' [], absD D') := by
  have hsm := h.good.small
  have hfit := h.fit
  have a1 := h.a1
  have hsmall := h.small
  have hcnt1 := stream_count (N : Int) 0 V.stored
  have hcnt2 := stream_count (N : Int) 0 fs
  have hlen : (streamF ((N + 1 : Nat) : Int) 0 (V.stored ++ fs)).length = (streamF (N : Int) 0 V.stored).length + (streamF (N : Int) 0 fs).length := by
    rw [streamF_append, List.length_append, stream_len _ (N : Int) 0 0, stream_len _ (N : Int) (0 + V.stored.length) 0]
  have e1 : IntKind.wrap .i64 (V.at_.Epoch + 1) = ((N + 1 : Nat) : Int) := by rw [h.epoch, wi64 (by omega) (by omega)]; rfl
  have hnum : Go.Proofs.YtdkfdmalbbfbmaaGreat.num ((N + 1 : Nat) : Int) = true := num_iff.2 ⟨by omega, by omega⟩
  have hE : IntKind.wrap .i64 ((refV n a V fs).At.Epoch + 1) = ((N + 1 : Nat) : Int) := e1
  have hloop := loops_L13 (V := refV n a V fs) hE hnum h.all_may h.all_w (by omega)
  unfold m_26 m_L13
  rw [h.told, h.frames]
  simp only [ob_s]
  rw [e1, stream_56 hnum h.all_may h.all_w (by omega)]
  simp only [ob_s]
  have e8 : IntKind.wrap .i64 (V.area * 8) = ((8 * a : Nat) : Int) := by rw [h.area, wi64 (by omega) (by omega)]; omega
  rw [e8]
  have hwW := isW_stream (e := ((N + 1 : Nat) : Int)) (n := 0) h.all_may h.all_w
  rw [hloop]
  simp only [ob_s]
  generalize hws : streamF ((N + 1 : Nat) : Int) 0 (V.stored ++ fs) = ws at hlen hwW
  have e9 : IntKind.wrap .i64 (8 * (refV n a V fs).Area) = ((8 * a : Nat) : Int) := by show IntKind.wrap .i64 (8 * (a : Int)) = _; rw [wi64 (by omega) (by omega)]; omega
  split
  · rename_i hbig
    dsimp only [m_L13_1k]
    rw [e9, show decide ((ws.length : Int) > ((8 * a : Nat) : Int)) = true by simp; omega]
    exact ⟨rfl, rfl⟩
  rename_i hsz
  dsimp only [m_L13_1k]
  rw [e9, show decide ((ws.length : Int) > ((8 * a : Nat) : Int)) = false by simp; omega]
  simp only [cond_false]
  obtain ⟨r, hr1, hnext, hrr⟩ := h.next2
  have hra := rarea (a := a) hr1
  rw [hnext ws.length]
  simp only [ob_s]
  have hb : m_58 ⟨V.area, V.at_, V.stored⟩ (nextA N r ws.length).Area = some ((2 + r * a : Nat) : Int) := begin_58 (V := ⟨V.area, V.at_, V.stored⟩) h.area (by omega) (by omega)
  rw [hb]
  simp only [ob_s]
  rw [show gd (!decide ((8 : Nat) < 1)) (some ()) = some () from rfl]
  simp only [ob_s]
  obtain ⟨D1, z, g1, g2, g3⟩ := chunks_78 h.good (ws := ws) (f := 2 + r * a) hwW (by unfold cnt8; omega)
  rw [g1]
  simp only [ob_s]
  obtain ⟨D2, k1, k2, k3⟩ := sync_eq g2
  rw [k1]
  simp only [ob_s]
  have hok : okA (nextA N r ws.length) = true := okA_iff.2 ⟨by simp only [nextA]; omega, by simp only [nextA]; omega, by simp only [nextA]; omega, by simp only [nextA]; omega, by simp only [nextA]; omega, by simp only [nextA]; omega, by simp only [nextA]; omega, by simp only [nextA]; omega⟩
  have hpar : Int.tmod (nextA N r ws.length).Number 2 = (((N + 1) % 2 : Nat) : Int) := by
    simp only [nextA]
    rw [Int.tmod_eq_emod_of_nonneg (by omega)]
    omega
  obtain ⟨D3, w1, w2, w3⟩ := write_eq k2 (i := (N + 1) % 2) (by omega) (secA_isS hok)
  have hw61 : m_61 D2 (nextA N r ws.length) = some (0, D3) := by
    unfold m_61 mq_60
    rw [sector_79 hok]
    simp only [ob_s, Bool.not_true, cond_false]
    rw [hpar, w1]; rfl
  rw [hw61]
  simp only [ob_s]
  rw [show ((0 : Int) != 0) = false from rfl]
  simp only [cond_false]
  obtain ⟨D4, j1, j2, j3⟩ := sync_eq w2
  rw [j1]
  simp only [ob_s]
  -- what is read
  have hrl := (abs_len h.good).2.1
  have hread : ∀ p, p ≠ (N + 1) % 2 → (absD D4).Read[p]? = if 2 + r * a ≤ p ∧ p < 2 + r * a + cnt8 ws.length then some (secAt ws (p - (2 + r * a))) else (absD D).Read[p]? := fun p hp => by
    rw [j3]
    show (absD D3).Read[p]? = _
    rw [w3]
    show ((absD D2).Read.set ((N + 1) % 2) _)[p]? = _
    rw [List.getElem?_set_ne (Ne.symm hp), k3]
    show (absD D1).Read[p]? = _
    rw [g3, wsX_read _ _ _ _ _ _ (by rw [hrl]; unfold cnt8; omega)]
    simp only [Nat.add_zero, Nat.zero_add]
  have hanch : (absD D4).Read[(N + 1) % 2]? = some (secA (nextA N r ws.length)) := by
    rw [j3]
    show (absD D3).Read[(N + 1) % 2]? = _
    rw [w3]
    exact List.getElem?_set_self (by rw [(abs_len k2).2.1]; omega)
  have hlog : partW (absD D4) (2 + 2 * a) (n - (2 + 2 * a)) = partW (absD D) (2 + 2 * a) (n - (2 + 2 * a)) := by
    unfold partW
    refine congrArg List.flatten (List.ext_getElem? fun p => ?_)
    rw [List.getElem?_take, List.getElem?_take]
    split
    · rw [List.getElem?_drop, List.getElem?_drop, hread _ (by omega), if_neg (by unfold cnt8; omega)]
    · rfl
  have hnone : allF ((N + 1 : Nat) : Int) 0 (partW (absD D4) (2 + 2 * a) (n - (2 + 2 * a))) = ([], 0) := by
    rw [hlog, part_of (abs_isS h.good) (by rw [hrl]; omega) h.log.len h.log.read]
    exact other_epoch h.num hnum (by omega) h.log.may
  obtain ⟨D5, l1, l2, l3, l4⟩ := logged_54 j2 (V := ⟨V.area, nextA N r ws.length, V.stored ++ fs⟩) (a := a) (e := ((N + 1 : Nat) : Int)) h.area hfit hnum
  rw [hnone] at l1 l3 l4
  simp only at l1 l3 l4
  generalize (⟨((2 + 2 * a : Nat) : Int), ((n - (2 + 2 * a) : Nat) : Int), ((N + 1 : Nat) : Int), streamF ((N + 1 : Nat) : Int) 0 [], []⟩ : LogM) = L5 at l1 l4
  have hfin : ∀ (f : LogM × Disk → Option (Int × VaultM × Disk)), ob (m_54 (⟨V.area, (⟨(nextA N r ws.length).Number, (nextA N r ws.length).Epoch, (nextA N r ws.length).Area, (nextA N r ws.length).Words⟩ : Anchor), V.stored ++ fs⟩ : Vault0) D4 (nextA N r ws.length).Epoch) f = f (L5, D5) := fun f => by
    have l1 : m_54 (⟨V.area, (⟨(nextA N r ws.length).Number, (nextA N r ws.length).Epoch, (nextA N r ws.length).Area, (nextA N r ws.length).Words⟩ : Anchor), V.stored ++ fs⟩ : Vault0) D4 (nextA N r ws.length).Epoch = some (L5, D5) := l1
    rw [l1, ob_s]
  have hvok : VOk ⟨V.area, nextA N r ws.length, V.stored ++ fs, L5⟩ D5 n a (N + 1) [] := by
    have hread5 : ∀ p, p < 2 + 2 * a → (absD D5).Read[p]? = (absD D4).Read[p]? := fun p hp => by
      rw [l3, clX_read _ _ _ _ (by rw [(abs_len j2).2.1]; omega), if_neg (by omega)]
    have hcand : ∀ i, i ≤ 1 → ∀ b, cand i (sec (absD D5) i) = some b → b.Number ≤ ((N + 1 : Nat) : Int) := by
      intro i hi b hb
      rw [sec_of (hread5 i (by omega))] at hb
      by_cases hp : i = (N + 1) % 2
      · subst hp
        rw [sec_eq hanch] at hb
        obtain ⟨q1, q2, q3⟩ := cand_iff.1 hb
        have : some b = some (nextA N r ws.length) := (getA_iff.2 ⟨q1, q2⟩).symm.trans (getA_iff.2 ⟨hok, rfl⟩)
        rw [Option.some.inj this]
        simp only [nextA]; omega
      · rw [sec_of ((hread i hp).trans (if_neg (by omega)))] at hb
        rcases (show i = 0 ∨ i = 1 by omega) with rfl | rfl
        · have := h.c0 b hb; omega
        · have := h.c1 b hb; omega
    refine ⟨l2, a1, hfit, h.area, hN1, rfl, rfl, l4, h.all_may, h.all_w, ?_, hcand 0 (by decide), hcand 1 (by decide), by omega, fun _ => ⟨hok, ?_, r, rfl, hr1, ?_, ?_⟩⟩
    · show (streamF ((N + 1 : Nat) : Int) 0 (V.stored ++ fs)).length ≤ _
      rw [hws]; omega
    · rw [sec_of (hread5 _ (by omega)), sec_eq hanch]
    · show (ws.length : Int) = ((streamF ((N + 1 : Nat) : Int) 0 (V.stored ++ fs)).length : Int)
      rw [hws]
    · show (partW (absD D5) (2 + r * a) a).take (streamF ((N + 1 : Nat) : Int) 0 (V.stored ++ fs)).length = streamF ((N + 1 : Nat) : Int) 0 (V.stored ++ fs)
      rw [hws]
      refine part_take (abs_isS l2) (by rw [(abs_len l2).2.1]; omega) (by omega) fun i hi => ?_
      have hi2 : i < a := by unfold cnt8 at hi; omega
      rw [hread5 _ (by omega), hread _ (by omega), if_pos (by omega), show 2 + r * a + i - (2 + r * a) = i by omega]
  refine ⟨⟨V.area, nextA N r ws.length, V.stored ++ fs, L5⟩, D5, hfin _, hvok, rfl, ?_, ?_⟩
  · rw [l3]
    exact clX_lasts _ _ _ _ (by rw [j3]; rfl)
  · have hrr : (bif decide ((refV n a V fs).At.Number > 0) then some ((refV n a V fs).At.Area == 0) else some false) = some (r == 1) := hrr
    rw [hrr]
    simp only [ob_s]
    have ht : (bif (r == 1) then some (IntKind.wrap .i64 ((refV n a V fs).At.Number + 1), IntKind.wrap .i64 ((refV n a V fs).At.Epoch + 1), (1 : Int), (ws.length : Int)) else some (IntKind.wrap .i64 ((refV n a V fs).At.Number + 1), IntKind.wrap .i64 ((refV n a V fs).At.Epoch + 1), 0, (ws.length : Int))) = some (((N + 1 : Nat) : Int), ((N + 1 : Nat) : Int), (r : Int), (ws.length : Int)) := by
      have e0 : IntKind.wrap .i64 ((refV n a V fs).At.Number + 1) = ((N + 1 : Nat) : Int) := by
        show IntKind.wrap .i64 (V.at_.Number + 1) = _
        have := h.hN
        rw [h.number, wi64 (by omega) (by omega)]; rfl
      rw [e0, hE]
      rcases (show r = 0 ∨ r = 1 by omega) with rfl | rfl <;> rfl
    rw [ht]
    simp only [ob_s, m_L13_2k]
    obtain ⟨z2, hz2⟩ := sects_L13 (V := refV n a V fs) (abs_good h.good) rfl hr1 hwW (by unfold cnt8; omega)
    rw [hz2]
    simp only [ob_s, m_L13_3k]
    rw [← g3, ref_sync (abs_good g2), ← k3]
    simp only [ob_s]
    have hs40 : m_L40 (⟨((N + 1 : Nat) : Int), ((N + 1 : Nat) : Int), (r : Int), (ws.length : Int)⟩ : Anchor) = some (secA (nextA N r ws.length)) := sector_L40 hok
    rw [hs40]
    simp only [ob_s]
    have hpar : Int.tmod ((N + 1 : Nat) : Int) 2 = (((N + 1) % 2 : Nat) : Int) := hpar
    rw [hpar, ref_write (abs_good k2) (by omega), ← w3]
    simp only [ob_s]
    rw [ref_sync (abs_good w2), ← j3]
    simp only [ob_s]
    have hr4 := (abs_len j2).2.1
    have e3 : IntKind.wrap .i64 (2 + IntKind.wrap .i64 (2 * (refV n a V fs).Area)) = ((2 + 2 * a : Nat) : Int) := by
      show IntKind.wrap .i64 (2 + IntKind.wrap .i64 (2 * (a : Int))) = _
      rw [wi64 (x := 2 * (a : Int)) (by omega) (by omega), wi64 (by omega) (by omega)]; omega
    have e5 : IntKind.wrap .i64 (IntKind.wrap .i64 (((absD D4).Read.length : Int) - 2) - IntKind.wrap .i64 (2 * (refV n a V fs).Area)) = ((n - (2 + 2 * a) : Nat) : Int) := by
      show IntKind.wrap .i64 (IntKind.wrap .i64 (((absD D4).Read.length : Int) - 2) - IntKind.wrap .i64 (2 * (a : Int))) = _
      rw [hr4, wi64 (x := 2 * (a : Int)) (by omega) (by omega), wi64 (x := (n : Int) - 2) (by omega) (by omega), wi64 (by omega) (by omega)]; omega
    rw [e3, e5, ref_open (abs_good j2) (f := 2 + 2 * a) (k := n - (2 + 2 * a)) (e := ((N + 1 : Nat) : Int)) (by omega), hnone]
    simp only [ob_s]
    rw [← l3]
    rfl
end
end Go.Proofs.YtdkfdmalbbfbmaaGreat
