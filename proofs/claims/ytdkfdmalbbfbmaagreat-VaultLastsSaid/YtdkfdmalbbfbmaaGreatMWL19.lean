/- Plain laws: a log is opened, appended to, read. -/
import Derived.Test.YtdkfdmalbbfbmaaGreatMWL18
import Derived.Test.YtdkfdmalbbfbmaaGreatMWL17
/- Plain laws: a log is opened, appended to, read. -/
namespace Go.Proofs.YtdkfdmalbbfbmaaGreat
open Go
set_option maxRecDepth 4000

instance : DecidableEq Frame := fun a b =>
  if h : a.Kind = b.Kind ∧ a.Words = b.Words then .isTrue (by cases a; cases b; cases h.1; cases h.2; rfl) else .isFalse fun e => h (by subst e; exact ⟨rfl, rfl⟩)
theorem frame_ext {a b : Frame} (h : a.Kind = b.Kind) (k : a.Words = b.Words) : a = b := by cases a; cases b; cases h; cases k; rfl

theorem frames_12 {L : LogM} (h : L.frames.length < 4294967295) (hw : ∀ F ∈ L.frames, F.Words.length < 4294967296) : m_12 L = some L.frames := by
  unfold m_12
  have key : loopO (m_12_1b L) ([], 0) = some (L.frames, (L.frames.length : Int)) := by
    have := loopO_count (f := m_12_1b L) (fun i => (L.frames.take i, (i : Int))) L.frames.length (r := (L.frames, (L.frames.length : Int))) (fun i hi => by
      have h1 : decide ((i : Int) < (L.frames.length : Int)) = true := by simp; omega
      have e2 : IntKind.wrap .i64 ((i : Int) + 1) = ((i + 1 : Nat) : Int) := by rw [wi64 (by omega) (by omega)]; rfl
      dsimp only [m_12_1b]
      rw [h1, gt_eq hi]
      simp only [cond_true, ob_s]
      rw [clone_39 (hw _ (List.getElem_mem hi))]
      simp only [ob_s]
      rw [ap_eq (by simp; omega)]
      simp only [ob_s, e2]
      rw [List.take_succ_eq_append_getElem hi]) (by
      have h1 : decide ((L.frames.length : Int) < (L.frames.length : Int)) = false := by simp
      dsimp only [m_12_1b]
      rw [h1, List.take_length]; rfl)
    exact this
  rw [key]; rfl

theorem same_words (xs ys : List Frame) (j : Nat) (hj : j < xs.length) (hj2 : j < ys.length) (hl : xs[j].Words.length = ys[j].Words.length) (hs : xs[j].Words.length < 4294967296) :
    loopO (m_11_2b xs ys (j : Int)) (false, 0) = some (if xs[j].Words = ys[j].Words then .inl (false, (xs[j].Words.length : Int)) else .inr false) := by
  have key : ∀ d i, xs[j].Words.length - i = d → i ≤ xs[j].Words.length → xs[j].Words.take i = ys[j].Words.take i → loopO (m_11_2b xs ys (j : Int)) (false, (i : Int)) = some (if xs[j].Words = ys[j].Words then .inl (false, (xs[j].Words.length : Int)) else .inr false) := by
    intro d
    induction d with
    | zero =>
      intro i hd hi heq
      have hi' : i = xs[j].Words.length := by omega
      have hxy : xs[j].Words = ys[j].Words := by
        have h2 : ys[j].Words.take xs[j].Words.length = ys[j].Words := by rw [hl, List.take_length]
        rw [hi', List.take_length, h2] at heq; exact heq
      refine loopO_end ?_
      dsimp only [m_11_2b]
      rw [gt_eq hj]
      simp only [ob_s]
      rw [hi', show decide ((xs[j].Words.length : Int) < (xs[j].Words.length : Int)) = false by simp, if_pos hxy]; rfl
    | succ d ih =>
      intro i hd hi heq
      have hlt : i < xs[j].Words.length := by omega
      have hlt2 : i < ys[j].Words.length := by omega
      have h1 : decide ((i : Int) < (xs[j].Words.length : Int)) = true := by simp; omega
      have e2 : IntKind.wrap .i64 ((i : Int) + 1) = ((i + 1 : Nat) : Int) := by rw [wi64 (by omega) (by omega)]; rfl
      have hstep : m_11_2b xs ys (j : Int) (false, (i : Int)) = bif xs[j].Words[i] != ys[j].Words[i] then some (.inr (.inr false)) else some (.inl (false, ((i + 1 : Nat) : Int))) := by
        dsimp only [m_11_2b]
        rw [gt_eq hj, gt_eq hj2]
        simp only [ob_s, h1, cond_true]
        rw [gt_eq hlt, gt_eq hlt2]
        simp only [ob_s, e2]
      by_cases hxy : xs[j].Words[i] = ys[j].Words[i]
      · have hb : (xs[j].Words[i] != ys[j].Words[i]) = false := by simp [hxy]
        rw [hb] at hstep
        rw [loopO_next hstep]
        exact ih (i + 1) (by omega) (by omega) (by rw [List.take_succ_eq_append_getElem hlt, List.take_succ_eq_append_getElem hlt2, heq, hxy])
      · have hb : (xs[j].Words[i] != ys[j].Words[i]) = true := by simp [hxy]
        rw [hb] at hstep
        rw [loopO_end hstep, if_neg (fun e => hxy (by simp only [e]))]
  exact key _ 0 rfl (by omega) rfl
theorem same_11 {xs ys : List Frame} (h : xs.length < 4294967296) (hw : ∀ F ∈ xs, F.Words.length < 4294967296) : m_11 xs ys = some (decide (xs = ys)) := by
  unfold m_11
  by_cases hl : xs.length = ys.length
  · have e1 : ((xs.length : Int) != (ys.length : Int)) = false := by simp [hl]
    rw [e1]
    simp only [cond_false]
    have key : ∀ d i, xs.length - i = d → i ≤ xs.length → xs.take i = ys.take i → ob (loopO (m_11_1b xs ys) (false, (i : Int))) m_11_1k = some (decide (xs = ys)) := by
      intro d
      induction d with
      | zero =>
        intro i hd hi heq
        have hi' : i = xs.length := by omega
        subst hi'
        have hxy : xs = ys := by
          have h2 : ys.take xs.length = ys := by rw [hl, List.take_length]
          rw [List.take_length, h2] at heq; exact heq
        have h1 : decide ((xs.length : Int) < (xs.length : Int)) = false := by simp
        rw [loopO_eq]
        dsimp only [m_11_1b]
        rw [h1]
        simp [m_11_1k, hxy]
      | succ d ih =>
        intro i hd hi heq
        have hlt : i < xs.length := by omega
        have hlt2 : i < ys.length := by omega
        have h1 : decide ((i : Int) < (xs.length : Int)) = true := by simp; omega
        have e2 : IntKind.wrap .i64 ((i : Int) + 1) = ((i + 1 : Nat) : Int) := by rw [wi64 (by omega) (by omega)]; rfl
        rw [loopO_eq]
        dsimp only [m_11_1b]
        rw [h1, gt_eq hlt, gt_eq hlt2]
        simp only [cond_true, ob_s]
        have hne : ∀ {p : Prop}, ¬ xs[i] = ys[i] → (xs = ys) = False := fun hh => by simp; intro e; subst e; exact hh rfl
        by_cases hk : xs[i].Kind = ys[i].Kind
        · have hb : (xs[i].Kind != ys[i].Kind) = false := by simp [hk]
          rw [hb]
          simp only [cond_false]
          by_cases hwl : xs[i].Words.length = ys[i].Words.length
          · have hb : ((xs[i].Words.length : Int) != (ys[i].Words.length : Int)) = false := by simp [hwl]
            rw [hb]
            simp only [ob_s, cond_false]
            rw [same_words xs ys i hlt hlt2 hwl (hw _ (List.getElem_mem hlt))]
            by_cases hww : xs[i].Words = ys[i].Words
            · rw [if_pos hww]
              simp only [ob_s, m_11_2k, e2]
              exact ih (i + 1) (by omega) (by omega) (by rw [List.take_succ_eq_append_getElem hlt, List.take_succ_eq_append_getElem hlt2, heq, frame_ext hk hww])
            · rw [if_neg hww]
              have : ¬ xs = ys := fun e => by subst e; exact hww rfl
              simp [m_11_2k, m_11_1k, this]
          · have hb : ((xs[i].Words.length : Int) != (ys[i].Words.length : Int)) = true := by simp; omega
            rw [hb]
            have : ¬ xs = ys := fun e => by subst e; exact hwl rfl
            simp [m_11_1k, this]
        · have hb : (xs[i].Kind != ys[i].Kind) = true := by simp [hk]
          rw [hb]
          have : ¬ xs = ys := fun e => by subst e; exact hk rfl
          simp [m_11_1k, this]
    exact key xs.length 0 (by omega) (by omega) rfl
  · have e1 : ((xs.length : Int) != (ys.length : Int)) = true := by simp; omega
    rw [e1]
    have : ¬ xs = ys := fun e => hl (by rw [e])
    simp [this]

/-- A log as it should be, on a device as the document tells it. -/
structure LogOk (f k : Nat) (e : Int) (fs : List Frame) (L : LogM) (X : RDisk) : Prop where
  eq : L = ⟨(f : Int), (k : Int), e, streamF e 0 fs, fs⟩
  may : ∀ F ∈ fs, may F = true
  w : ∀ F ∈ fs, ∀ x ∈ F.Words, isW x
  len : (streamF e 0 fs).length ≤ 8 * k
  read : ∀ i, i < k → X.Read[f + i]? = some (secAt (streamF e 0 fs) i)
theorem isW_mark {e n : Int} {F : Frame} (hm : Go.Proofs.YtdkfdmalbbfbmaaGreat.may F = true) : isW (markV e n F.Kind F.Words) := by
  obtain ⟨k0, k1, k2⟩ := may_iff.1 hm
  obtain ⟨c0, c1⟩ := crcW_range (F.Kind :: (F.Words.length : Int) :: e :: n :: F.Words)
  have hmv : markV e n F.Kind F.Words = F.Kind * 72057594037927936 + (F.Words.length : Int) * 4294967296 + crcW (F.Kind :: (F.Words.length : Int) :: e :: n :: F.Words) := rfl
  constructor <;> rw [hmv] <;> omega
theorem isW_stream {e : Int} : ∀ {fs : List Frame} {n : Nat}, (∀ F ∈ fs, may F = true) → (∀ F ∈ fs, ∀ x ∈ F.Words, isW x) → ∀ x ∈ streamF e n fs, isW x
  | [], n, _, _, x, hx => by cases hx
  | F :: fs, n, hm, hw, x, hx => by
    rcases List.mem_append.1 hx with hx | hx
    · rcases List.mem_cons.1 hx with rfl | hx
      · exact isW_mark (hm F List.mem_cons_self)
      · exact hw F List.mem_cons_self x hx
    · exact isW_stream (fun G hG => hm G (List.mem_cons_of_mem _ hG)) (fun G hG => hw G (List.mem_cons_of_mem _ hG)) x hx
theorem allF_isW {e : Int} {l : List Int} (hw : ∀ x ∈ l, isW x) : ∀ (k n : Nat) (m : List Int), m.length ≤ k → (∀ x ∈ m, isW x) → ∀ F ∈ (allF e n m).1, ∀ x ∈ F.Words, isW x := by
  intro k
  induction k with
  | zero =>
    intro n m hm _ F hF
    have : m = [] := List.eq_nil_of_length_eq_zero (by omega)
    subst this
    rw [allF_none rfl] at hF; cases hF
  | succ k ih =>
    intro n m hm hwm F hF
    cases h : getF e n m with
    | none => rw [allF_none h] at hF; cases hF
    | some G =>
      rw [allF_some h] at hF
      have hlen := getF_len h
      rcases List.mem_cons.1 hF with rfl | hF
      · obtain ⟨_, _, _, r, hr⟩ := getF_iff.1 h
        intro x hx
        exact hwm x (by rw [hr]; exact List.mem_append_left _ (List.mem_cons_of_mem _ hx))
      · exact ih (n + 1) _ (by simp; omega) (isW_drop hwm _) F hF

/-- The words of a part of a device. -/
def partW (X : RDisk) (f k : Nat) : List Int := ((X.Read.drop f).take k).flatten
theorem part_sec {X : RDisk} {f k i : Nat} (hs : ∀ s ∈ X.Read, isS s) (hfk : f + k ≤ X.Read.length) (hi : i < k) : X.Read[f + i]? = some (secAt (partW X f k) i) := by
  have hall : ∀ s ∈ (X.Read.drop f).take k, isS s := fun s h => hs s (List.mem_of_mem_drop (List.mem_of_mem_take h))
  obtain ⟨s, hsx⟩ : ∃ s, X.Read[f + i]? = some s := ⟨_, List.getElem?_eq_getElem (by omega)⟩
  have h1 : ((X.Read.drop f).take k)[i]? = some s := by rw [List.getElem?_take, if_pos hi, List.getElem?_drop]; exact hsx
  have h2 := chunk_eq hall h1
  rw [hsx]
  congr 1
  have h8 := (hall s (List.mem_of_getElem? h1)).1
  refine secAt_eq h8 fun j hj => ?_
  rw [← h2, List.getElem?_drop, List.getElem?_take, if_pos (by omega)]
  show ((partW X f k)[8 * i + j]?) = _
  have : 8 * i + j < (partW X f k).length := by
    unfold partW
    rw [words_len hall, List.length_take, List.length_drop]; omega
  rw [List.getElem?_eq_getElem this]; rfl
theorem part_len {X : RDisk} {f k : Nat} (hs : ∀ s ∈ X.Read, isS s) (hfk : f + k ≤ X.Read.length) : (partW X f k).length = 8 * k := by
  have hall : ∀ s ∈ (X.Read.drop f).take k, isS s := fun s h => hs s (List.mem_of_mem_drop (List.mem_of_mem_take h))
  unfold partW
  rw [words_len hall, List.length_take, List.length_drop]; omega
theorem part_isW {X : RDisk} {f k : Nat} (hs : ∀ s ∈ X.Read, isS s) : ∀ x ∈ partW X f k, isW x :=
  words_isW fun s h => hs s (List.mem_of_mem_drop (List.mem_of_mem_take h))
/-- Words, by their sectors. -/
theorem part_of {X : RDisk} {f k : Nat} (hs : ∀ s ∈ X.Read, isS s) (hfk : f + k ≤ X.Read.length) {ws : List Int} (hl : ws.length ≤ 8 * k) (h : ∀ i, i < k → X.Read[f + i]? = some (secAt ws i)) : partW X f k = ws ++ List.replicate (8 * k - ws.length) 0 := by
  apply List.ext_getElem?
  intro p
  have hpl := part_len (f := f) (k := k) hs hfk
  by_cases hp : p < 8 * k
  · have hi : p / 8 < k := by omega
    have e1 := part_sec hs hfk hi
    rw [h _ hi] at e1
    have e2 := congrArg (fun s : Option Sec => s.bind (·[p % 8]?)) e1
    simp only [Option.bind_some] at e2
    rw [secAt_get _ _ _ (by omega), secAt_get _ _ _ (by omega), show 8 * (p / 8) + p % 8 = p by omega] at e2
    have e3 : (partW X f k)[p]? = some ((partW X f k)[p]'(by omega)) := List.getElem?_eq_getElem (by omega)
    rw [e3] at e2 ⊢
    rw [List.getElem?_append]
    simp only [Option.getD_some, Option.some.injEq] at e2
    rw [← e2]
    split
    · rename_i hlt
      rw [List.getElem?_eq_getElem hlt]; rfl
    · rename_i hge
      rw [List.getElem?_eq_none (l := ws) (by omega), List.getElem?_replicate, if_pos (by omega)]; rfl
  · rw [List.getElem?_eq_none (by omega), List.getElem?_eq_none (by simp; omega)]
theorem getF_zeros {e n : Int} : ∀ m, getF e n (List.replicate m 0) = none
  | 0 => rfl
  | m + 1 => by rw [List.replicate_succ]; exact getF_zero _
theorem log_all {f k : Nat} {e : Int} {fs : List Frame} {L : LogM} {X : RDisk} (h : LogOk f k e fs L X) (hs : ∀ s ∈ X.Read, isS s) (hfk : f + k ≤ X.Read.length) (he : num e = true) (hk : 8 * k < 4294967296) : allF e 0 (partW X f k) = (fs, (streamF e 0 fs).length) := by
  rw [part_of hs hfk h.len h.read]
  have hc := stream_count e 0 fs
  have hl := h.len
  exact allF_of e he fs 0 _ h.may (by omega) (getF_zeros _)

theorem open_eq {D : Disk} {n : Nat} (h : Good D n) {f k : Nat} {e : Int} (h1 : 1 ≤ k) (hfk : f + k ≤ n) (he : num e = true) :
    ∃ D', m_9 D (f : Int) (k : Int) e = some (⟨(f : Int), (k : Int), e, streamF e 0 (allF e 0 (partW (absD D) f k)).1, (allF e 0 (partW (absD D) f k)).1⟩, 0, D') ∧ Good D' n ∧
      absD D' = clX (absD D) f k (streamF e 0 (allF e 0 (partW (absD D) f k)).1) ∧ LogOk f k e (allF e 0 (partW (absD D) f k)).1 ⟨(f : Int), (k : Int), e, streamF e 0 (allF e 0 (partW (absD D) f k)).1, (allF e 0 (partW (absD D) f k)).1⟩ (absD D') := by
  have hsm := h.small
  have hrl := (abs_len h).2.1
  have hpl := part_len (f := f) (k := k) (abs_isS h) (by rw [hrl]; exact hfk)
  have hpw := part_isW (f := f) (k := k) (abs_isS h)
  obtain ⟨r, hr1, hr2, hr3, hr4⟩ := allF_spec e _ 0 (partW (absD D) f k) (Nat.le_refl _)
  have hfw := allF_isW (e := e) hpw _ 0 (partW (absD D) f k) (Nat.le_refl _) hpw
  generalize hfs : (allF e 0 (partW (absD D) f k)).1 = fs at hr1 hr2 hr3 hr4 hfw ⊢
  have htake : (partW (absD D) f k).take (streamF e 0 fs).length = streamF e 0 fs := by
    rw [hr1, List.take_left]
  have hsl : (streamF e 0 fs).length ≤ 8 * k := by
    have := congrArg List.length hr1
    rw [List.length_append, hpl] at this
    omega
  have hsw := isW_stream (e := e) (n := 0) hr3 hfw
  obtain ⟨D', g1, g2, g3⟩ := clear_eq h (L := ⟨(f : Int), (k : Int), e, streamF e 0 fs, fs⟩) rfl rfl hfk hsw (by show (streamF e 0 fs).length < _; omega)
  refine ⟨D', ?_, g2, g3, ⟨rfl, hr3, hfw, hsl, fun i hi => ?_⟩⟩
  · unfold m_9
    have e1 : decide ((f : Int) < 0) = false := by simp
    have e2 : decide ((k : Int) < 1) = false := by simp; omega
    have e3 : decide ((f : Int) > (D.lasts.length : Int)) = false := by simp [h.len]; omega
    have e4 : decide ((k : Int) > IntKind.wrap .i64 ((D.lasts.length : Int) - (f : Int))) = false := by rw [wi64 (by have := h.len; omega) (by have := h.len; omega)]; simp [h.len]; omega
    obtain ⟨n0, n1⟩ := num_iff.1 he
    have e5 : decide (e < 0) = false := by simp; omega
    have e6 : decide (e > 4294967295) = false := by simp; omega
    simp only [mq_32, ob_s, e1, e2, e3, e4, e5, e6, cond_false]
    rw [words_eq h hfk]
    simp only [ob_s]
    rw [show ((0 : Int) != 0) = false from rfl]
    simp only [cond_false]
    show ob (m_34 e (partW (absD D) f k)) _ = _
    rw [all_34 hpw (by omega)]
    simp only [ob_s]
    rw [hfs, hr2]
    show ob (sl (partW (absD D) f k) ((0 : Nat) : Int) _) _ = _
    rw [sl_eq (by omega) (by omega)]
    simp only [ob_s, List.drop_zero, htake]
    have hne : (!(partW (absD D) f k).isEmpty) = true := by
      have : partW (absD D) f k ≠ [] := fun e => by rw [e] at hpl; simp at hpl; omega
      simp [this]
    show ob (gd (!(partW (absD D) f k).isEmpty) (some ())) _ = _
    rw [hne]
    simp only [gd_t, ob_s]
    rw [g1]; rfl
  · rw [g3, clX_read _ _ _ _ (by rw [hrl]; exact hfk), if_pos (by omega), show f + i - f = i by omega]

theorem append_bad {D : Disk} {L : LogM} {F : Frame} (hm : may F = false) : mq_10 L D F = some (1, L, D) := by
  unfold mq_10 m_10
  rw [may_36, hm]; rfl
theorem sec_mono {ws vs : List Int} {i : Nat} (h : 8 * (i + 1) ≤ ws.length) : secAt (ws ++ vs) i = secAt ws i := by
  unfold secAt
  apply List.map_congr_left
  intro k hk
  have := List.mem_range.1 hk
  rw [List.getElem?_append_left (by omega)]
theorem sec_far {ws : List Int} {i : Nat} (h : ws.length ≤ 8 * i) : secAt ws i = Z8 := by
  have : secAt ws i = (List.range 8).map fun _ => 0 := by
    unfold secAt
    apply List.map_congr_left
    intro k hk
    rw [List.getElem?_eq_none (by omega)]; rfl
  rw [this]; rfl
theorem append_eq {D : Disk} {n : Nat} (h : Good D n) {f k : Nat} {e : Int} {fs : List Frame} {L : LogM} (hL : LogOk f k e fs L (absD D)) (hfk : f + k ≤ n) (he : num e = true) {F : Frame} (hm : may F = true) (hw : ∀ x ∈ F.Words, isW x) :
    if (streamF e 0 fs).length + (1 + F.Words.length) ≤ 8 * k then
      ∃ L' D', mq_10 L D F = some (0, L', D') ∧ Good D' n ∧ LogOk f k e (fs ++ [F]) L' (absD D') ∧
        absD D' = wsX (absD D) f (streamF e 0 (fs ++ [F])) ((streamF e 0 fs).length / 8) (((streamF e 0 (fs ++ [F])).length - 1) / 8 + 1 - (streamF e 0 fs).length / 8)
    else mq_10 L D F = some (4, L, D) := by
  have hsm := h.small
  obtain ⟨rfl, hmay, hww, hlen, hread⟩ := hL
  obtain ⟨k0, k1, k2⟩ := may_iff.1 hm
  have hc := stream_count e 0 fs
  have hcost : m_37 F = some (1 + (F.Words.length : Int)) := by
    unfold m_37
    rw [may_36, hm]
    simp only [ob_s, Bool.not_true, cond_false]
    rw [wi64 (by omega) (by omega)]
  have hroom : room ⟨(f : Int), (k : Int), e, streamF e 0 fs, fs⟩ = ((8 * k - (streamF e 0 fs).length : Nat) : Int) := by
    unfold room
    simp only
    rw [wi64 (x := (k : Int) * 8) (by omega) (by omega), wi64 (by omega) (by omega)]
    omega
  have hst : streamF e 0 (fs ++ [F]) = streamF e 0 fs ++ putF e (fs.length : Int) F := by
    rw [streamF_append]; simp [streamF]
  have hpl := putF_len e (fs.length : Int) F
  split
  · rename_i hfit
    have hmay' : ∀ G ∈ fs ++ [F], may G = true := fun G hG => by
      rcases List.mem_append.1 hG with hG | hG
      · exact hmay G hG
      · rw [List.mem_singleton.1 hG]; exact hm
    have hww' : ∀ G ∈ fs ++ [F], ∀ x ∈ G.Words, isW x := fun G hG => by
      rcases List.mem_append.1 hG with hG | hG
      · exact hww G hG
      · rw [List.mem_singleton.1 hG]; exact hw
    have hlen' : (streamF e 0 (fs ++ [F])).length = (streamF e 0 fs).length + (1 + F.Words.length) := by rw [hst, List.length_append, hpl]
    obtain ⟨D', g1, g2, g3⟩ := write_40 h (L := ⟨(f : Int), (k : Int), e, streamF e 0 (fs ++ [F]), fs ++ [F]⟩) (k := k) (at_ := (streamF e 0 fs).length) rfl hfk (isW_stream hmay' hww') (by show _ < (streamF e 0 (fs ++ [F])).length; omega) (by show (streamF e 0 (fs ++ [F])).length ≤ _; omega)
    refine ⟨_, D', ?_, g2, ⟨rfl, hmay', hww', by omega, fun i hi => ?_⟩, g3⟩
    · unfold mq_10 m_10
      rw [may_36, hm, hcost, hroom]
      simp only [ob_s, Bool.not_true, cond_false]
      rw [show decide (1 + (F.Words.length : Int) > ((8 * k - (streamF e 0 fs).length : Nat) : Int)) = false by simp; omega]
      simp only [cond_false]
      rw [put_38 he (num_iff.2 ⟨by omega, by omega⟩) hm hw]
      simp only [ob_s]
      rw [show (!(putF e (fs.length : Int) F).isEmpty) = true from rfl]
      simp only [gd_t, ob_s]
      rw [ap_eq (by omega)]
      simp only [ob_s]
      rw [clone_39 (by omega)]
      simp only [ob_s]
      rw [ap_eq (by simp; omega)]
      simp only [ob_s]
      rw [← hst]
      show ob (ob (m_40 ⟨(f : Int), (k : Int), e, streamF e 0 (fs ++ [F]), fs ++ [F]⟩ D _) _) _ = _
      rw [g1]; rfl
    · have hrl := (abs_len h).2.1
      rw [g3]
      show (wsX (absD D) f (streamF e 0 (fs ++ [F])) _ _).Read[f + i]? = _
      rw [wsX_read _ _ _ _ _ _ (by show f + (_ + (((streamF e 0 (fs ++ [F])).length - 1) / 8 + 1 - _)) ≤ _; omega)]
      by_cases hi1 : f + (streamF e 0 fs).length / 8 ≤ f + i ∧ f + i < f + ((streamF e 0 fs).length / 8 + (((streamF e 0 (fs ++ [F])).length - 1) / 8 + 1 - (streamF e 0 fs).length / 8))
      · rw [if_pos hi1, show f + i - f = i by omega]
      · rw [if_neg hi1, hread i hi]
        congr 1
        by_cases hlo : i < (streamF e 0 fs).length / 8
        · rw [hst, sec_mono (by omega)]
        · rw [sec_far (by omega), sec_far (by omega)]
  · rename_i hfit
    unfold mq_10 m_10
    rw [may_36, hm, hcost, hroom]
    simp only [ob_s, Bool.not_true, cond_false]
    rw [show decide (1 + (F.Words.length : Int) > ((8 * k - (streamF e 0 fs).length : Nat) : Int)) = true by simp; omega]
    rfl
end Go.Proofs.YtdkfdmalbbfbmaaGreat

/- The plain law of LogAgain. -/
namespace Go.Proofs.YtdkfdmalbbfbmaaGreat
open Go
set_option maxRecDepth 4000

theorem LogOk.frames {f k : Nat} {e : Int} {fs : List Frame} {L : LogM} {X : RDisk} (h : LogOk f k e fs L X) (hk : 8 * k < 4294967295) : m_12 L = some fs := by
  have hc := stream_count e 0 fs
  have hl := h.len
  have := frames_12 (L := L) (by rw [h.eq]; show fs.length < _; omega) (by
    rw [h.eq]
    intro F hF
    have := (may_iff.1 (h.may F hF)).2.2
    omega)
  rw [this, h.eq]
theorem LogOk.room {f k : Nat} {e : Int} {fs : List Frame} {L : LogM} {X : RDisk} (h : LogOk f k e fs L X) (hk : 8 * k < 4294967295) : mq_13 L = some ((8 * k - (streamF e 0 fs).length : Nat) : Int) := by
  have hl := h.len
  unfold mq_13
  rw [h.eq]
  unfold Go.Proofs.YtdkfdmalbbfbmaaGreat.room
  simp only
  rw [wi64 (x := (k : Int) * 8) (by omega) (by omega), wi64 (by omega) (by omega)]
  congr 1
  omega
theorem same_refl {f k : Nat} {e : Int} {fs : List Frame} {L : LogM} {X : RDisk} (h : LogOk f k e fs L X) (hk : 8 * k < 4294967295) : m_11 fs fs = some true := by
  have hc := stream_count e 0 fs
  have hl := h.len
  rw [same_11 (by omega) (fun F hF => by have := (may_iff.1 (h.may F hF)).2.2; omega)]
  simp
/-- A new device has no frames. -/
theorem zeros_part {D : Disk} {n : Nat} (h : Good D n) (hr : (absD D).Read = List.replicate n Z8) (f k : Nat) (hfk : f + k ≤ n) : partW (absD D) f k = List.replicate (8 * k) 0 := by
  have := part_of (f := f) (k := k) (ws := []) (abs_isS h) (by rw [(abs_len h).2.1]; exact hfk) (by simp) (fun i hi => by
    rw [hr, List.getElem?_replicate, if_pos (by omega), sec_far (by simp)])
  simpa using this
theorem zeros_all {e : Int} {n m : Nat} : allF e n (List.replicate m 0) = ([], 0) := allF_none (getF_zeros m)

theorem n30 {x0 : Int} (h0 : 0 ≤ x0) (h1 : x0 ≤ 255) : ∃ N : Nat, 1 ≤ N ∧ N ≤ 30 ∧ IntKind.wrap .i64 (IntKind.wrap .i64 (Int.tmod x0 30) + 1) = (N : Int) := by
  refine ⟨(x0 % 30).toNat + 1, by omega, by omega, ?_⟩
  rw [Int.tmod_eq_emod_of_nonneg h0, wi64 (x := x0 % 30) (by omega) (by omega), wi64 (by omega) (by omega)]
  omega

def frameW (F : Frame) : Prop := (Lit.int .i64 F.Kind).wf = true ∧ F.Words.length ≤ maxLen ∧ ∀ x ∈ F.Words, (Lit.int .u64 x).wf = true
theorem isW_wf {x : Int} (h : (Lit.int .u64 x).wf = true) : isW x := by
  simp only [Lit.wf, Bool.and_eq_true, decide_eq_true_eq, IntKind.min, IntKind.max, IntKind.signed, IntKind.bits] at h
  obtain ⟨h0, h1⟩ := h
  simp at h0 h1
  exact ⟨h0, by omega⟩
theorem wf_u8 {x : Int} (h : (Lit.int .u8 x).wf = true) : 0 ≤ x ∧ x ≤ 255 := by
  simp only [Lit.wf, Bool.and_eq_true, decide_eq_true_eq, IntKind.min, IntKind.max, IntKind.signed, IntKind.bits] at h
  obtain ⟨h0, h1⟩ := h
  simp at h0 h1
  exact ⟨h0, by omega⟩

end Go.Proofs.YtdkfdmalbbfbmaaGreat

/- What lasts of a crash: the law's closure; the crash by it. -/
namespace Go.Proofs.YtdkfdmalbbfbmaaGreat
open Go Go.Maps
set_option maxRecDepth 4000

def cK (keep : List Bool) (x : Int) (_ : Int) : Option (Int × Bool) :=
  bif decide (IntKind.wrap .i64 (x + 1) ≤ (keep.length : Int)) then ob (gt keep (IntKind.wrap .i64 (IntKind.wrap .i64 (x + 1) - 1))) fun b => some (IntKind.wrap .i64 (x + 1), b) else some (IntKind.wrap .i64 (x + 1), false)
theorem ok_50 (s : St) {κ : Tg} {b1 b2 : Nat} {x : Int} {w1 : Value} {keep : List Bool} (o1 : Own κ s b1 #[.int .i64 x] 3) (o2 : Stay s b2 #[w1]) (h1 : Sl kBool s w1 keep) {i x' : Int} {bb : Bool} (hm : cK keep x i = some (x', bb)) :
    Ok Tryz.prog 45 ([.int .i64 i, .pointer (some ⟨b1, 0, none⟩), .pointer (some ⟨b2, 0, none⟩)] : List Value).toArray s fun v s' => v = .bool bb ∧ Own κ s' b1 #[.int .i64 x'] 3 ∧ Tr (· = κ) s s' := by
  unfold cK at hm
  refine ok_of (n := 18) _ Tryz.func45 rfl _ rfl rfl fun a E => ?_
  refine G_seq ?_
  refine G_region ?_
  refine sd E (o_as (E.ev rfl)) rfl rfl rfl fun a E => ?_
  refine GL_nil ?_
  refine tgn ?_
  refine G_seq ?_
  refine G_region ?_
  refine sd E (o_ld Tryz.isAgg3 (E.ev rfl) ((o1.cell _).trans rfl)) rfl rfl rfl fun a E => ?_
  refine sd E (o_bi (E.ev rfl) (E.ev rfl) rfl) rfl rfl rfl fun a E => ?_
  refine shN E (o_st (o := 0) (cs' := #[.int .i64 (IntKind.wrap .i64 (x + 1))]) (v := .int .i64 (IntKind.wrap .i64 (x + 1))) Tryz.sizeOf3 o1 (E.ev rfl) (E.ev rfl) (Nat.le_of_ble_eq_true rfl) (one_cells rfl) rfl) rfl rfl ?_
  rintro _ s1 ⟨o3, t1⟩
  have o2 := o2.tr t1
  have h1 := h1.tr t1
  refine GL_nil ?_
  refine tgn ?_
  refine G_seq ?_
  have hx : x' = IntKind.wrap .i64 (x + 1) := by
    cases hc : decide (IntKind.wrap .i64 (x + 1) ≤ (keep.length : Int)) with
    | true => obtain ⟨z, _, hm⟩ := ob_some (cT hc hm); cases hm; rfl
    | false => have := cF hc hm; cases this; rfl
  refine G_regm (fun a' w' => w' = s1.w ∧ En [] 18 a' [(4, .bool bb)]) ?_ ?_
  · refine sd E (o_ld Tryz.isAgg3 (E.ev rfl) ((o3.cell _).trans rfl)) rfl rfl rfl fun a E => ?_
    refine sd E (o_ld Tryz.isAgg23 (E.ev rfl) ((o2.cell _).trans rfl)) rfl rfl rfl fun a E => ?_
    refine sd E (o_lenS (xs := keep) Tryz.underlying23 (E.ev rfl) h1.isS) rfl rfl rfl fun a E => ?_
    refine sd E (o_bi (E.ev rfl) (E.ev rfl) rfl) rfl rfl rfl fun a E => ?_
    refine sd E (o_mv (E.ev rfl)) rfl rfl rfl fun a E => ?_
    refine bcase (E.ev (x := .tmp 11) rfl) (fun ht => ?_) (fun ht => ?_)
    · have hm := cT ht hm
      obtain ⟨z, hz, hm⟩ := ob_some hm
      cases hm
      obtain ⟨b, o, g, h2⟩ := h1.gt hz
      rw [ht] at E
      refine sd E (o_ld Tryz.isAgg23 (E.ev rfl) ((o2.cell _).trans rfl)) rfl rfl rfl fun a E => ?_
      refine sd E (o_ld Tryz.isAgg3 (E.ev rfl) ((o3.cell _).trans rfl)) rfl rfl rfl fun a E => ?_
      refine sd E (o_bi (E.ev rfl) (E.ev rfl) rfl) rfl rfl rfl fun a E => ?_
      refine sd E (o_ixg Tryz.underlying23 Tryz.sizeOf4 g (E.ev rfl) (E.ev rfl)) rfl rfl rfl fun a E => ?_
      refine sd E (o_ld Tryz.isAgg4 (E.ev rfl) h2.cellB) rfl rfl rfl fun a E => ?_
      refine sd E (o_pickT (E.ev rfl) (E.ev rfl)) rfl rfl rfl fun a E => ?_
      refine sd E (o_as (E.ev rfl)) rfl rfl rfl fun a E => ?_
      exact GL_nil ⟨rfl, E.nil.ad E rfl rfl⟩
    · have hm := cF ht hm
      cases hm
      rw [ht] at E
      refine sk E rfl rfl rfl fun a E => ?_
      refine sk E rfl rfl rfl fun a E => ?_
      refine sk E rfl rfl rfl fun a E => ?_
      refine sk E rfl rfl rfl fun a E => ?_
      refine sk E rfl rfl rfl fun a E => ?_
      refine sd E (o_pickF (E.ev rfl) (E.ev rfl)) rfl rfl rfl fun a E => ?_
      refine sd E (o_as (E.ev rfl)) rfl rfl rfl fun a E => ?_
      exact GL_nil ⟨rfl, E.nil.ad E rfl rfl⟩
  · rintro a _ ⟨rfl, E⟩
    refine tgn ?_
    refine G_ret ?_
    subst hx
    exact fin1 E rfl rfl ⟨rfl, o3, t1⟩

theorem ok_20 (s : St) (tr : Tg) {x0 : List Bool} {w1 : Value} (h1 : Sl kBool s w1 x0) :
    Ok Tryz.prog 17 ([w1] : List Value).toArray s fun v s' => Tr No s s' ∧ ∃ b1 b2 w2, v = .func (.func 45) #[] #[.pointer (some ⟨b1, 0, none⟩), .pointer (some ⟨b2, 0, none⟩)] ∧ Own tr s' b1 #[.int .i64 0] 3 ∧ Stay s' b2 #[w2] ∧ Sl kBool s' w2 x0 := by
  obtain ⟨κ, hk⟩ := s.fresh
  refine ok_of (n := 5) _ Tryz.func17 rfl _ rfl rfl fun a E => ?_
  refine G_seq ?_
  refine G_region ?_
  obtain ⟨a1, c1, rfl⟩ := h1.isS
  refine sh E (o_box (E.ev rfl)) rfl rfl rfl ?_
  rintro a _ s1 ⟨b1, rfl, o1, t1⟩ E
  refine sd E (o_as (E.ev rfl)) rfl rfl rfl fun a E => ?_
  refine GL_nil ?_
  refine tgn ?_
  refine G_seq ?_
  refine G_region ?_
  refine sh E (o_al (κ, 1) Tryz.zeroValue3) rfl rfl rfl ?_
  rintro a _ s2 ⟨b2, rfl, o2, t2⟩ E
  refine shN E (o_st (o := 0) (cs' := #[.int .i64 0]) (v := .int .i64 0) Tryz.sizeOf3 o2 (E.ev rfl) (E.ev rfl) (Nat.le_of_ble_eq_true rfl) (one_cells rfl) rfl) rfl rfl ?_
  rintro _ s3 ⟨o3, t3⟩
  refine GL_nil ?_
  refine tgn ?_
  refine G_seq ?_
  refine G_region ?_
  refine sd E (o_mf (E.evs rfl)) rfl rfl rfl fun a E => ?_
  refine sd E (o_as (E.ev rfl)) rfl rfl rfl fun a E => ?_
  refine GL_nil ?_
  refine tgn ?_
  refine G_ret ?_
  obtain ⟨s4, e4, o4, t4⟩ := o3.rt tr
  rw [e4]
  have T2 : Tr No s s2 := t1.trans t2
  exact fin1 E rfl rfl ⟨(T2.step hk t3 (by intro t h; subst h; exact .inr (Nat.le_refl _))).step hk t4 (by intro t h; subst h; exact .inr (Nat.le_refl _)), b2, b1, _, rfl, o4, ((o1.tr t2).tr t3).tr t4, (((h1.tr t1).tr t2).tr t3).tr t4⟩

noncomputable def mq_19 (D : Disk) (keep : List Bool) : Option Disk := ob (m_49 (cK keep) D 0) fun r => some r.1
theorem oq_19 (s : St) {k b : Nat} {D D' : Disk} {r j b1 b2 : Nat} {w2 : Value} {keep : List Bool} (hd : DiskAt k s b D) (o1 : Own (r, j) s b1 #[.int .i64 0] 3) (o2 : Stay s b2 #[w2]) (h2 : Sl kBool s w2 keep) (hne : k ≠ r) (hm : mq_19 D keep = some D') :
    Ok Tryz.prog 16 ([.pointer (some ⟨b, 0, none⟩), .func (.func 45) #[] #[.pointer (some ⟨b1, 0, none⟩), .pointer (some ⟨b2, 0, none⟩)]] : List Value).toArray s fun _ s' => Tr (Ws [k, r]) s s' ∧ DiskAt k s' b D' := by
  obtain ⟨⟨D1, u1⟩, hl, hm⟩ := ob_some hm
  cases hm
  refine (ok_19 (σ := Int) s hd _ (fun x s' => Own (r, j) s' b1 #[.int .i64 x] 3 ∧ Stay s' b2 #[w2] ∧ Sl kBool s' w2 keep) (Rt r) (fun i => nr hne) ?_ ?_ (cK keep) ?_ ⟨o1, o2, h2⟩ hl).mono ?_
  · rintro st s s' ⟨g1, g2, g3⟩ t
    exact ⟨g1.trN t, g2.tr t, g3.tr t⟩
  · rintro st s s' ⟨g1, g2, g3⟩ t
    exact ⟨g1.tr t (nr hne.symm), g2.tr t, g3.tr t⟩
  · rintro st z st' bb s ⟨g1, g2, g3⟩ hc
    have hcall : CallV Tryz.prog (.func (.func 45) #[] ([.pointer (some ⟨b1, 0, none⟩), .pointer (some ⟨b2, 0, none⟩)] : List Value).toArray) [.int .i64 z] s _ := callv_ok (args := [.int .i64 z]) (cp := [.pointer (some ⟨b1, 0, none⟩), .pointer (some ⟨b2, 0, none⟩)]) Tryz.call45 (ok_50 s g1 g2 g3 (i := z) hc)
    exact CallV.mono hcall fun v s' ⟨e, h, t⟩ => ⟨e, ⟨h, g2.tr t, g3.tr t⟩, t.mono (by intro t h; subst h; rfl)⟩
  · rintro v s' ⟨g1, _, t⟩
    exact ⟨t.w2, g1⟩
end Go.Proofs.YtdkfdmalbbfbmaaGreat

/- Models and walks, printed by a program of ours. -/
namespace Go.Proofs.YtdkfdmalbbfbmaaGreat
open Go Go.Maps
set_option maxRecDepth 4000
set_option maxHeartbeats 1000000
-- gimmal/gimmallaw08.LogLasts
-- gimmal/gimmallaw08.LogLost
end Go.Proofs.YtdkfdmalbbfbmaaGreat
