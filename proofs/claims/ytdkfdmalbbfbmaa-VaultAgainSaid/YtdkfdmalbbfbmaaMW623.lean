/- Plain laws: the document's log. -/
import Derived.Test.YtdkfdmalbbfbmaaMW622
/- Plain laws: the document's log. -/
namespace Go.Proofs.Ytdkfdmalbbfbmaa
open Go
set_option maxRecDepth 4000

theorem st_eq {xs : List Int} {i : Nat} {z : Int} (h : i < xs.length) : st xs (i : Int) z = some (xs.set i z) := by
  unfold st
  rw [show (decide (0 ≤ (i : Int)) && decide ((i : Int) < (xs.length : Int))) = true by simp; omega]; rfl
/-- The words of a sector are told one by one. -/
theorem ref_sec {X : RDisk} {f j : Nat} {s : Sec} (hs : X.Read[f + j]? = some s) (h8 : s.length = 8) (hj : f + j < 4096) {out : List Int} (hl : out.length < 4294967000) : loopO (m_43_2b X (f : Int) (j : Int)) (out, 0) = some (out ++ s, 8) := by
  have hw : IntKind.wrap .i64 ((f : Int) + (j : Int)) = ((f + j : Nat) : Int) := by rw [wi64 (by omega) (by omega)]; omega
  have := loopO_count (f := m_43_2b X (f : Int) (j : Int)) (fun i => (out ++ s.take i, (i : Int))) 8 (r := (out ++ s, 8)) (fun i hi => by
    have h1 : decide ((i : Int) < 8) = true := by simp; omega
    have h0 : decide (0 ≤ (i : Int)) = true := by simp
    have e2 : IntKind.wrap .i64 ((i : Int) + 1) = ((i + 1 : Nat) : Int) := by rw [wi64 (by omega) (by omega)]; rfl
    dsimp only [m_43_2b]
    rw [h1, h0, hw, gt_at hs]
    simp only [cond_true, ob_s, Bool.and_self, gd_t]
    rw [gt_eq (show i < s.length by omega)]
    simp only [ob_s]
    rw [ap_eq (by simp; omega)]
    simp only [ob_s, e2]
    rw [List.take_succ_eq_append_getElem (show i < s.length by omega), List.append_assoc]) (by
    dsimp only [m_43_2b]
    rw [List.take_of_length_le (by omega)]; rfl)
  simpa using this
theorem ref_words {X : RDisk} {n : Nat} (h : GoodX X n) {f k : Nat} (hfk : f + k ≤ n) : m_43 X (f : Int) (k : Int) = some (partW X f k) := by
  have hsm := h.small
  unfold m_43
  have key : loopO (m_43_1b X (f : Int) (k : Int)) ([], 0) = some (partW X f k, (k : Int)) := by
    have := loopO_count (f := m_43_1b X (f : Int) (k : Int)) (fun i => (((X.Read.drop f).take i).flatten, (i : Int))) k (r := (partW X f k, (k : Int))) (fun i hi => by
      have h1 : decide ((i : Int) < (k : Int)) = true := by simp; omega
      have e2 : IntKind.wrap .i64 ((i : Int) + 1) = ((i + 1 : Nat) : Int) := by rw [wi64 (by omega) (by omega)]; rfl
      have hl : ((X.Read.drop f).take i).flatten.length = 8 * i := by
        rw [words_len (fun s hh => h.rs s (List.mem_of_mem_drop (List.mem_of_mem_take hh))), List.length_take, List.length_drop, h.r]; omega
      have hfi : f + i < X.Read.length := by rw [h.r]; omega
      have hg : X.Read[f + i]? = some (X.Read[f + i]) := List.getElem?_eq_getElem hfi
      dsimp only [m_43_1b]
      rw [h1]
      simp only [cond_true]
      rw [ref_sec hg (h.rs _ (List.getElem_mem hfi)).1 (by omega) (by omega)]
      simp only [ob_s, m_43_2k, e2]
      rw [List.take_succ_eq_append_getElem (show i < (X.Read.drop f).length by rw [List.length_drop]; omega), List.flatten_append]
      simp [List.getElem_drop]) (by
      dsimp only [m_43_1b]
      rw [show decide ((k : Int) < (k : Int)) = false by simp]
      rfl)
    simpa using this
  rw [key]; rfl
/-- The length of what a log has. -/
theorem ref_used {f k : Int} {e : Int} {fs : List Frame} (hm : ∀ F ∈ fs, may F = true) (hl : (streamF e 0 fs).length < 4294967296) : m_47 ⟨f, k, e, fs⟩ = some ((streamF e 0 fs).length : Int) := by
  unfold m_47
  have hc := stream_count e 0 fs
  have key : loopO (m_47_1b ⟨f, k, e, fs⟩) (0, 0) = some (((streamF e 0 fs).length : Int), (fs.length : Int)) := by
    have := loopO_count (f := m_47_1b ⟨f, k, e, fs⟩) (fun i => (((streamF e 0 (fs.take i)).length : Int), (i : Int))) fs.length (r := (((streamF e 0 fs).length : Int), (fs.length : Int))) (fun i hi => by
      have h1 : decide ((i : Int) < (fs.length : Int)) = true := by simp; omega
      have e2 : IntKind.wrap .i64 ((i : Int) + 1) = ((i + 1 : Nat) : Int) := by rw [wi64 (by omega) (by omega)]; rfl
      have hF := (may_iff.1 (hm _ (List.getElem_mem hi))).2.2
      have hlen : (streamF e 0 (fs.take (i + 1))).length = (streamF e 0 (fs.take i)).length + (1 + fs[i].Words.length) := by
        rw [List.take_succ_eq_append_getElem hi, streamF_append, List.length_append]
        simp [streamF, putF_len]
      have hle : (streamF e 0 (fs.take (i + 1))).length ≤ (streamF e 0 fs).length := by
        conv => rhs; rw [← List.take_append_drop (i + 1) fs]
        rw [streamF_append, List.length_append]; omega
      dsimp only [m_47_1b]
      rw [h1, gt_eq hi]
      simp only [cond_true, ob_s, e2]
      rw [wi64 (x := (((streamF e 0 (fs.take i)).length : Nat) : Int) + 1) (by omega) (by omega), wi64 (by omega) (by omega), hlen]
      congr 3
      omega) (by
      dsimp only [m_47_1b]
      rw [show decide ((fs.length : Int) < (fs.length : Int)) = false by simp, List.take_length]; rfl)
    simpa [streamF] using this
  rw [key]; rfl
/-- The document's opening. -/
theorem ref_open {X : RDisk} {n : Nat} (h : GoodX X n) {f k : Nat} {e : Int} (hfk : f + k ≤ n) :
    m_17 X (f : Int) (k : Int) e = some (⟨(f : Int), (k : Int), e, (allF e 0 (partW X f k)).1⟩, clX X f k (streamF e 0 (allF e 0 (partW X f k)).1)) := by
  have hsm := h.small
  have hrl := h.r
  have hpl := part_len (f := f) (k := k) h.rs (by rw [hrl]; exact hfk)
  have hpw := part_isW (f := f) (k := k) h.rs
  obtain ⟨r, hr1, hr2, hr3, hr4⟩ := allF_spec e _ 0 (partW X f k) (Nat.le_refl _)
  have hfw := allF_isW (e := e) hpw _ 0 (partW X f k) (Nat.le_refl _) hpw
  unfold m_17
  rw [ref_words h hfk]
  simp only [ob_s]
  rw [all_15 hpw (by omega)]
  simp only [ob_s]
  generalize hfs : (allF e 0 (partW X f k)).1 = fs at hr1 hr2 hr3 hr4 hfw ⊢
  rw [hr2]
  have hsl : (streamF e 0 fs).length ≤ 8 * k := by
    have := congrArg List.length hr1
    rw [List.length_append, hpl] at this
    omega
  have hsw := isW_stream (e := e) (n := 0) hr3 hfw
  generalize hst : streamF e 0 fs = st at hr1 hsl hsw ⊢
  -- one sector
  have sect : ∀ {m : Nat} {s : Sec}, m < k → X.Read[f + m]? = some s → loopO (m_17_2b (st.length : Int) (m : Int)) (false, 0, s) = some (decide (s ≠ secAt st m), 8, secAt st m) := by
    intro m s hm hs
    have h8 := (h.rs s (List.mem_of_getElem? hs)).1
    have hsec := part_sec h.rs (by rw [hrl]; exact hfk) hm
    rw [hs] at hsec
    have hget : ∀ i, i < 8 → s[i]? = some (((partW X f k)[8 * m + i]?).getD 0) := fun i hi => by
      rw [Option.some.inj hsec]; exact secAt_get _ _ _ hi
    have hlow : ∀ i, i < 8 → 8 * m + i < st.length → s[i]? = (secAt st m)[i]? := fun i hi hlt => by
      rw [hget i hi, secAt_get _ _ _ hi, hr1, List.getElem?_append_left hlt]
    have hst8 : (secAt st m).length = 8 := (secAt_isS hsw m).1
    have hgen : ∀ d i, 8 - i = d → i ≤ 8 → loopO (m_17_2b (st.length : Int) (m : Int)) (decide (s.take i ≠ (secAt st m).take i), (i : Int), (secAt st m).take i ++ s.drop i) = some (decide (s ≠ secAt st m), 8, secAt st m) := by
      intro d
      induction d with
      | zero =>
        intro i hd hi
        have : i = 8 := by omega
        subst this
        refine loopO_end ?_
        dsimp only [m_17_2b]
        rw [List.take_of_length_le (by omega), List.take_of_length_le (by omega), List.drop_eq_nil_of_le (by omega), List.append_nil]; rfl
      | succ d ih =>
        intro i hd hi
        have hlt : i < 8 := by omega
        have h1 : decide ((i : Int) < 8) = true := by simp; omega
        have h0 : decide (0 ≤ (i : Int)) = true := by simp
        have e2 : IntKind.wrap .i64 ((i : Int) + 1) = ((i + 1 : Nat) : Int) := by rw [wi64 (by omega) (by omega)]; rfl
        have e3 : IntKind.wrap .i64 (IntKind.wrap .i64 (8 * (m : Int)) + (i : Int)) = ((8 * m + i : Nat) : Int) := by rw [wi64 (x := 8 * (m : Int)) (by omega) (by omega), wi64 (by omega) (by omega)]; omega
        have hcur : ((secAt st m).take i ++ s.drop i)[i]? = s[i]? := by
          rw [List.getElem?_append_right (by rw [List.length_take]; omega), List.length_take, Nat.min_eq_left (by omega), Nat.sub_self, List.getElem?_drop, Nat.add_zero]
        have hgi := hget i hlt
        have hsg := secAt_get st m i hlt
        have hset : ∀ y, (secAt st m)[i]? = some y → ((secAt st m).take i ++ s.drop i).set i y = (secAt st m).take (i + 1) ++ s.drop (i + 1) := by
          intro y hy
          have hy2 : (secAt st m)[i]'(by omega) = y := by
            rw [List.getElem?_eq_getElem (by omega)] at hy; exact Option.some.inj hy
          rw [List.take_succ_eq_append_getElem (show i < (secAt st m).length by omega), hy2, List.append_assoc, List.set_append, List.length_take, Nat.min_eq_left (by omega), if_neg (by omega), Nat.sub_self]
          rw [List.drop_eq_getElem_cons (show i < s.length by omega)]
          rfl
        have hkeep : s[i]? = (secAt st m)[i]? → (secAt st m).take i ++ s.drop i = (secAt st m).take (i + 1) ++ s.drop (i + 1) := by
          intro hy
          have hy3 : s[i]'(by omega) = (secAt st m)[i]'(by omega) := by
            rw [List.getElem?_eq_getElem (by omega), List.getElem?_eq_getElem (by omega)] at hy; exact Option.some.inj hy
          rw [List.take_succ_eq_append_getElem (show i < (secAt st m).length by omega), List.drop_eq_getElem_cons (show i < s.length by omega), hy3, List.append_assoc]; rfl
        have hdec : s[i]? = (secAt st m)[i]? → decide (s.take (i + 1) ≠ (secAt st m).take (i + 1)) = decide (s.take i ≠ (secAt st m).take i) := by
          intro hy
          have hy3 : s[i]'(by omega) = (secAt st m)[i]'(by omega) := by
            rw [List.getElem?_eq_getElem (by omega), List.getElem?_eq_getElem (by omega)] at hy; exact Option.some.inj hy
          rw [List.take_succ_eq_append_getElem (show i < (secAt st m).length by omega), List.take_succ_eq_append_getElem (show i < s.length by omega), hy3]
          simp only [ne_eq, List.append_cancel_right_eq]
        have hne : s[i]? ≠ (secAt st m)[i]? → decide (s.take (i + 1) ≠ (secAt st m).take (i + 1)) = true := by
          intro hy
          rw [decide_eq_true_eq]
          intro e
          apply hy
          have := congrArg (·[i]?) e
          simpa [List.getElem?_take] using this
        by_cases hz : 8 * m + i < st.length
        · have hy := hlow i hlt hz
          rw [loopO_next (s' := (decide (s.take (i + 1) ≠ (secAt st m).take (i + 1)), ((i + 1 : Nat) : Int), (secAt st m).take (i + 1) ++ s.drop (i + 1))) ?_]
          · exact ih (i + 1) (by omega) (by omega)
          · dsimp only [m_17_2b]
            rw [h1, e3, show decide (((8 * m + i : Nat) : Int) ≥ (st.length : Int)) = false by simp; omega]
            simp only [cond_true, cond_false, ob_s, m_17_3k, e2]
            rw [hdec hy, ← hkeep hy]
        · rw [List.getElem?_eq_none (l := st) (by omega)] at hsg
          have hsg : (secAt st m)[i]? = some 0 := hsg
          by_cases hv : ((partW X f k)[8 * m + i]?).getD 0 = 0
          · rw [hv] at hgi
            have hy : s[i]? = (secAt st m)[i]? := by rw [hgi, hsg]
            rw [loopO_next (s' := (decide (s.take (i + 1) ≠ (secAt st m).take (i + 1)), ((i + 1 : Nat) : Int), (secAt st m).take (i + 1) ++ s.drop (i + 1))) ?_]
            · exact ih (i + 1) (by omega) (by omega)
            · dsimp only [m_17_2b]
              rw [h1, e3, h0, show decide (((8 * m + i : Nat) : Int) ≥ (st.length : Int)) = true by simp; omega]
              simp only [cond_true, ob_s, Bool.and_self, gd_t]
              rw [gt_at (hcur.trans hgi)]
              simp only [ob_s, m_17_3k, e2]
              rw [show ((0 : Int) != 0) = false from rfl]
              simp only [cond_false, ob_s, m_17_3k, e2, hdec hy, ← hkeep hy]
          · have hy : s[i]? ≠ (secAt st m)[i]? := by rw [hgi, hsg]; exact fun e => hv (Option.some.inj e)
            rw [loopO_next (s' := (decide (s.take (i + 1) ≠ (secAt st m).take (i + 1)), ((i + 1 : Nat) : Int), (secAt st m).take (i + 1) ++ s.drop (i + 1))) ?_]
            · exact ih (i + 1) (by omega) (by omega)
            · dsimp only [m_17_2b]
              rw [h1, e3, h0, show decide (((8 * m + i : Nat) : Int) ≥ (st.length : Int)) = true by simp; omega]
              simp only [cond_true, ob_s, Bool.and_self, gd_t]
              rw [gt_at (hcur.trans hgi)]
              simp only [ob_s, m_17_3k, e2]
              rw [show ((((partW X f k)[8 * m + i]?).getD 0) != 0) = true by simpa using hv]
              simp only [cond_true, ob_s]
              rw [st_eq (by simp; omega), hset 0 hsg]
              simp only [ob_s, m_17_3k, e2, hne hy]
    have := hgen 8 0 rfl (by omega)
    simpa using this
  have key : ∀ m, m ≤ k → loopO (m_17_1b (f : Int) (k : Int) (st.length : Int)) (false, 0, X) = loopO (m_17_1b (f : Int) (k : Int) (st.length : Int)) (((List.range m).foldl (clS f st) (false, X)).1, (m : Int), ((List.range m).foldl (clS f st) (false, X)).2) ∧ GoodX ((List.range m).foldl (clS f st) (false, X)).2 n := by
    intro m
    induction m with
    | zero => intro _; exact ⟨rfl, h⟩
    | succ m ih =>
      intro hm
      obtain ⟨g1, g2⟩ := ih (by omega)
      have hd : decide ((m : Int) < (k : Int)) = true := by simp; omega
      have e1 : IntKind.wrap .i64 ((m : Int) + 1) = ((m + 1 : Nat) : Int) := by rw [wi64 (by omega) (by omega)]; rfl
      have e4 : IntKind.wrap .i64 ((f : Int) + (m : Int)) = ((f + m : Nat) : Int) := by rw [wi64 (by omega) (by omega)]; omega
      have hfm : f + m < n := by omega
      have hfar := clS_far f st X (f + m) m (by omega)
      have hr : X.Read[f + m]? = some (X.Read[f + m]'(by omega)) := List.getElem?_eq_getElem (by omega)
      generalize hs : X.Read[f + m]'(by omega) = s at hr
      rw [List.range_succ, List.foldl_append]
      simp only [List.foldl_cons, List.foldl_nil]
      generalize ((List.range m).foldl (clS f st) (false, X)) = acc at g1 g2 hfar ⊢
      have hcl : clS f st acc m = if s = secAt st m then acc else (true, wrX acc.2 (f + m) (secAt st m)) := by
        unfold clS
        rw [hfar, hr]
        by_cases e : s = secAt st m
        · rw [if_pos (by rw [e]), if_pos e]
        · rw [if_neg (fun q => e (Option.some.inj q)), if_neg e]
      rw [hcl]
      have hsec := sect (m := m) (by omega) hr
      by_cases e : s = secAt st m
      · rw [if_pos e]
        refine ⟨?_, g2⟩
        rw [g1]
        refine loopO_next ?_
        dsimp only [m_17_1b]
        rw [hd, e4, gt_at (hfar.trans hr)]
        simp only [cond_true, ob_s]
        rw [hsec]
        simp only [ob_s, m_17_2k]
        rw [show decide (s ≠ secAt st m) = false by simp [e]]
        simp only [cond_false, ob_s, m_17_4k, e1]
      · rw [if_neg e]
        refine ⟨?_, wrX_good g2 (secAt_isS hsw m)⟩
        rw [g1]
        refine loopO_next ?_
        dsimp only [m_17_1b]
        rw [hd, e4, gt_at (hfar.trans hr)]
        simp only [cond_true, ob_s]
        rw [hsec]
        simp only [ob_s, m_17_2k]
        rw [show decide (s ≠ secAt st m) = true by simp [e], e4, ref_write g2 hfm]
        simp only [cond_true, ob_s, m_17_4k, e1]
  obtain ⟨g1, g2⟩ := key k (Nat.le_refl _)
  have hend : loopO (m_17_1b (f : Int) (k : Int) (st.length : Int)) (((List.range k).foldl (clS f st) (false, X)).1, (k : Int), ((List.range k).foldl (clS f st) (false, X)).2) = some (((List.range k).foldl (clS f st) (false, X)).1, (k : Int), ((List.range k).foldl (clS f st) (false, X)).2) := by
    refine loopO_end ?_
    dsimp only [m_17_1b]
    rw [show decide ((k : Int) < (k : Int)) = false by simp]; rfl
  rw [g1, hend]
  simp only [ob_s, m_17_1k]
  unfold clX
  cases hb : ((List.range k).foldl (clS f st) (false, X)).1 with
  | true =>
    simp only [cond_true, hb]
    rw [ref_sync g2]
    rfl
  | false =>
    simp only [cond_false, hb]
    rfl
end Go.Proofs.Ytdkfdmalbbfbmaa
