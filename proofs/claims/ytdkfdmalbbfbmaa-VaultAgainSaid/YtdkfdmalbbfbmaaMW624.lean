/- The plain law of LogLost. -/
import Derived.Test.YtdkfdmalbbfbmaaMW623
/- The plain law of LogLost. -/
namespace Go.Proofs.Ytdkfdmalbbfbmaa
open Go
set_option maxRecDepth 4000

/-- The document's appending. -/
theorem ref_append {X : RDisk} {n : Nat} (h : GoodX X n) {f k : Nat} {e : Int} {fs : List Frame} {L : LogM} (hL : LogOk f k e fs L X) (hfk : f + k ≤ n) (he : num e = true) {F : Frame} (hm : may F = true) (hw : ∀ x ∈ F.Words, isW x) :
    m_18 ⟨(f : Int), (k : Int), e, fs⟩ X F = if (streamF e 0 fs).length + (1 + F.Words.length) ≤ 8 * k then
      some (0, ⟨(f : Int), (k : Int), e, fs ++ [F]⟩, wsX X f (streamF e 0 (fs ++ [F])) ((streamF e 0 fs).length / 8) (((streamF e 0 (fs ++ [F])).length - 1) / 8 + 1 - (streamF e 0 fs).length / 8))
    else some (4, ⟨(f : Int), (k : Int), e, fs⟩, X) := by
  have hsm := h.small
  obtain ⟨_, hmay, hww, hlen, hread⟩ := hL
  obtain ⟨k0, k1, k2⟩ := may_iff.1 hm
  have hc := stream_count e 0 fs
  have hst : streamF e 0 (fs ++ [F]) = streamF e 0 fs ++ putF e (fs.length : Int) F := by
    rw [streamF_append]; simp [streamF]
  have hpl := putF_len e (fs.length : Int) F
  have hmay' : ∀ G ∈ fs ++ [F], may G = true := fun G hG => by
    rcases List.mem_append.1 hG with hG | hG
    · exact hmay G hG
    · rw [List.mem_singleton.1 hG]; exact hm
  have hww' : ∀ G ∈ fs ++ [F], ∀ x ∈ G.Words, isW x := fun G hG => by
    rcases List.mem_append.1 hG with hG | hG
    · exact hww G hG
    · rw [List.mem_singleton.1 hG]; exact hw
  have hsw := isW_stream (e := e) (n := 0) hmay' hww'
  have hlen' : (streamF e 0 (fs ++ [F])).length = (streamF e 0 fs).length + (1 + F.Words.length) := by rw [hst, List.length_append, hpl]
  unfold m_18
  rw [may_46, hm]
  simp only [ob_s, Bool.not_true, cond_false]
  rw [ref_used hmay (by omega)]
  simp only [ob_s]
  rw [put_48 he (num_iff.2 ⟨by omega, by omega⟩) ⟨by omega, k1⟩ k2 hw]
  simp only [ob_s]
  have e8 : IntKind.wrap .i64 (8 * (k : Int)) = ((8 * k : Nat) : Int) := by rw [wi64 (by omega) (by omega)]; omega
  have eT : IntKind.wrap .i64 (((streamF e 0 fs).length : Int) + ((putF e (fs.length : Int) F).length : Int)) = ((streamF e 0 (fs ++ [F])).length : Int) := by rw [wi64 (by omega) (by omega), hlen', hpl]; omega
  rw [e8, eT]
  generalize hS : streamF e 0 (fs ++ [F]) = S at hst hsw hlen' eT ⊢
  generalize streamF e 0 fs = T at hread hlen hc hst hlen' eT ⊢
  generalize putF e (fs.length : Int) F = U at hst hpl eT ⊢
  rcases Nat.lt_or_ge (8 * k) (T.length + (1 + F.Words.length)) with hfit | hfit
  · rw [if_neg (by omega), show decide ((S.length : Int) > ((8 * k : Nat) : Int)) = true by simp; omega]; rfl
  rw [if_pos hfit, show decide ((S.length : Int) > ((8 * k : Nat) : Int)) = false by simp; omega]
  simp only [cond_false]
  rw [ap_eq (by simp; omega)]
  simp only [ob_s, List.nil_append]
  rw [ap_eq (by simp; omega)]
  simp only [ob_s]
  have ed : IntKind.wrap .i64 (Int.tdiv (T.length : Int) 8) = ((T.length / 8 : Nat) : Int) := by
    rw [Int.tdiv_eq_ediv_of_nonneg (by omega), wi64 (by omega) (by omega)]; omega
  rw [ed]
  -- one sector
  have sect : ∀ {i : Nat} {Y : RDisk}, i < k → T.length / 8 ≤ i → Y.Read[f + i]? = some (secAt T i) → loopO (m_18_2b ⟨(f : Int), (k : Int), e, fs⟩ (T.length : Int) U (fs ++ [F]) (i : Int) Y) (0, List.replicate 8 0) = some (8, secAt S i) := by
    intro i Y hi hlow hY
    have e4 : IntKind.wrap .i64 ((f : Int) + (i : Int)) = ((f + i : Nat) : Int) := by rw [wi64 (by omega) (by omega)]; omega
    have hS8 : (secAt S i).length = 8 := (secAt_isS hsw i).1
    have := loopO_count (f := m_18_2b ⟨(f : Int), (k : Int), e, fs⟩ (T.length : Int) U (fs ++ [F]) (i : Int) Y) (fun j => ((j : Int), (secAt S i).take j ++ List.replicate (8 - j) 0)) 8 (r := (8, secAt S i)) (fun j hj => by
      have h1 : decide ((j : Int) < 8) = true := by simp; omega
      have h0 : decide (0 ≤ (j : Int)) = true := by simp
      have e2 : IntKind.wrap .i64 ((j : Int) + 1) = ((j + 1 : Nat) : Int) := by rw [wi64 (by omega) (by omega)]; rfl
      have e3 : IntKind.wrap .i64 (IntKind.wrap .i64 (8 * (i : Int)) + (j : Int)) = ((8 * i + j : Nat) : Int) := by rw [wi64 (x := 8 * (i : Int)) (by omega) (by omega), wi64 (by omega) (by omega)]; omega
      have hSg := secAt_get S i j hj
      have hTg := secAt_get T i j hj
      have hset : ∀ y, (secAt S i)[j]? = some y → ((secAt S i).take j ++ List.replicate (8 - j) (0 : Int)).set j y = (secAt S i).take (j + 1) ++ List.replicate (8 - (j + 1)) 0 := by
        intro y hy
        have hy2 : (secAt S i)[j]'(by omega) = y := by
          rw [List.getElem?_eq_getElem (by omega)] at hy; exact Option.some.inj hy
        rw [List.take_succ_eq_append_getElem (show j < (secAt S i).length by omega), hy2, List.append_assoc, List.set_append, List.length_take, Nat.min_eq_left (by omega), if_neg (by omega), Nat.sub_self]
        rw [show 8 - j = (8 - (j + 1)) + 1 by omega, List.replicate_succ]
        rfl
      have hl8 : ((secAt S i).take j ++ List.replicate (8 - j) (0 : Int)).length = 8 := by rw [List.length_append, List.length_take, List.length_replicate]; omega
      dsimp only [m_18_2b]
      rw [h1, h0, e3, e4, gt_at hY, eT]
      simp only [cond_true, ob_s, Bool.and_self, gd_t]
      rw [gt_at hTg]
      simp only [ob_s]
      by_cases c1 : 8 * i + j < T.length
      · rw [show decide (((8 * i + j : Nat) : Int) < (T.length : Int)) = true by simp; omega]
        simp only [cond_true]
        have hv : (T[8 * i + j]?).getD 0 = (S[8 * i + j]?).getD 0 := by rw [hst, List.getElem?_append_left c1]
        rw [st_eq (by omega), hset _ (hv ▸ hSg)]
        simp only [ob_s, m_18_3k, e2]
      · rw [show decide (((8 * i + j : Nat) : Int) < (T.length : Int)) = false by simp; omega]
        simp only [cond_false]
        by_cases c2 : 8 * i + j < S.length
        · rw [show decide (((8 * i + j : Nat) : Int) < (S.length : Int)) = true by simp; omega]
          simp only [cond_true]
          rw [show IntKind.wrap .i64 (((8 * i + j : Nat) : Int) - (T.length : Int)) = ((8 * i + j - T.length : Nat) : Int) by rw [wi64 (by omega) (by omega)]; omega]
          have hU : U[8 * i + j - T.length]? = some ((S[8 * i + j]?).getD 0) := by
            have h9 : S[8 * i + j]? = U[8 * i + j - T.length]? := by rw [hst, List.getElem?_append_right (by omega)]
            rw [← h9, List.getElem?_eq_getElem c2]; rfl
          rw [gt_at hU]
          simp only [ob_s]
          rw [st_eq (by omega), hset _ hSg]
          simp only [ob_s, m_18_3k, e2]
        · rw [show decide (((8 * i + j : Nat) : Int) < (S.length : Int)) = false by simp; omega]
          simp only [cond_false, ob_s, m_18_3k, e2]
          rw [List.getElem?_eq_none (l := S) (by omega)] at hSg
          rw [← hset 0 hSg]
          congr 4
          apply List.ext_getElem?
          intro p
          rw [List.getElem?_set]
          by_cases hp : j = p
          · subst hp
            rw [if_pos rfl, if_pos (by omega), List.getElem?_append_right (by rw [List.length_take]; omega), List.length_take, Nat.min_eq_left (by omega), Nat.sub_self, List.getElem?_replicate, if_pos (by omega)]
          · rw [if_neg hp]) (by
      dsimp only [m_18_2b]
      rw [List.take_of_length_le (by omega)]
      simp)
    simpa using this
  -- the sectors
  have key : ∀ m, m ≤ (S.length - 1) / 8 + 1 - T.length / 8 → loopO (m_18_1b ⟨(f : Int), (k : Int), e, fs⟩ (T.length : Int) U (fs ++ [F])) (((T.length / 8 : Nat) : Int), X) = loopO (m_18_1b ⟨(f : Int), (k : Int), e, fs⟩ (T.length : Int) U (fs ++ [F])) (((T.length / 8 + m : Nat) : Int), wsX X f S (T.length / 8) m) := by
    intro m
    induction m with
    | zero => intro _; rfl
    | succ m ih =>
      intro hm'
      rw [ih (by omega)]
      have hi : T.length / 8 + m < k := by omega
      have hY : (wsX X f S (T.length / 8) m).Read[f + (T.length / 8 + m)]? = some (secAt T (T.length / 8 + m)) := by
        rw [wsX_read _ _ _ _ _ _ (by rw [h.r]; omega), if_neg (by omega), hread _ hi]
      refine loopO_next ?_
      have e1 : IntKind.wrap .i64 (((T.length / 8 + m : Nat) : Int) + 1) = ((T.length / 8 + (m + 1) : Nat) : Int) := by rw [wi64 (by omega) (by omega)]; omega
      have e2 : IntKind.wrap .i64 (((T.length / 8 + m : Nat) : Int) * 8) = ((8 * (T.length / 8 + m) : Nat) : Int) := by rw [wi64 (by omega) (by omega)]; omega
      have e4 : IntKind.wrap .i64 ((f : Int) + ((T.length / 8 + m : Nat) : Int)) = ((f + (T.length / 8 + m) : Nat) : Int) := by rw [wi64 (by omega) (by omega)]; omega
      dsimp only [m_18_1b]
      rw [e2, eT, show decide (((8 * (T.length / 8 + m) : Nat) : Int) < (S.length : Int)) = true by simp; omega]
      simp only [cond_true]
      rw [sect hi (by omega) hY]
      simp only [ob_s, m_18_2k]
      rw [e4, ref_write (wsX_good h hsw m) (by omega)]
      simp only [ob_s, e1]
      rfl
  rw [key _ (Nat.le_refl _)]
  rw [loopO_end (r := (((T.length / 8 + ((S.length - 1) / 8 + 1 - T.length / 8) : Nat) : Int), wsX X f S (T.length / 8) ((S.length - 1) / 8 + 1 - T.length / 8))) ?_]
  · rfl
  · have e2 : IntKind.wrap .i64 (((T.length / 8 + ((S.length - 1) / 8 + 1 - T.length / 8) : Nat) : Int) * 8) = ((8 * (T.length / 8 + ((S.length - 1) / 8 + 1 - T.length / 8)) : Nat) : Int) := by rw [wi64 (by omega) (by omega)]; omega
    dsimp only [m_18_1b]
    rw [e2, eT, show decide (((8 * (T.length / 8 + ((S.length - 1) / 8 + 1 - T.length / 8)) : Nat) : Int) < (S.length : Int)) = false by simp; omega]
    rfl

theorem ref_new {n : Nat} (h2 : n ≤ 4096) : m_16 (n : Int) = some ⟨List.replicate n Z8, List.replicate n Z8, List.replicate n false⟩ := by
  unfold m_16
  rw [show (decide (0 ≤ (n : Int)) && decide ((n : Int) ≤ 4096)) = true by simp; omega]
  simp only [gd_t, ob_s, Int.toNat_natCast]
  rfl
theorem clX_lasts (X : RDisk) (f k : Nat) (ws : List Int) (h : X.Lasts = X.Read) : (clX X f k ws).Lasts = (clX X f k ws).Read := by
  have key : ∀ m, ((List.range m).foldl (clS f ws) (false, X)).1 = false → ((List.range m).foldl (clS f ws) (false, X)).2 = X := by
    intro m
    induction m with
    | zero => intro _; rfl
    | succ m ih =>
      intro hm
      rw [List.range_succ, List.foldl_append] at hm ⊢
      simp only [List.foldl_cons, List.foldl_nil] at hm ⊢
      unfold clS at hm ih ⊢
      split at hm
      · rename_i hc
        rw [if_pos hc]
        exact ih hm
      · cases hm
  unfold clX
  simp only
  split
  · rfl
  · rename_i hb
    rw [key k (by simpa using hb)]; exact h

/-- One frame is appended, here and there. -/
theorem lost_step {D : Disk} {N : Nat} {L : LogM} {fs : List Frame} (hg : Good D N) (hL : LogOk 0 N 1 fs L (absD D)) {F : Frame} (hw : ∀ x ∈ F.Words, isW x) :
    ∃ y L' D' more, mq_10 L D F = some (y, L', D') ∧ m_18 ⟨0, (N : Int), 1, fs⟩ (absD D) F = some (y, ⟨0, (N : Int), 1, fs ++ more⟩, absD D') ∧ Good D' N ∧ LogOk 0 N 1 (fs ++ more) L' (absD D') ∧ (absD D').Lasts = (absD D).Lasts := by
  cases hm : may F with
  | false =>
    refine ⟨1, L, D, [], append_bad hm, ?_, hg, by rw [List.append_nil]; exact hL, rfl⟩
    unfold m_18
    rw [may_46, hm, List.append_nil]; rfl
  | true =>
    have ha := append_eq hg hL (by omega) rfl hm hw
    have hr := ref_append (abs_good hg) hL (by omega) rfl hm hw
    split at ha
    · rename_i hfit
      rw [if_pos hfit] at hr
      obtain ⟨L', D', g1, g2, g3, g4⟩ := ha
      refine ⟨0, L', D', [F], g1, ?_, g2, g3, ?_⟩
      · rw [g4]; exact hr
      · rw [g4, wsX_lasts]
    · rename_i hfit
      rw [if_neg hfit] at hr
      refine ⟨4, L, D, [], ha, ?_, hg, by rw [List.append_nil]; exact hL, rfl⟩
      rw [List.append_nil]; exact hr

theorem lost_loop {x1 : List Frame} (hw : ∀ F ∈ x1, frameW F) (hl : x1.length ≤ 30) {N : Nat} : ∀ (d i : Nat) (D : Disk) (L : LogM) (fs : List Frame), x1.length - i = d → Good D N → LogOk 0 N 1 fs L (absD D) →
    ∃ r, loopO (m_4_1b x1) (false, (i : Int), D, absD D, L, ⟨0, (N : Int), 1, fs⟩) = some r ∧ (r = .inr true ∨ ∃ j D' L' more, r = .inl (false, j, D', absD D', L', ⟨0, (N : Int), 1, fs ++ more⟩) ∧ Good D' N ∧ LogOk 0 N 1 (fs ++ more) L' (absD D') ∧ (absD D').Lasts = (absD D).Lasts) := by
  intro d
  induction d with
  | zero =>
    intro i D L fs hd hg hL
    refine ⟨.inl (false, (i : Int), D, absD D, L, ⟨0, (N : Int), 1, fs⟩), loopO_end ?_, .inr ⟨(i : Int), D, L, [], by rw [List.append_nil], hg, by rw [List.append_nil]; exact hL, rfl⟩⟩
    dsimp only [m_4_1b]
    rw [show decide ((i : Int) < (x1.length : Int)) = false by simp; omega]; rfl
  | succ d ih =>
    intro i D L fs hd hg hL
    have hi : i < x1.length := by omega
    have h1 : decide ((i : Int) < (x1.length : Int)) = true := by simp; omega
    have e2 : IntKind.wrap .i64 ((i : Int) + 1) = ((i + 1 : Nat) : Int) := by rw [wi64 (by omega) (by omega)]; rfl
    by_cases h4 : x1[i].Words.length > 400
    · refine ⟨.inr true, loopO_end ?_, .inl rfl⟩
      dsimp only [m_4_1b]
      rw [h1, gt_eq hi]
      simp only [cond_true, ob_s]
      rw [show decide ((x1[i].Words.length : Int) > 400) = true by simp; omega]; rfl
    · obtain ⟨y, L', D', more, g1, g2, g3, g4, g5⟩ := lost_step hg hL (F := x1[i]) (fun x hx => isW_wf ((hw _ (List.getElem_mem hi)).2.2 x hx))
      have hstep : loopO (m_4_1b x1) (false, (i : Int), D, absD D, L, ⟨0, (N : Int), 1, fs⟩) = loopO (m_4_1b x1) (false, ((i + 1 : Nat) : Int), D', absD D', L', ⟨0, (N : Int), 1, fs ++ more⟩) := by
        refine loopO_next ?_
        dsimp only [m_4_1b]
        rw [h1, gt_eq hi]
        simp only [cond_true, ob_s]
        rw [show decide ((x1[i].Words.length : Int) > 400) = false by simp; omega]
        simp only [cond_false, g1, g2, ob_s, e2]
      rw [hstep]
      obtain ⟨r, k1, k2⟩ := ih (i + 1) D' L' (fs ++ more) (by omega) g3 g4
      refine ⟨r, k1, k2.imp id ?_⟩
      rintro ⟨j, D2, L2, more2, rfl, q1, q2, q3⟩
      exact ⟨j, D2, L2, more ++ more2, by rw [List.append_assoc], q1, by rw [← List.append_assoc]; exact q2, q3.trans g5⟩
theorem lost_loop2 : m_4_2b = m_4_1b := rfl

theorem n20 {x0 : Int} (h0 : 0 ≤ x0) (h1 : x0 ≤ 255) : ∃ N : Nat, 1 ≤ N ∧ N ≤ 20 ∧ IntKind.wrap .i64 (IntKind.wrap .i64 (Int.tmod x0 20) + 1) = (N : Int) := by
  refine ⟨(x0 % 20).toNat + 1, by omega, by omega, ?_⟩
  rw [Int.tmod_eq_emod_of_nonneg h0, wi64 (x := x0 % 20) (by omega) (by omega), wi64 (by omega) (by omega)]
  omega

/-- The words of what is read, where sectors are of a stream or of its beginning. -/
theorem part_words {X : RDisk} {k : Nat} (hs : ∀ s ∈ X.Read, isS s) (hfk : 0 + k ≤ X.Read.length) {ws vs : List Int} (h : ∀ i, i < k → X.Read[0 + i]? = some (secAt ws i) ∨ X.Read[0 + i]? = some (secAt (ws ++ vs) i)) {p : Nat} {x : Int} (hx : (partW X 0 k)[p]? = some x) : x = 0 ∨ (ws ++ vs)[p]? = some x := by
  have hpl := part_len (f := 0) (k := k) hs hfk
  have hp : p < 8 * k := by have := (List.getElem?_eq_some_iff.1 hx).1; omega
  have hi : p / 8 < k := by omega
  have e1 := part_sec hs hfk hi
  have hw : ∀ ys : List Int, X.Read[0 + p / 8]? = some (secAt ys (p / 8)) → x = (ys[p]?).getD 0 := by
    intro ys hy
    rw [hy] at e1
    have e2 := congrArg (fun s : Option Sec => s.bind (·[p % 8]?)) e1
    simp only [Option.bind_some] at e2
    rw [secAt_get _ _ _ (by omega), secAt_get _ _ _ (by omega), show 8 * (p / 8) + p % 8 = p by omega, hx] at e2
    simpa using e2.symm
  have hc : ∀ ys : List Int, x = (ys[p]?).getD 0 → x = 0 ∨ ys[p]? = some x := by
    intro ys hy
    cases hq : ys[p]? with
    | none => rw [hq] at hy; exact .inl hy
    | some z => rw [hq] at hy; right; rw [hy]; rfl
  rcases h _ hi with h1 | h1
  · rcases hc _ (hw _ h1) with h2 | h2
    · exact .inl h2
    · right
      rw [List.getElem?_append_left (List.getElem?_eq_some_iff.1 h2).1]; exact h2
  · exact hc _ (hw _ h1)

theorem mark_pos {e n k : Int} {ws : List Int} (hk : 1 ≤ k) : 0 < markV e n k ws := by
  have hc := crcW_range (k :: (ws.length : Int) :: e :: n :: ws)
  have hmv : markV e n k ws = k * 72057594037927936 + (ws.length : Int) * 4294967296 + crcW (k :: (ws.length : Int) :: e :: n :: ws) := rfl
  have := hc.1
  rw [hmv]; omega
theorem mark_inj {e n k j : Int} {ws vs : List Int} (h1 : ws.length ≤ 2000) (h2 : vs.length ≤ 2000) (h : markV e n k ws = markV e n j vs) : k = j ∧ ws.length = vs.length := by
  have hc := crcW_range (k :: (ws.length : Int) :: e :: n :: ws)
  have hd := crcW_range (j :: (vs.length : Int) :: e :: n :: vs)
  have hmv : markV e n k ws = k * 72057594037927936 + (ws.length : Int) * 4294967296 + crcW (k :: (ws.length : Int) :: e :: n :: ws) := rfl
  have hmv2 : markV e n j vs = j * 72057594037927936 + (vs.length : Int) * 4294967296 + crcW (j :: (vs.length : Int) :: e :: n :: vs) := rfl
  rw [hmv, hmv2] at h
  obtain ⟨a, b⟩ := hc
  obtain ⟨c, d⟩ := hd
  constructor <;> omega
theorem stream_at {e : Int} {fs : List Frame} {j : Nat} (h : j < fs.length) : (streamF e 0 fs)[(streamF e 0 (fs.take j)).length]? = some (markV e (j : Int) fs[j].Kind fs[j].Words) := by
  have hd : fs = fs.take j ++ fs[j] :: fs.drop (j + 1) := by
    conv => lhs; rw [← List.take_append_drop j fs, List.drop_eq_getElem_cons h]
  conv => lhs; rw [hd, streamF_append]
  rw [List.take_append_of_le_length (by rw [List.length_take]; omega), List.take_take, Nat.min_self, List.getElem?_append_right (Nat.le_refl _), Nat.sub_self]
  simp only [streamF, putF, List.cons_append, List.getElem?_cons_zero]
  rw [List.length_take, Nat.min_eq_left (by omega), Nat.zero_add]

theorem lost_search {gs fs : List Frame} {f k : Int} {r W : List Int} (hW : W = streamF 1 0 gs ++ r) (hgm : ∀ F ∈ gs, may F = true) (hfm : ∀ F ∈ fs, may F = true) (hgl : gs.length < 100000) (hfl : fs.length < 100000)
    (hx : ∀ (p : Nat) (x : Int), W[p]? = some x → x = 0 ∨ (streamF 1 0 fs)[p]? = some x) (hpre : ¬ (gs.length ≤ fs.length ∧ gs = fs.take gs.length)) : ∀ (d i : Nat), gs.length - i = d → i ≤ gs.length → i ≤ fs.length → gs.take i = fs.take i → ob (loopO (m_4_3b ⟨f, k, 1, fs⟩ gs) (i : Int)) (m_4_3k ⟨f, k, 1, fs⟩ gs) = some true := by
  intro d
  induction d with
  | zero =>
    intro i hd hi hi2 heq
    exfalso
    have : i = gs.length := by omega
    subst this
    rw [List.take_length] at heq
    exact hpre ⟨hi2, heq⟩
  | succ d ih =>
    intro i hd hi hi2 heq
    have hlt : i < gs.length := by omega
    have hg := stream_at (e := 1) hlt
    have hgF := may_iff.1 (hgm _ (List.getElem_mem hlt))
    have hgl2 := (List.getElem?_eq_some_iff.1 hg).1
    have hgW : W[(streamF 1 0 (gs.take i)).length]? = some (markV 1 (i : Int) gs[i].Kind gs[i].Words) := by
      rw [hW, List.getElem?_append_left hgl2]; exact hg
    have hpos := mark_pos (e := 1) (n := (i : Int)) (ws := gs[i].Words) hgF.1
    have hfs := (hx _ _ hgW).resolve_left (by omega)
    have e1 : decide ((i : Int) < (gs.length : Int)) = true := by simp; omega
    have e2 : IntKind.wrap .i64 ((i : Int) + 1) = ((i + 1 : Nat) : Int) := by rw [wi64 (by omega) (by omega)]; rfl
    by_cases hlt2 : i < fs.length
    · have e3 : decide ((i : Int) < (fs.length : Int)) = true := by simp; omega
      have hfF := may_iff.1 (hfm _ (List.getElem_mem hlt2))
      have hf := stream_at (e := 1) hlt2
      rw [← heq, hfs] at hf
      have hinj := mark_inj hgF.2.2 hfF.2.2 (Option.some.inj hf)
      have hsl1 : sl gs (i : Int) ((i + 1 : Nat) : Int) = some [gs[i]] := by
        rw [sl_eq (by omega) (by omega), List.take_succ_eq_append_getElem hlt, List.drop_append_of_le_length (by rw [List.length_take]; omega), List.drop_eq_nil_of_le (by rw [List.length_take]; omega)]; rfl
      have hsl2 : sl fs (i : Int) ((i + 1 : Nat) : Int) = some [fs[i]] := by
        rw [sl_eq (by omega) (by omega), List.take_succ_eq_append_getElem hlt2, List.drop_append_of_le_length (by rw [List.length_take]; omega), List.drop_eq_nil_of_le (by rw [List.length_take]; omega)]; rfl
      have hsame := same_11 (xs := [gs[i]]) (ys := [fs[i]]) (by simp) (fun F hF => by rw [List.mem_singleton.1 hF]; omega)
      have hb : m_4_3b ⟨f, k, 1, fs⟩ gs (i : Int) = bif decide ([gs[i]] = [fs[i]]) then some (.inl ((i + 1 : Nat) : Int)) else some (.inr (i : Int)) := by
        dsimp only [m_4_3b]
        rw [e1, e3, e2, hsl1, hsl2]
        simp only [cond_true, ob_s]
        rw [hsame]
        simp only [ob_s]
      by_cases hq : gs[i] = fs[i]
      · rw [loopO_next (s' := ((i + 1 : Nat) : Int)) (by rw [hb]; simp [hq])]
        exact ih (i + 1) (by omega) (by omega) (by omega) (by rw [List.take_succ_eq_append_getElem hlt, List.take_succ_eq_append_getElem hlt2, heq, hq])
      · rw [loopO_end (r := (i : Int)) (by rw [hb]; simp [hq])]
        simp only [ob_s, m_4_3k]
        rw [e1, e3, gt_eq hlt, gt_eq hlt2]
        simp only [cond_true, ob_s]
        rw [hinj.1, hinj.2]
        simp
    · exfalso
      have : i = fs.length := by omega
      rw [heq, List.take_of_length_le (by omega), List.getElem?_eq_none (Nat.le_refl _)] at hfs
      cases hfs

theorem p_4 (x0 : Int) (x1 x2 : List Frame) (x3 x4 : List Bool) (w0 : (Lit.int .u8 x0).wf = true) (w1 : x1.length ≤ maxLen ∧ ∀ F ∈ x1, frameW F) (w2 : x2.length ≤ maxLen ∧ ∀ F ∈ x2, frameW F) (_ : x3.length ≤ maxLen ∧ ∀ b ∈ x3, True) (_ : x4.length ≤ maxLen ∧ ∀ b ∈ x4, True) : m_4 x0 x1 x2 x3 x4 = some true := by
  obtain ⟨h0, h255⟩ := wf_u8 w0
  obtain ⟨N, hN1, hN2, hN⟩ := n20 h0 h255
  unfold m_4
  rw [alive_8]
  simp only [ob_s, Bool.not_true, cond_false]
  by_cases hl1 : x1.length > 20
  · rw [show decide ((x1.length : Int) > 20) = true by simp; omega]; rfl
  rw [show decide ((x1.length : Int) > 20) = false by simp; omega]
  by_cases hl2 : x2.length > 20
  · rw [show decide ((x2.length : Int) > 20) = true by simp; omega]; rfl
  rw [show decide ((x2.length : Int) > 20) = false by simp; omega]
  by_cases hl3 : x3.length > 100
  · rw [show decide ((x3.length : Int) > 100) = true by simp; omega]; rfl
  rw [show decide ((x3.length : Int) > 100) = false by simp; omega]
  by_cases hl4 : x4.length > 100
  · rw [show decide ((x4.length : Int) > 100) = true by simp; omega]; rfl
  rw [show decide ((x4.length : Int) > 100) = false by simp; omega]
  simp only [cond_false, ob_s, hN]
  obtain ⟨D, h1, h2, h3⟩ := new_eq (n := N) hN1 (by omega)
  rw [h1, ref_new (by omega), ← h3]
  simp only [ob_s]
  obtain ⟨D1, g1, g2, g3, g4⟩ := open_eq h2 (f := 0) (k := N) (e := 1) hN1 (by omega) rfl
  have r1 := ref_open (abs_good h2) (f := 0) (k := N) (e := 1) (by omega)
  rw [← g3] at r1
  generalize hf0 : (allF 1 0 (partW (absD D) 0 N)).1 = f0 at g1 g4 r1
  have g1 : m_9 D 0 (N : Int) 1 = some (_, 0, D1) := g1
  have r1 : m_17 (absD D) 0 (N : Int) 1 = some (⟨0, (N : Int), 1, f0⟩, absD D1) := r1
  rw [g1, r1]
  simp only [ob_s]
  rw [show ((0 : Int) != 0) = false from rfl]
  simp only [cond_false, ob_s]
  obtain ⟨r, hr, hcase⟩ := lost_loop w1.2 (by omega) x1.length 0 D1 _ _ (by omega) g2 g4
  have hr : loopO (m_4_1b x1) (false, 0, D1, absD D1, _, _) = some r := hr
  rw [hr]
  simp only [ob_s]
  rcases hcase with rfl | ⟨j, D2, L2, more, rfl, k1, k2, _⟩
  · rfl
  dsimp only [m_4_1k]
  rw [hN]
  obtain ⟨D3, c1, c2, c3⟩ := crash_eq k1 x3
  rw [c1, ref_crash (abs_good k1) x3, ← c3]
  simp only [ob_s]
  obtain ⟨D4, a1, a2, a3, a4⟩ := open_eq c2 (f := 0) (k := N) (e := 1) hN1 (by omega) rfl
  have r2 := ref_open (abs_good c2) (f := 0) (k := N) (e := 1) (by omega)
  rw [← a3] at r2
  generalize hgs0 : (allF 1 0 (partW (absD D3) 0 N)).1 = gs0 at a1 a3 a4 r2
  have a1 : m_9 D3 0 (N : Int) 1 = some (_, 0, D4) := a1
  have r2 : m_17 (absD D3) 0 (N : Int) 1 = some (⟨0, (N : Int), 1, gs0⟩, absD D4) := r2
  rw [a1, r2]
  simp only [ob_s]
  rw [show ((0 : Int) != 0) = false from rfl]
  simp only [cond_false, a4.frames (show 8 * N < _ by omega), ob_s, same_refl a4 (show 8 * N < _ by omega), Bool.not_true]
  have hlr : (absD D4).Lasts = (absD D4).Read := by
    rw [a3]
    refine clX_lasts _ _ _ _ ?_
    rw [c3]; rfl
  obtain ⟨r', hr', hcase'⟩ := lost_loop w2.2 (by omega) x2.length 0 D4 _ _ (by omega) a2 a4
  have hr' : loopO (m_4_2b x2) (false, 0, D4, absD D4, _, _) = some r' := hr'
  rw [hr']
  simp only [ob_s]
  rcases hcase' with rfl | ⟨j2, D5, L5, more5, rfl, b1, b2, b3⟩
  · rfl
  dsimp only [m_4_2k]
  rw [hN]
  obtain ⟨D6, d1, d2, d3⟩ := crash_eq b1 x4
  rw [d1, ref_crash (abs_good b1) x4, ← d3]
  simp only [ob_s]
  obtain ⟨D7, e1, e2, e3, e4⟩ := open_eq d2 (f := 0) (k := N) (e := 1) hN1 (by omega) rfl
  have r3 := ref_open (abs_good d2) (f := 0) (k := N) (e := 1) (by omega)
  rw [← e3] at r3
  obtain ⟨r7, hr7, _, _, _⟩ := allF_spec 1 _ 0 (partW (absD D6) 0 N) (Nat.le_refl _)
  generalize hgs : (allF 1 0 (partW (absD D6) 0 N)).1 = gs at e1 e3 e4 r3 hr7
  have e1 : m_9 D6 0 (N : Int) 1 = some (_, 0, D7) := e1
  have r3 : m_17 (absD D6) 0 (N : Int) 1 = some (⟨0, (N : Int), 1, gs⟩, absD D7) := r3
  rw [e1, r3]
  simp only [ob_s]
  rw [show ((0 : Int) != 0) = false from rfl]
  simp only [cond_false, e4.frames (show 8 * N < _ by omega), ob_s, same_refl e4 (show 8 * N < _ by omega), Bool.not_true]
  have hcf := stream_count 1 0 (gs0 ++ more5)
  have hcg := stream_count 1 0 gs
  have hlf := b2.len
  have hlg := e4.len
  have hst : streamF 1 0 (gs0 ++ more5) = streamF 1 0 gs0 ++ streamF 1 (0 + gs0.length) more5 := streamF_append _ _ _ _
  have hx : ∀ (p : Nat) (x : Int), (partW (absD D6) 0 N)[p]? = some x → x = 0 ∨ (streamF 1 0 (gs0 ++ more5))[p]? = some x := by
    intro p x hpx
    rw [hst]
    refine part_words (abs_isS d2) (by rw [(abs_len d2).2.1]; omega) (fun i hi => ?_) hpx
    rw [d3, Nat.zero_add]
    rcases crX_read (abs_good b1) x4 hi with h | h
    · left
      have := a4.read i hi
      rw [Nat.zero_add] at this
      rw [h, b3, hlr]; exact this
    · right
      have := b2.read i hi
      rw [Nat.zero_add, hst] at this
      rw [h]; exact this
  generalize hfs2 : gs0 ++ more5 = fs2 at hcf hlf hx b2
  by_cases hpre : gs.length ≤ fs2.length ∧ gs = fs2.take gs.length
  · rw [show decide ((gs.length : Int) ≤ (fs2.length : Int)) = true by simp; omega]
    simp only [cond_true]
    rw [show (0 : Int) = ((0 : Nat) : Int) from rfl, sl_eq (by omega) hpre.1]
    simp only [ob_s, List.drop_zero]
    rw [← hpre.2, same_refl e4 (show 8 * N < _ by omega)]
    rfl
  · have hs := lost_search (f := 0) (k := (N : Int)) hr7 e4.may b2.may (by omega) (by omega) hx hpre gs.length 0 (by omega) (by omega) (by omega) (by simp)
    have hs : ob (loopO (m_4_3b ⟨0, (N : Int), 1, fs2⟩ gs) 0) (m_4_3k ⟨0, (N : Int), 1, fs2⟩ gs) = some true := hs
    by_cases hle : gs.length ≤ fs2.length
    · rw [show decide ((gs.length : Int) ≤ (fs2.length : Int)) = true by simp; omega]
      simp only [cond_true]
      rw [show sl fs2 0 (gs.length : Int) = _ from sl_eq (l := 0) (by omega) hle]
      simp only [ob_s, List.drop_zero]
      rw [same_11 (by omega) (fun F hF => by have := (may_iff.1 (e4.may F hF)).2.2; omega)]
      simp only [ob_s]
      rw [show decide (gs = fs2.take gs.length) = false by simpa using fun e => hpre ⟨hle, e⟩]
      simp only [cond_false]
      exact hs
    · rw [show decide ((gs.length : Int) ≤ (fs2.length : Int)) = false by simp; omega]
      simp only [cond_false, ob_s]
      exact hs
end Go.Proofs.Ytdkfdmalbbfbmaa
