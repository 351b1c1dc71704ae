/- The plain law of VaultLasts. -/
import Derived.Test.YtdkfdmalbbfbmaaGreatMWL32
import Derived.Test.YtdkfdmalbbfbmaaGreatMWL13
import Derived.Test.YtdkfdmalbbfbmaaGreatMWL29
/- The plain law of VaultLasts. -/
namespace Go.Proofs.YtdkfdmalbbfbmaaGreat
open Go
set_option maxRecDepth 4000

/-- So much lasts. -/
structure LvOk (V : VaultM) (D : Disk) (n a N : Nat) (fs gs : List Frame) (sy : Int) : Prop where
  ok : VOk V D n a N fs
  pre : ∃ tl, fs = gs ++ tl
  sy : sy = ((V.stored.length + gs.length : Nat) : Int)
  low : ∀ p, p < 2 + 2 * a → (absD D).Lasts[p]? = (absD D).Read[p]?
  log : ∀ i, i < n - (2 + 2 * a) → (absD D).Lasts[2 + 2 * a + i]? = some (secAt (streamF (N : Int) 0 gs) i)

theorem new_vault2 {n a : Nat} (a1 : 1 ≤ a) (hfit : 2 + 2 * a < n) (hn : n ≤ 4096) : ∃ D V D', m_8 (n : Int) = some D ∧ m_16 (n : Int) = some (absD D) ∧ m_24 D (a : Int) = some (V, 0, D') ∧ m_L8 (absD D) (a : Int) = some (refV n a V [], 0, absD D') ∧ LvOk V D' n a 0 [] [] 0 := by
  obtain ⟨D, V, D', h1, h2, h3, h4, h5, h6⟩ := new_vault a1 hfit hn
  have hs : ∀ i, i < n → sec (absD D) i = Z8 := fun i hi => by
    refine sec_eq ?_
    rw [h6]
    simp [hi]
  have hc : ∀ i, cand i Z8 = none := fun i => by unfold cand; rw [getA_Z8]; rfl
  have hf : findA (sec (absD D) 0) (sec (absD D) 1) = none := by rw [hs 0 (by omega), hs 1 (by omega)]; unfold findA; rw [hc, hc]
  obtain ⟨L, D2, g1, g2, g3, g4, g5⟩ := open_24 h5 a1 hfit (at_ := ⟨0, 0, 0, 0⟩) (st := []) rfl (.inl ⟨hf, rfl, rfl⟩)
  have hz : allF (⟨0, 0, 0, 0⟩ : Anchor).Epoch 0 (partW (absD D) (2 + 2 * a) (n - (2 + 2 * a))) = ([], 0) := by
    rw [zeros_part h5 (by rw [h6]) _ _ (by omega)]
    exact zeros_all
  have hr := open_L8 (abs_good h5) a1 hfit (at_ := ⟨0, 0, 0, 0⟩) (st := []) (.inl ⟨hf, rfl, rfl⟩)
  rw [hz] at g4 hr
  rw [h2] at g1
  have e := Option.some.inj g1
  have e1 : V = ⟨(a : Int), ⟨0, 0, 0, 0⟩, [], L⟩ := congrArg Prod.fst e
  have e2 : D' = D2 := congrArg (fun x => x.2.2) e
  subst e2
  refine ⟨D, V, D', h1, ?_, h2, ?_, ?_⟩
  · rw [ref_new hn, h6]
  · rw [hr, g4]
    have : refV n a V [] = ⟨(a : Int), ⟨0, 0, 0, 0⟩, [], ⟨((2 + 2 * a : Nat) : Int), ((n - (2 + 2 * a) : Nat) : Int), 0, []⟩⟩ := by rw [e1]; rfl
    rw [this]
  · have hlr : (absD D').Lasts = (absD D').Read := by
      rw [g4]
      exact clX_lasts _ _ _ _ (by rw [h6])
    exact ⟨h3, ⟨[], rfl⟩, by rw [h4]; rfl, fun p _ => by rw [hlr], fun i hi => by rw [hlr]; exact h3.log.read i hi⟩

section
variable {V : VaultM} {D : Disk} {n a N : Nat} {fs gs : List Frame} {sy : Int}
theorem LvOk.synced (h : LvOk V D n a N fs gs sy) : ∃ D', m_136 V D = some D' ∧ m_45 (absD D) = some (absD D') ∧ LvOk V D' n a N fs fs ((V.stored ++ fs).length : Int) := by
  obtain ⟨D', k1, k2, k3⟩ := sync_eq h.ok.good
  have hread : (absD D').Read = (absD D).Read := by rw [k3]; rfl
  have hlr : (absD D').Lasts = (absD D').Read := by rw [k3]; rfl
  have hL : LogOk (2 + 2 * a) (n - (2 + 2 * a)) (N : Int) fs V.log (absD D') := ⟨h.ok.log.eq, h.ok.log.may, h.ok.log.w, h.ok.log.len, by rw [hread]; exact h.ok.log.read⟩
  refine ⟨D', ?_, ?_, ⟨h.ok.moved k2 (fun p _ => by rw [hread]) hL, ⟨[], by rw [List.append_nil]⟩, by rw [List.length_append], fun p _ => by rw [hlr], fun i hi => by rw [hlr]; exact hL.read i hi⟩⟩
  · unfold m_136
    rw [k1]; rfl
  · rw [ref_sync (abs_good h.ok.good), k3]
theorem LvOk.checked (h : LvOk V D n a N fs gs sy) (hN : N + 1 < 1000000) : ∃ y V' D' N' fs' gs' sy', m_26 V D = some (y, V', D') ∧ m_L13 (refV n a V fs) (absD D) = some (y, refV n a V' fs', absD D') ∧ N' ≤ N + 1 ∧ (bif y == 0 then some ((V.stored ++ fs).length : Int) else some sy) = some sy' ∧ LvOk V' D' n a N' fs' gs' sy' := by
  have hck := h.ok.check2 hN
  split at hck
  · obtain ⟨g1, g2⟩ := hck
    exact ⟨4, V, D, N, fs, gs, sy, g1, g2, by omega, rfl, h⟩
  · obtain ⟨V', D', g1, g2, g3, g4, g5⟩ := hck
    refine ⟨0, V', D', N + 1, [], [], _, g1, g5, by omega, rfl, ⟨g2, ⟨[], rfl⟩, by rw [g3]; rfl, fun p _ => by rw [g4], fun i hi => by rw [g4]; exact g2.log.read i hi⟩⟩
theorem LvOk.append (h : LvOk V D n a N fs gs sy) {F : Frame} (hw : ∀ x ∈ F.Words, isW x) : ∃ y V' D' more, m_27 V D F = some (y, V', D') ∧ m_18 (refV n a V fs).Log (absD D) F = some (y, (refV n a V' (fs ++ more)).Log, absD D') ∧ refV n a V' (fs ++ more) = ⟨(refV n a V fs).Area, (refV n a V fs).At, (refV n a V fs).S, (refV n a V' (fs ++ more)).Log⟩ ∧ LvOk V' D' n a N (fs ++ more) gs sy := by
  have hfit := h.ok.fit
  obtain ⟨tl, htl⟩ := h.pre
  have hlog : (refV n a V fs).Log = ⟨((2 + 2 * a : Nat) : Int), ((n - (2 + 2 * a) : Nat) : Int), (N : Int), fs⟩ := by
    show (⟨_, _, V.at_.Epoch, fs⟩ : RLog) = _
    rw [h.ok.epoch]
  unfold m_27
  cases hm : Go.Proofs.YtdkfdmalbbfbmaaGreat.may F with
  | false =>
    rw [append_bad hm]
    refine ⟨1, _, D, [], rfl, ?_, ?_, ?_⟩
    · unfold m_18
      rw [may_46, hm, List.append_nil]; rfl
    · rw [List.append_nil]
    · rw [List.append_nil]
      exact ⟨h.ok.moved h.ok.good (fun _ _ => rfl) h.ok.log, ⟨tl, htl⟩, h.sy, h.low, h.log⟩
  | true =>
    have ha := append_eq h.ok.good h.ok.log (by omega) h.ok.num hm hw
    have hr := ref_append (abs_good h.ok.good) h.ok.log (by omega) h.ok.num hm hw
    split at ha
    · rename_i hfitF
      rw [if_pos hfitF] at hr
      obtain ⟨L', D', g1, g2, g3, g4⟩ := ha
      rw [g1]
      refine ⟨0, _, D', [F], rfl, ?_, rfl, ?_⟩
      · rw [hlog, hr, g4]
        have : (refV n a ⟨V.area, ⟨V.at_.Number, V.at_.Epoch, V.at_.Area, V.at_.Words⟩, V.stored, L'⟩ (fs ++ [F])).Log = ⟨((2 + 2 * a : Nat) : Int), ((n - (2 + 2 * a) : Nat) : Int), (N : Int), fs ++ [F]⟩ := by
          show (⟨_, _, V.at_.Epoch, fs ++ [F]⟩ : RLog) = _
          rw [h.ok.epoch]
        rw [this]
      · have hlen := g3.len
        have hla : (absD D').Lasts = (absD D).Lasts := by rw [g4, wsX_lasts]
        have hrd : ∀ p, p < 2 + 2 * a → (absD D').Read[p]? = (absD D).Read[p]? := fun p hp => by
          rw [g4, wsX_read _ _ _ _ _ _ (by rw [(abs_len h.ok.good).2.1]; omega), if_neg (by omega)]
        exact ⟨h.ok.moved g2 hrd g3, ⟨tl ++ [F], by rw [htl, List.append_assoc]⟩, h.sy, fun p hp => by rw [hla, hrd p hp]; exact h.low p hp, fun i hi => by rw [hla]; exact h.log i hi⟩
    · rename_i hfitF
      rw [if_neg hfitF] at hr
      rw [ha]
      refine ⟨4, _, D, [], rfl, ?_, ?_, ?_⟩
      · rw [hlog, hr, List.append_nil, ← hlog]
      · rw [List.append_nil]
      · rw [List.append_nil]
        exact ⟨h.ok.moved h.ok.good (fun _ _ => rfl) h.ok.log, ⟨tl, htl⟩, h.sy, h.low, h.log⟩
end

theorem lasts22_loop {x2 : List OpV} (hw : ∀ q ∈ x2, opW q) {n a : Nat} : ∀ (d i : Nat) (D : Disk) (V : VaultM) (N : Nat) (fs gs : List Frame) (sy : Int), min x2.length 30 - i = d → i ≤ 30 → N ≤ i → LvOk V D n a N fs gs sy →
    ∃ r, loopO (m_L3_1b x2) (false, sy, (i : Int), D, absD D, V, refV n a V fs) = some r ∧ (r = .inr true ∨ ∃ sy' j D' V' N' fs' gs', r = .inl (false, sy', j, D', absD D', V', refV n a V' fs') ∧ LvOk V' D' n a N' fs' gs' sy') := by
  intro d
  induction d with
  | zero =>
    intro i D V N fs gs sy hd hi hN hV
    refine ⟨.inl (false, sy, (i : Int), D, absD D, V, refV n a V fs), loopO_end ?_, .inr ⟨sy, (i : Int), D, V, N, fs, gs, rfl, hV⟩⟩
    dsimp only [m_L3_1b]
    by_cases h1 : i < x2.length
    · rw [show decide ((i : Int) < (x2.length : Int)) = true by simp; omega, show decide ((i : Int) < 30) = false by simp; omega]; rfl
    · rw [show decide ((i : Int) < (x2.length : Int)) = false by simp; omega]; rfl
  | succ d ih =>
    intro i D V N fs gs sy hd hi hN hV
    have h1 : i < x2.length := by omega
    have e2 : IntKind.wrap .i64 ((i : Int) + 1) = ((i + 1 : Nat) : Int) := by rw [wi64 (by omega) (by omega)]; rfl
    obtain ⟨hk, hF, _⟩ := hw _ (List.getElem_mem h1)
    by_cases h4 : x2[i].F.Words.length > 400
    · refine ⟨.inr true, loopO_end ?_, .inl rfl⟩
      dsimp only [m_L3_1b]
      rw [show decide ((i : Int) < (x2.length : Int)) = true by simp; omega, show decide ((i : Int) < 30) = true by simp; omega]
      simp only [cond_true, ob_s]
      rw [gt_eq h1]
      simp only [ob_s]
      rw [show decide ((x2[i].F.Words.length : Int) > 400) = true by simp; omega]; rfl
    · have hround : ∀ sy' D' X' V' R', (bif (Int.tmod x2[i].Kind 8) == 4 then (ob (m_136 V D) fun X3 => ob (m_45 (absD D)) fun X4 => ob (m_L11 (refV n a V fs)) fun y8 => some ((y8.length : Int), X3, X4, V, refV n a V fs)) else (bif (Int.tmod x2[i].Kind 8) == 5 then (ob (m_26 V D) fun (y9, X5, X6) => ob (bif y9 == 0 then (ob (m_L11 (refV n a V fs)) fun y10 => some (y10.length : Int)) else (some sy)) (m_L3_3k (absD D) (refV n a V fs) X5 X6)) else (ob (m_27 V D (⟨x2[i].F.Kind, x2[i].F.Words⟩ : Frame)) fun (y12, X9, X10) => ob (m_18 (refV n a V fs).Log (absD D) (⟨x2[i].F.Kind, x2[i].F.Words⟩ : Frame)) fun (y13, X11, X12) => some (sy, X10, X12, X9, (⟨(refV n a V fs).Area, (⟨(refV n a V fs).At.Number, (refV n a V fs).At.Epoch, (refV n a V fs).At.Area, (refV n a V fs).At.Words⟩ : Anchor), (refV n a V fs).S, X11⟩ : RVault))))) = some (sy', D', X', V', R') →
          loopO (m_L3_1b x2) (false, sy, (i : Int), D, absD D, V, refV n a V fs) = loopO (m_L3_1b x2) (false, sy', ((i + 1 : Nat) : Int), D', X', V', R') := by
        intro sy' D' X' V' R' hb
        refine loopO_next ?_
        dsimp only [m_L3_1b]
        rw [show decide ((i : Int) < (x2.length : Int)) = true by simp; omega, show decide ((i : Int) < 30) = true by simp; omega]
        simp only [cond_true, ob_s]
        rw [gt_eq h1]
        simp only [ob_s]
        rw [show decide ((x2[i].F.Words.length : Int) > 400) = false by simp; omega]
        simp only [cond_false]
        rw [hb]
        simp only [ob_s, m_L3_2k, e2]
      cases c4 : (Int.tmod x2[i].Kind 8 == 4) with
      | true =>
        obtain ⟨D', g1, g2, g3⟩ := hV.synced
        rw [hround ((V.stored ++ fs).length : Int) D' (absD D') V (refV n a V fs) (by
          rw [c4]
          simp only [cond_true, g1, g2, ob_s, hV.ok.told])]
        exact ih (i + 1) D' V N fs fs _ (by omega) (by omega) (by omega) g3
      | false =>
        cases c5 : (Int.tmod x2[i].Kind 8 == 5) with
        | true =>
          obtain ⟨y, V', D', N', fs', gs', sy', g1, g2, g3, g4, g5⟩ := hV.checked (by omega)
          rw [hround sy' D' (absD D') V' (refV n a V' fs') (by
            rw [c4, c5]
            simp only [cond_true, cond_false, g1, ob_s, hV.ok.told, g4, m_L3_3k, g2])]
          exact ih (i + 1) D' V' N' fs' gs' sy' (by omega) (by omega) (by omega) g5
        | false =>
          obtain ⟨y, V', D', more, g1, g2, g3, g4⟩ := hV.append (F := x2[i].F) (fun x hx => isW_wf (hF.2.2 x hx))
          rw [hround sy D' (absD D') V' (refV n a V' (fs ++ more)) (by
            rw [c4, c5]
            simp only [cond_false]
            have g1 : m_27 V D (⟨x2[i].F.Kind, x2[i].F.Words⟩ : Frame) = _ := g1
            have g2 : m_18 (refV n a V fs).Log (absD D) (⟨x2[i].F.Kind, x2[i].F.Words⟩ : Frame) = _ := g2
            rw [g1]
            simp only [ob_s]
            rw [g2]
            simp only [ob_s]
            rw [g3])]
          exact ih (i + 1) D' V' N (fs ++ more) gs sy (by omega) (by omega) (by omega) g4

theorem p_L3 (x0 x1 : Int) (x2 : List OpV) (x3 : List Bool) (w0 : (Lit.int .u8 x0).wf = true) (w1 : (Lit.int .u8 x1).wf = true) (w2 : x2.length ≤ maxLen ∧ ∀ q ∈ x2, opW q) (_ : x3.length ≤ maxLen ∧ ∀ b ∈ x3, True) : m_L3 x0 x1 x2 x3 = some true := by
  obtain ⟨a0, a255⟩ := wf_u8 w0
  obtain ⟨b0, b255⟩ := wf_u8 w1
  obtain ⟨a, ha1, ha6, ha⟩ : ∃ a : Nat, 1 ≤ a ∧ a ≤ 6 ∧ IntKind.wrap .i64 (IntKind.wrap .i64 (Int.tmod x1 6) + 1) = (a : Int) := by
    refine ⟨(x1 % 6).toNat + 1, by omega, by omega, ?_⟩
    rw [Int.tmod_eq_emod_of_nonneg b0, wi64 (x := x1 % 6) (by omega) (by omega), wi64 (by omega) (by omega)]
    omega
  obtain ⟨n, hn1, hn2, hn⟩ : ∃ n : Nat, 2 + 2 * a < n ∧ n ≤ 30 ∧ IntKind.wrap .i64 (IntKind.wrap .i64 (3 + IntKind.wrap .i64 (2 * (a : Int))) + IntKind.wrap .i64 (Int.tmod x0 12)) = (n : Int) := by
    refine ⟨3 + 2 * a + (x0 % 12).toNat, by omega, by omega, ?_⟩
    rw [Int.tmod_eq_emod_of_nonneg a0, wi64 (x := x0 % 12) (by omega) (by omega), wi64 (x := 2 * (a : Int)) (by omega) (by omega), wi64 (x := 3 + 2 * (a : Int)) (by omega) (by omega), wi64 (by omega) (by omega)]
    omega
  unfold m_L3
  rw [alive_22]
  simp only [ob_s, Bool.not_true, cond_false]
  by_cases hl3 : x3.length > 100
  · rw [show decide ((x3.length : Int) > 100) = true by simp; omega]; rfl
  rw [show decide ((x3.length : Int) > 100) = false by simp; omega]
  simp only [cond_false]
  rw [ha, hn]
  obtain ⟨D, V, D1, h1, h2, h3, h4, h5⟩ := new_vault2 (n := n) (a := a) ha1 hn1 (by omega)
  rw [h1, h2]
  simp only [ob_s]
  rw [h3]
  simp only [ob_s]
  rw [h4]
  simp only [ob_s]
  rw [show ((0 : Int) != 0) = false from rfl]
  simp only [cond_false, ob_s]
  obtain ⟨r, hr, hcase⟩ := lasts22_loop w2.2 (min x2.length 30) 0 D1 V 0 [] [] 0 (by omega) (by omega) (by omega) h5
  have hr : loopO (m_L3_1b x2) (false, 0, 0, D1, absD D1, V, refV n a V []) = some r := hr
  rw [hr]
  simp only [ob_s]
  rcases hcase with rfl | ⟨sy, j, D2, V2, N, fs, gs, rfl, hV⟩
  · rfl
  dsimp only [m_L3_1k]
  rw [ha, hV.ok.told]
  simp only [ob_s]
  have hfit := hV.ok.fit
  obtain ⟨D3, c1, c2, c3⟩ := crash_eq hV.ok.good x3
  rw [c1]
  simp only [ob_s]
  rw [ref_crash (abs_good hV.ok.good) x3, ← c3]
  simp only [ob_s]
  -- what is read behind the crash
  have hlow : ∀ p, p < 2 + 2 * a → (absD D3).Read[p]? = (absD D2).Read[p]? := fun p hp => by
    rw [c3]
    rcases crX_read (abs_good hV.ok.good) x3 (i := p) (by omega) with h | h
    · rw [h]; exact hV.low p hp
    · exact h
  obtain ⟨tl, htl⟩ := hV.pre
  have hst : streamF (N : Int) 0 fs = streamF (N : Int) 0 gs ++ streamF (N : Int) (0 + gs.length) tl := by rw [htl, streamF_append]
  have hlen := hV.ok.log.len
  rw [hst, List.length_append] at hlen
  obtain ⟨rest, hrest⟩ := part_prefix (X := absD D3) (f := 2 + 2 * a) (k := n - (2 + 2 * a)) (ws := streamF (N : Int) 0 gs) (vs := streamF (N : Int) (0 + gs.length) tl) (abs_isS c2) (by rw [(abs_len c2).2.1]; omega) (by omega) (fun i hi => by
    rw [c3]
    rcases crX_read (abs_good hV.ok.good) x3 (i := 2 + 2 * a + i) (by omega) with h | h
    · left; rw [h]; exact hV.log i hi
    · right; rw [h, ← hst]; exact hV.ok.log.read i hi)
  have hcnt := stream_count (N : Int) 0 gs
  have hgot : ∃ more, (allF (N : Int) 0 (partW (absD D3) (2 + 2 * a) (n - (2 + 2 * a)))).1 = gs ++ more := by
    rw [hrest]
    exact ⟨_, allF_prefix (N : Int) hV.ok.num gs 0 rest (fun F hF => hV.ok.log.may F (by rw [htl]; exact List.mem_append_left _ hF)) (by omega)⟩
  obtain ⟨more, hmore⟩ := hgot
  have hep := hV.ok.epoch
  have hfind : (findA (sec (absD D3) 0) (sec (absD D3) 1) = none ∧ V2.at_ = ⟨0, 0, 0, 0⟩ ∧ V2.stored = []) ∨
      (findA (sec (absD D3) 0) (sec (absD D3) 1) = some V2.at_ ∧ ∃ r w : Nat, V2.at_.Area = (r : Int) ∧ r ≤ 1 ∧ V2.at_.Words = (w : Int) ∧ w ≤ 8 * a ∧ allF V2.at_.Epoch 0 ((partW (absD D3) (2 + r * a) a).take w) = (V2.stored, w)) := by
    rw [sec_of (hlow 0 (by omega)), sec_of (hlow 1 (by omega)), hV.ok.find]
    by_cases h0 : N = 0
    · left
      exact ⟨if_pos h0, hV.ok.zero h0⟩
    · right
      obtain ⟨p1, p2, r, q1, q2, q3, q4⟩ := hV.ok.pos (by omega)
      refine ⟨if_neg h0, r, _, q1, q2, q3, hV.ok.len, ?_⟩
      have hra := rarea (a := a) q2
      have hpart : partW (absD D3) (2 + r * a) a = partW (absD D2) (2 + r * a) a := by
        unfold partW
        refine congrArg List.flatten (List.ext_getElem? fun p => ?_)
        rw [List.getElem?_take, List.getElem?_take]
        split
        · rw [List.getElem?_drop, List.getElem?_drop, hlow _ (by omega)]
        · rfl
      rw [hpart, q4, hep]
      have := allF_of (N : Int) hV.ok.num V2.stored 0 [] hV.ok.may (by have := hV.ok.hN; have := stream_count (N : Int) 0 V2.stored; have := hV.ok.len; omega) getF_nil
      rwa [List.append_nil] at this
  obtain ⟨L, D4, g1, g2, g3, g4, g5⟩ := open_24 c2 ha1 hfit (at_ := V2.at_) (st := V2.stored) (by rw [hep]; exact hV.ok.num) hfind
  have gr := open_L8 (abs_good c2) ha1 hfit (at_ := V2.at_) (st := V2.stored) hfind
  rw [hep] at g3 g5 gr
  rw [hmore] at g3 g5 gr
  rw [g1, gr]
  simp only [ob_s]
  rw [show ((0 : Int) != 0) = false from rfl]
  simp only [cond_false]
  -- what it has
  have hsm := hV.ok.good.small
  have hc1 := stream_count (N : Int) 0 V2.stored
  have hc2 := stream_count (N : Int) 0 (gs ++ more)
  have hl1 := hV.ok.len
  have hl2 := g5.len
  have hmay : ∀ F ∈ V2.stored ++ (gs ++ more), Go.Proofs.YtdkfdmalbbfbmaaGreat.may F = true := fun F hF => by
    rcases List.mem_append.1 hF with hF | hF
    · exact hV.ok.may F hF
    · exact g5.may F hF
  have hbig : ∀ F ∈ V2.stored ++ (gs ++ more), F.Words.length < 4294967296 := fun F hF => by
    have := (may_iff.1 (hmay F hF)).2.2
    omega
  have hfr : m_25 (⟨(a : Int), V2.at_, V2.stored, L⟩ : VaultM) = some (V2.stored ++ (gs ++ more)) := frames_25 (V := ⟨(a : Int), V2.at_, V2.stored, L⟩) (g5.frames (by omega)) (by show V2.stored.length + _ < _; omega) hbig
  rw [hfr]
  simp only [ob_s]
  have hto : m_L11 (⟨(a : Int), V2.at_, V2.stored, ⟨((2 + 2 * a : Nat) : Int), ((n - (2 + 2 * a) : Nat) : Int), (N : Int), gs ++ more⟩⟩ : RVault) = some (V2.stored ++ (gs ++ more)) := by
    unfold m_L11
    simp only
    rw [ap_eq (by simp; omega)]
    simp only [ob_s, List.nil_append]
    rw [ap_eq (by omega)]
    rfl
  rw [hto]
  simp only [ob_s]
  have hgl : (V2.stored ++ (gs ++ more)).length < 4294967296 := by rw [List.length_append]; omega
  rw [same_11 hgl hbig]
  simp only [ob_s, decide_true, Bool.not_true, cond_false]
  have hge : decide (((V2.stored ++ (gs ++ more)).length : Int) ≥ sy) = true := by
    rw [hV.sy, decide_eq_true_eq, List.length_append, List.length_append]
    omega
  by_cases hgt : (V2.stored ++ (gs ++ more)).length > (V2.stored ++ fs).length
  · rw [show decide (((V2.stored ++ (gs ++ more)).length : Int) > ((V2.stored ++ fs).length : Int)) = true by rw [decide_eq_true_eq]; omega]
    rfl
  rw [show decide (((V2.stored ++ (gs ++ more)).length : Int) > ((V2.stored ++ fs).length : Int)) = false by rw [decide_eq_false_iff_not]; omega]
  simp only [cond_false]
  rw [show sl (V2.stored ++ fs) 0 ((V2.stored ++ (gs ++ more)).length : Int) = some (((V2.stored ++ fs).take (V2.stored ++ (gs ++ more)).length).drop 0) from sl_eq (l := 0) (by omega) (by omega)]
  simp only [ob_s]
  rw [same_11 hgl hbig]
  simp only [ob_s]
  rw [hge]
  cases decide (V2.stored ++ (gs ++ more) = ((V2.stored ++ fs).take (V2.stored ++ (gs ++ more)).length).drop 0) <;> rfl
end Go.Proofs.YtdkfdmalbbfbmaaGreat

/- What a vault is asked, as an argument. -/
namespace Go.Proofs.YtdkfdmalbbfbmaaGreat
open Go Go.ChangeShapes Go.WideShapes Go.ChangeAt Go.RowKit
variable {P : Program} {t e : TypeId}

theorem Dec.op {T0 T1 T2 T3 T4 Te : TypeId} {f0 f1 f2 f3 f4 : Field} (he : P.underlying e = some (.struct #[f0, f1, f2, f3, f4])) (hc : P.cellsOf e = 13)
    (o0 : f0.offset = 0) (o1 : f1.offset = 1) (o2 : f2.offset = 3) (o3 : f3.offset = 4) (o4 : f4.offset = 5) (t0 : f0.type = T0) (t1 : f1.type = T1) (t2 : f2.type = T2) (t3 : f3.type = T3) (t4 : f4.type = T4)
    (D0 : Dec P (kInt .u8) T0 (fun n => (Lit.int .u8 n).wf = true)) (D1 : Dec P kFr T1 frameW) (D2 : Dec P (kSl kBool) T2 (fun xs => xs.length ≤ maxLen ∧ ∀ b ∈ xs, True)) (D3 : Dec P (kInt .i64) T3 (fun n => (Lit.int .i64 n).wf = true))
    (h4 : P.underlying T4 = some (.array 8 Te)) (c4 : P.cellsOf T4 = 8) (De : Dec P (kInt .u64) Te (fun n => (Lit.int .u64 n).wf = true)) :
    Dec P kOpV e opW := by
  refine ⟨hc, fun enc w fuel cs x h => ?_⟩
  obtain ⟨xs, n, _, _, hl, hxl, hf⟩ := DataW.trod_struct he h
  rw [hc] at hl
  obtain ⟨c0, c1, c2, c3, c4', c5, c6, c7, c8, c9, c10, c11, c12, rfl⟩ : ∃ c0 c1 c2 c3 c4 c5 c6 c7 c8 c9 c10 c11 c12, cs = [c0, c1, c2, c3, c4, c5, c6, c7, c8, c9, c10, c11, c12] := by
    match cs, hl with
    | [c0, c1, c2, c3, c4, c5, c6, c7, c8, c9, c10, c11, c12], _ => exact ⟨_, _, _, _, _, _, _, _, _, _, _, _, _, rfl⟩
  have gx : ∀ i, i < 5 → ∃ y, xs[i]? = some y := fun i hi => ⟨_, List.getElem?_eq_getElem (by rw [hxl]; exact hi)⟩
  have g0 := hf 0 f0 rfl
  have g1 := hf 1 f1 rfl
  have g2 := hf 2 f2 rfl
  have g3 := hf 3 f3 rfl
  have g4 := hf 4 f4 rfl
  rw [t0, o0, D0.1] at g0
  rw [t1, o1, D1.1] at g1
  rw [t2, o2, D2.1] at g2
  rw [t3, o3, D3.1] at g3
  rw [t4, o4, c4] at g4
  obtain ⟨y0, hy0⟩ := gx 0 (by decide)
  obtain ⟨y1, hy1⟩ := gx 1 (by decide)
  obtain ⟨y2, hy2⟩ := gx 2 (by decide)
  obtain ⟨y3, hy3⟩ := gx 3 (by decide)
  obtain ⟨y4, hy4⟩ := gx 4 (by decide)
  rw [hy0] at g0
  rw [hy1] at g1
  rw [hy2] at g2
  rw [hy3] at g3
  rw [hy4] at g4
  obtain ⟨k, hk1, hk2⟩ := D0.2 enc w n _ _ g0
  obtain ⟨F, ⟨v1, hv1, hs1⟩, hF⟩ := D1.2 enc w n _ _ g1
  obtain ⟨Kp, ⟨v2, hv2, hs2⟩, hK⟩ := D2.2 enc w n _ _ g2
  obtain ⟨I, hI1, hI2⟩ := D3.2 enc w n _ _ g3
  obtain ⟨zs, m, _, _, _, hzl, hz⟩ := DataW.trod_array h4 g4
  have ge : ∀ i, i < 8 → ∃ z : Int, ((([c0, c1, c2, c3, c4', c5, c6, c7, c8, c9, c10, c11, c12].drop 5).take 8).drop i).take 1 = [.int .u64 z] ∧ (Lit.int .u64 z).wf = true := fun i hi => by
    have := hz i hi
    rw [De.1] at this
    obtain ⟨y, hy⟩ : ∃ y, zs[i]? = some y := ⟨_, List.getElem?_eq_getElem (by rw [hzl]; exact hi)⟩
    rw [hy] at this
    obtain ⟨z, hz1, hz2⟩ := De.2 enc w m _ _ this
    refine ⟨z, ?_, hz2⟩
    have hz1 : (((([c0, c1, c2, c3, c4', c5, c6, c7, c8, c9, c10, c11, c12].drop 5).take 8).drop (i * 1)).take 1) = [.int .u64 z] := hz1
    rwa [Nat.mul_one] at hz1
  obtain ⟨z0, e0, b0⟩ := ge 0 (by decide)
  obtain ⟨z1, e1, b1⟩ := ge 1 (by decide)
  obtain ⟨z2, e2, b2⟩ := ge 2 (by decide)
  obtain ⟨z3, e3, b3⟩ := ge 3 (by decide)
  obtain ⟨z4, e4, b4⟩ := ge 4 (by decide)
  obtain ⟨z5, e5, b5⟩ := ge 5 (by decide)
  obtain ⟨z6, e6, b6⟩ := ge 6 (by decide)
  obtain ⟨z7, e7, b7⟩ := ge 7 (by decide)
  have hk1' : [c0] = [.int .u8 k] := hk1
  have hv1' : [c1, c2] = [.int .i64 F.Kind, v1] := hv1
  have hv2' : [c3] = [v2] := hv2
  have hI1' : [c4'] = [.int .i64 I] := hI1
  have e0' : [c5] = [.int .u64 z0] := e0
  have e1' : [c6] = [.int .u64 z1] := e1
  have e2' : [c7] = [.int .u64 z2] := e2
  have e3' : [c8] = [.int .u64 z3] := e3
  have e4' : [c9] = [.int .u64 z4] := e4
  have e5' : [c10] = [.int .u64 z5] := e5
  have e6' : [c11] = [.int .u64 z6] := e6
  have e7' : [c12] = [.int .u64 z7] := e7
  simp only [List.cons.injEq, and_true] at hk1' hv1' hv2' hI1' e0' e1' e2' e3' e4' e5' e6' e7'
  obtain ⟨rfl, rfl⟩ := hv1'
  subst hk1'; subst hv2'; subst hI1'; subst e0'; subst e1'; subst e2'; subst e3'; subst e4'; subst e5'; subst e6'; subst e7'
  refine ⟨⟨k, F, Kp, I, [z0, z1, z2, z3, z4, z5, z6, z7]⟩, ⟨_, _, rfl, rfl, hs1, hs2⟩, hk2, hF, hK, hI2, rfl, fun x hx => ?_⟩
  simp only [List.mem_cons, List.not_mem_nil, or_false] at hx
  rcases hx with rfl | rfl | rfl | rfl | rfl | rfl | rfl | rfl
  · exact b0
  · exact b1
  · exact b2
  · exact b3
  · exact b4
  · exact b5
  · exact b6
  · exact b7
theorem dec_op : Dec Tryz.prog kOpV 42 opW :=
  Dec.op Tryz.underlying42 (by kernel_rfl) rfl rfl rfl rfl rfl rfl rfl rfl rfl rfl (Dec.int Tryz.underlying5 (by kernel_rfl)) (Dec.fr Tryz.underlying38 (by kernel_rfl) rfl rfl rfl rfl Tryz.underlying3 (by kernel_rfl) Tryz.underlying36 (by kernel_rfl) Tryz.underlying39 (by kernel_rfl)) (Dec.sl (Dec.bool Tryz.underlying4 (by kernel_rfl)) (by decide) Tryz.underlying23 (by kernel_rfl)) (Dec.int Tryz.underlying3 (by kernel_rfl)) Tryz.underlying40 (by kernel_rfl) (Dec.int Tryz.underlying39 (by kernel_rfl))
end Go.Proofs.YtdkfdmalbbfbmaaGreat
