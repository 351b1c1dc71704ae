/- The plain law of VaultAgain. -/
import Derived.Test.YtdkfdmalbbfbmaaMW633
import Derived.Test.YtdkfdmalbbfbmaaMW613
/- The plain law of VaultAgain. -/
namespace Go.Proofs.Ytdkfdmalbbfbmaa
open Go
set_option maxRecDepth 4000

/-- The next anchor. -/
def nextA (N r : Nat) (w : Nat) : Anchor := ⟨((N + 1 : Nat) : Int), ((N + 1 : Nat) : Int), (r : Int), (w : Int)⟩
section
variable {V : VaultM} {D : Disk} {n a N : Nat} {fs : List Frame}
theorem VOk.next (h : VOk V D n a N fs) : ∃ r : Nat, r ≤ 1 ∧ (0 < N → V.at_.Area ≠ (r : Int)) ∧ ∀ w : Nat, m_57 ⟨V.area, V.at_, V.stored⟩ (w : Int) = some (nextA N r w) := by
  have hN := h.hN
  have e1 : IntKind.wrap .i64 (V.at_.Number + 1) = ((N + 1 : Nat) : Int) := by rw [h.number, wi64 (by omega) (by omega)]; rfl
  have e2 : IntKind.wrap .i64 (V.at_.Epoch + 1) = ((N + 1 : Nat) : Int) := by rw [h.epoch, wi64 (by omega) (by omega)]; rfl
  by_cases h0 : N = 0
  · refine ⟨0, by decide, by omega, fun w => ?_⟩
    unfold m_57
    simp only
    rw [e1, e2, h.number, h0]
    rfl
  · obtain ⟨p1, p2, r, q1, q2, q3, q4⟩ := h.pos (by omega)
    refine ⟨1 - r, by omega, fun _ => by rw [q1]; omega, fun w => ?_⟩
    unfold m_57
    simp only
    rw [e1, e2, h.number, show decide ((N : Int) > 0) = true by simp; omega, q1]
    have e3 : IntKind.wrap .i64 (1 - (r : Int)) = ((1 - r : Nat) : Int) := by rw [wi64 (by omega) (by omega)]; omega
    rw [e3]; rfl
theorem rarea {r a : Nat} (h : r ≤ 1) : r * a ≤ a := by
  rcases Nat.lt_or_ge r 1 with h | h
  · have : r = 0 := by omega
    subst this; simp
  · have : r = 1 := by omega
    subst this; simp
/-- What a checkpoint does to the device, one after the other. -/
theorem VOk.check (h : VOk V D n a N fs) (hN1 : N + 1 < 1000000) :
    if (streamF ((N + 1 : Nat) : Int) 0 (V.stored ++ fs)).length > 8 * a then m_26 V D = some (4, V, D)
    else ∃ V' D', m_26 V D = some (0, V', D') ∧ VOk V' D' n a (N + 1) [] ∧ V'.stored = V.stored ++ fs := by
  have hsm := h.good.small
  have hfit := h.fit
  have a1 := h.a1
  have hsmall := h.small
  have hcnt1 := stream_count (N : Int) 0 V.stored
  have hcnt2 := stream_count (N : Int) 0 fs
  have hlen : (streamF ((N + 1 : Nat) : Int) 0 (V.stored ++ fs)).length = (streamF (N : Int) 0 V.stored).length + (streamF (N : Int) 0 fs).length := by
    rw [streamF_append, List.length_append, stream_len _ (N : Int) 0 0, stream_len _ (N : Int) (0 + V.stored.length) 0]
  have e1 : IntKind.wrap .i64 (V.at_.Epoch + 1) = ((N + 1 : Nat) : Int) := by rw [h.epoch, wi64 (by omega) (by omega)]; rfl
  have hnum : Go.Proofs.Ytdkfdmalbbfbmaa.num ((N + 1 : Nat) : Int) = true := num_iff.2 ⟨by omega, by omega⟩
  unfold m_26
  rw [h.frames]
  simp only [ob_s]
  rw [e1, stream_56 hnum h.all_may h.all_w (by omega)]
  simp only [ob_s]
  have e8 : IntKind.wrap .i64 (V.area * 8) = ((8 * a : Nat) : Int) := by rw [h.area, wi64 (by omega) (by omega)]; omega
  rw [e8]
  have hwW := isW_stream (e := ((N + 1 : Nat) : Int)) (n := 0) h.all_may h.all_w
  generalize hws : streamF ((N + 1 : Nat) : Int) 0 (V.stored ++ fs) = ws at hlen hwW
  split
  · rename_i hbig
    rw [show decide ((ws.length : Int) > ((8 * a : Nat) : Int)) = true by simp; omega]; rfl
  rename_i hsz
  rw [show decide ((ws.length : Int) > ((8 * a : Nat) : Int)) = false by simp; omega]
  simp only [cond_false]
  obtain ⟨r, hr1, hrN, hnext⟩ := h.next
  have hra := rarea (a := a) hr1
  rw [hnext ws.length]
  simp only [ob_s]
  have hb : m_58 ⟨V.area, V.at_, V.stored⟩ (nextA N r ws.length).Area = some ((2 + r * a : Nat) : Int) := begin_58 (V := ⟨V.area, V.at_, V.stored⟩) h.area (by omega) (by omega)
  rw [hb]
  simp only [ob_s]
  rw [show gd (!decide ((8 : Nat) < 1)) (some ()) = some () from rfl]
  simp only [ob_s]
  obtain ⟨D1, z, g1, g2, g3⟩ := chunks_78 h.good (ws := ws) (f := 2 + r * a) hwW (by unfold cnt8; omega)
  rw [g1]
  simp only [ob_s]
  obtain ⟨D2, k1, k2, k3⟩ := sync_eq g2
  rw [k1]
  simp only [ob_s]
  have hok : okA (nextA N r ws.length) = true := okA_iff.2 ⟨by simp only [nextA]; omega, by simp only [nextA]; omega, by simp only [nextA]; omega, by simp only [nextA]; omega, by simp only [nextA]; omega, by simp only [nextA]; omega, by simp only [nextA]; omega, by simp only [nextA]; omega⟩
  have hpar : Int.tmod (nextA N r ws.length).Number 2 = (((N + 1) % 2 : Nat) : Int) := by
    simp only [nextA]
    rw [Int.tmod_eq_emod_of_nonneg (by omega)]
    omega
  obtain ⟨D3, w1, w2, w3⟩ := write_eq k2 (i := (N + 1) % 2) (by omega) (secA_isS hok)
  have hw61 : m_61 D2 (nextA N r ws.length) = some (0, D3) := by
    unfold m_61 mq_60
    rw [sector_79 hok]
    simp only [ob_s, Bool.not_true, cond_false]
    rw [hpar, w1]; rfl
  rw [hw61]
  simp only [ob_s]
  rw [show ((0 : Int) != 0) = false from rfl]
  simp only [cond_false]
  obtain ⟨D4, j1, j2, j3⟩ := sync_eq w2
  rw [j1]
  simp only [ob_s]
  -- what is read
  have hrl := (abs_len h.good).2.1
  have hread : ∀ p, p ≠ (N + 1) % 2 → (absD D4).Read[p]? = if 2 + r * a ≤ p ∧ p < 2 + r * a + cnt8 ws.length then some (secAt ws (p - (2 + r * a))) else (absD D).Read[p]? := fun p hp => by
    rw [j3]
    show (absD D3).Read[p]? = _
    rw [w3]
    show ((absD D2).Read.set ((N + 1) % 2) _)[p]? = _
    rw [List.getElem?_set_ne (Ne.symm hp), k3]
    show (absD D1).Read[p]? = _
    rw [g3, wsX_read _ _ _ _ _ _ (by rw [hrl]; unfold cnt8; omega)]
    simp only [Nat.add_zero, Nat.zero_add]
  have hanch : (absD D4).Read[(N + 1) % 2]? = some (secA (nextA N r ws.length)) := by
    rw [j3]
    show (absD D3).Read[(N + 1) % 2]? = _
    rw [w3]
    exact List.getElem?_set_self (by rw [(abs_len k2).2.1]; omega)
  have hlog : partW (absD D4) (2 + 2 * a) (n - (2 + 2 * a)) = partW (absD D) (2 + 2 * a) (n - (2 + 2 * a)) := by
    unfold partW
    refine congrArg List.flatten (List.ext_getElem? fun p => ?_)
    rw [List.getElem?_take, List.getElem?_take]
    split
    · rw [List.getElem?_drop, List.getElem?_drop, hread _ (by omega), if_neg (by unfold cnt8; omega)]
    · rfl
  have hnone : allF ((N + 1 : Nat) : Int) 0 (partW (absD D4) (2 + 2 * a) (n - (2 + 2 * a))) = ([], 0) := by
    rw [hlog, part_of (abs_isS h.good) (by rw [hrl]; omega) h.log.len h.log.read]
    exact other_epoch h.num hnum (by omega) h.log.may
  obtain ⟨D5, l1, l2, l3, l4⟩ := logged_54 j2 (V := ⟨V.area, nextA N r ws.length, V.stored ++ fs⟩) (a := a) (e := ((N + 1 : Nat) : Int)) h.area hfit hnum
  rw [hnone] at l1 l3 l4
  simp only at l1 l3 l4
  generalize (⟨((2 + 2 * a : Nat) : Int), ((n - (2 + 2 * a) : Nat) : Int), ((N + 1 : Nat) : Int), streamF ((N + 1 : Nat) : Int) 0 [], []⟩ : LogM) = L5 at l1 l4
  have hfin : ∀ (f : LogM × Disk → Option (Int × VaultM × Disk)), ob (m_54 (⟨V.area, (⟨(nextA N r ws.length).Number, (nextA N r ws.length).Epoch, (nextA N r ws.length).Area, (nextA N r ws.length).Words⟩ : Anchor), V.stored ++ fs⟩ : Vault0) D4 (nextA N r ws.length).Epoch) f = f (L5, D5) := fun f => by
    have l1 : m_54 (⟨V.area, (⟨(nextA N r ws.length).Number, (nextA N r ws.length).Epoch, (nextA N r ws.length).Area, (nextA N r ws.length).Words⟩ : Anchor), V.stored ++ fs⟩ : Vault0) D4 (nextA N r ws.length).Epoch = some (L5, D5) := l1
    rw [l1, ob_s]
  refine ⟨⟨V.area, nextA N r ws.length, V.stored ++ fs, L5⟩, D5, ?_, ?_, rfl⟩
  · exact hfin _
  have hread5 : ∀ p, p < 2 + 2 * a → (absD D5).Read[p]? = (absD D4).Read[p]? := fun p hp => by
    rw [l3, clX_read _ _ _ _ (by rw [(abs_len j2).2.1]; omega), if_neg (by omega)]
  have hcand : ∀ i, i ≤ 1 → ∀ b, cand i (sec (absD D5) i) = some b → b.Number ≤ ((N + 1 : Nat) : Int) := by
    intro i hi b hb
    rw [sec_of (hread5 i (by omega))] at hb
    by_cases hp : i = (N + 1) % 2
    · subst hp
      rw [sec_eq hanch] at hb
      obtain ⟨q1, q2, q3⟩ := cand_iff.1 hb
      have : some b = some (nextA N r ws.length) := (getA_iff.2 ⟨q1, q2⟩).symm.trans (getA_iff.2 ⟨hok, rfl⟩)
      rw [Option.some.inj this]
      simp only [nextA]; omega
    · rw [sec_of ((hread i hp).trans (if_neg (by omega)))] at hb
      rcases (show i = 0 ∨ i = 1 by omega) with rfl | rfl
      · have := h.c0 b hb; omega
      · have := h.c1 b hb; omega
  refine ⟨l2, a1, hfit, h.area, hN1, rfl, rfl, l4, h.all_may, h.all_w, ?_, hcand 0 (by decide), hcand 1 (by decide), by omega, fun _ => ⟨hok, ?_, r, rfl, hr1, ?_, ?_⟩⟩
  · show (streamF ((N + 1 : Nat) : Int) 0 (V.stored ++ fs)).length ≤ _
    rw [hws]; omega
  · rw [sec_of (hread5 _ (by omega)), sec_eq hanch]
  · show (ws.length : Int) = ((streamF ((N + 1 : Nat) : Int) 0 (V.stored ++ fs)).length : Int)
    rw [hws]
  · show (partW (absD D5) (2 + r * a) a).take (streamF ((N + 1 : Nat) : Int) 0 (V.stored ++ fs)).length = streamF ((N + 1 : Nat) : Int) 0 (V.stored ++ fs)
    rw [hws]
    refine part_take (abs_isS l2) (by rw [(abs_len l2).2.1]; omega) (by omega) fun i hi => ?_
    have hi2 : i < a := by unfold cnt8 at hi; omega
    rw [hread5 _ (by omega), hread _ (by omega), if_pos (by omega), show 2 + r * a + i - (2 + r * a) = i by omega]
end

theorem new_vault {n a : Nat} (a1 : 1 ≤ a) (hfit : 2 + 2 * a < n) (hn : n ≤ 4096) : ∃ D V D', m_8 (n : Int) = some D ∧ m_24 D (a : Int) = some (V, 0, D') ∧ VOk V D' n a 0 [] ∧ V.stored = [] ∧ Good D n ∧ absD D = ⟨List.replicate n Z8, List.replicate n Z8, List.replicate n false⟩ := by
  obtain ⟨D, h1, h2, h3⟩ := new_eq (n := n) (by omega) hn
  have hs : ∀ i, i < n → sec (absD D) i = Z8 := fun i hi => by
    refine sec_eq ?_
    rw [h3]
    simp [hi]
  have hc : ∀ i, cand i Z8 = none := fun i => by unfold cand; rw [getA_Z8]; rfl
  obtain ⟨L, D', g1, g2, g3, g4, g5⟩ := open_24 h2 a1 hfit (at_ := ⟨0, 0, 0, 0⟩) (st := []) rfl (.inl ⟨by rw [hs 0 (by omega), hs 1 (by omega)]; unfold findA; rw [hc, hc], rfl, rfl⟩)
  have hz : allF 0 0 (partW (absD D) (2 + 2 * a) (n - (2 + 2 * a))) = ([], 0) := by
    rw [zeros_part h2 (by rw [h3]) _ _ (by omega)]
    exact zeros_all
  have hz2 : allF (⟨0, 0, 0, 0⟩ : Anchor).Epoch 0 (partW (absD D) (2 + 2 * a) (n - (2 + 2 * a))) = ([], 0) := hz
  rw [hz2] at g3 g4 g5
  refine ⟨D, _, D', h1, g1, ?_, rfl, h2, h3⟩
  have hr : ∀ p, p < 2 + 2 * a → (absD D').Read[p]? = (absD D).Read[p]? := fun p hp => by
    rw [g4, clX_read _ _ _ _ (by rw [(abs_len h2).2.1]; omega), if_neg (by omega)]
  refine ⟨g2, a1, hfit, rfl, by decide, rfl, rfl, g5, (fun F hF => by cases hF), (fun F hF => by cases hF), (by simp [streamF]), ?_, ?_, fun _ => ⟨rfl, rfl⟩, by omega⟩
  · intro b hb
    rw [sec_of (hr 0 (by omega)), hs 0 (by omega), hc] at hb; cases hb
  · intro b hb
    rw [sec_of (hr 1 (by omega)), hs 1 (by omega), hc] at hb; cases hb

theorem VOk.room {V : VaultM} {D : Disk} {n a N : Nat} {fs : List Frame} (h : VOk V D n a N fs) : m_28 V = some ((8 * (n - (2 + 2 * a)) - (streamF (N : Int) 0 fs).length : Nat) : Int) := by
  have := h.good.small
  unfold m_28
  rw [h.log.room (by omega)]; rfl
theorem alive_22 : m_23 = some true := by
  obtain ⟨D, V, D1, h1, h2, h3, h4, _, _⟩ := new_vault (n := 5) (a := 1) (by decide) (by decide) (by decide)
  unfold m_23
  have h1 : m_8 5 = some D := h1
  have h2 : m_24 D 1 = some (V, 0, D1) := h2
  rw [h1]
  simp only [ob_s, h2]
  rw [show ((0 : Int) == 0) = true from rfl, h3.room]
  simp only [cond_true, ob_s]
  rw [show (((8 * (5 - (2 + 2 * 1)) - (streamF ((0 : Nat) : Int) 0 []).length : Nat) : Int) == 8) = true from rfl]
  simp only [cond_true]
  -- the frame
  have ha := append_eq h3.good h3.log (by decide) h3.num (F := ⟨1, []⟩) (by decide) (fun x hx => by cases hx)
  rw [if_pos (by decide)] at ha
  obtain ⟨L2, D2, g1, g2, g3, g4⟩ := ha
  have hV2 := h3.moved g2 (fun p hp => by
    have hlen := g3.len
    have e0 : (streamF ((0 : Nat) : Int) 0 ([] : List Frame)).length = 0 := rfl
    rw [g4, wsX_read _ _ _ _ _ _ (by rw [(abs_len h3.good).2.1]; omega), if_neg (by omega)]) g3
  have h27 : m_27 V D1 ⟨1, []⟩ = some (0, ⟨V.area, V.at_, V.stored, L2⟩, D2) := by
    unfold m_27
    rw [g1]; rfl
  rw [h27]
  simp only [ob_s]
  rw [show ((0 : Int) == 0) = true from rfl]
  simp only [cond_true]
  have hck := hV2.check (by decide)
  rw [if_neg (by rw [h4]; simp [streamF, putF])] at hck
  obtain ⟨V3, D3, k1, k2, k3⟩ := hck
  rw [k1]
  simp only [ob_s]
  rw [show ((0 : Int) == 0) = true from rfl, k2.room]
  simp only [cond_true, ob_s]
  rw [show (((8 * (5 - (2 + 2 * 1)) - (streamF ((0 + 1 : Nat) : Int) 0 []).length : Nat) : Int) == 8) = true from rfl]
  simp only [cond_true, m_30, ob_s, k3, h4]
  rfl

def opW (q : OpV) : Prop := (Lit.int .u8 q.Kind).wf = true ∧ frameW q.F ∧ (q.Keep.length ≤ maxLen ∧ ∀ b ∈ q.Keep, True) ∧ (Lit.int .i64 q.I).wf = true ∧ q.S.length = 8 ∧ ∀ x ∈ q.S, (Lit.int .u64 x).wf = true
theorem again6_loop {x2 : List OpV} (hw : ∀ q ∈ x2, opW q) {n a : Nat} : ∀ (d i : Nat) (D : Disk) (V : VaultM) (N : Nat) (fs : List Frame), min x2.length 30 - i = d → i ≤ 30 → N ≤ i → VOk V D n a N fs →
    ∃ r, loopO (m_6_1b x2) (false, (i : Int), D, V) = some r ∧ (r = .inr true ∨ ∃ j D' V' N' fs', r = .inl (false, j, D', V') ∧ VOk V' D' n a N' fs') := by
  intro d
  induction d with
  | zero =>
    intro i D V N fs hd hi hN hV
    refine ⟨.inl (false, (i : Int), D, V), loopO_end ?_, .inr ⟨(i : Int), D, V, N, fs, rfl, hV⟩⟩
    dsimp only [m_6_1b]
    by_cases h1 : i < x2.length
    · rw [show decide ((i : Int) < (x2.length : Int)) = true by simp; omega, show decide ((i : Int) < 30) = false by simp; omega]; rfl
    · rw [show decide ((i : Int) < (x2.length : Int)) = false by simp; omega]; rfl
  | succ d ih =>
    intro i D V N fs hd hi hN hV
    have h1 : i < x2.length := by omega
    have e2 : IntKind.wrap .i64 ((i : Int) + 1) = ((i + 1 : Nat) : Int) := by rw [wi64 (by omega) (by omega)]; rfl
    obtain ⟨hk, hF, _⟩ := hw _ (List.getElem_mem h1)
    have hstart : ∀ z, m_6_1b x2 (false, (i : Int), D, V) = z → m_6_1b x2 (false, (i : Int), D, V) = z := fun _ h => h
    by_cases h4 : x2[i].F.Words.length > 400
    · refine ⟨.inr true, loopO_end ?_, .inl rfl⟩
      dsimp only [m_6_1b]
      rw [show decide ((i : Int) < (x2.length : Int)) = true by simp; omega, show decide ((i : Int) < 30) = true by simp; omega]
      simp only [cond_true, ob_s]
      rw [gt_eq h1]
      simp only [ob_s]
      rw [show decide ((x2[i].F.Words.length : Int) > 400) = true by simp; omega]; rfl
    · cases h5 : (Int.tmod x2[i].Kind 8 == 5) with
      | true =>
        have hck := hV.check (by omega)
        have hgo : ∀ y V' D', m_26 V D = some (y, V', D') → m_25 V' = some (V.stored ++ fs) → loopO (m_6_1b x2) (false, (i : Int), D, V) = loopO (m_6_1b x2) (false, ((i + 1 : Nat) : Int), D', V') := by
          intro y V' D' g1 g2
          refine loopO_next ?_
          dsimp only [m_6_1b]
          rw [show decide ((i : Int) < (x2.length : Int)) = true by simp; omega, show decide ((i : Int) < 30) = true by simp; omega]
          simp only [cond_true, ob_s]
          rw [gt_eq h1]
          simp only [ob_s]
          rw [show decide ((x2[i].F.Words.length : Int) > 400) = false by simp; omega]
          simp only [cond_false, hV.frames, ob_s, h5, cond_true, g1, g2, hV.same, Bool.not_true, e2]
        split at hck
        · rw [hgo _ _ _ hck hV.frames]
          exact ih (i + 1) D V N fs (by omega) (by omega) (by omega) hV
        · obtain ⟨V', D', g1, g2, g3⟩ := hck
          have hfr := g2.frames
          rw [g3, List.append_nil] at hfr
          rw [hgo _ _ _ g1 hfr]
          exact ih (i + 1) D' V' (N + 1) [] (by omega) (by omega) (by omega) g2
      | false =>
        obtain ⟨y, V', D', more, g1, g2, g3, g4⟩ := hV.append (F := x2[i].F) (fun x hx => isW_wf (hF.2.2 x hx))
        have hfr := g2.frames
        have hsame := g2.same
        rw [g3] at hfr hsame
        have hbe : (bif y == 0 then (ob (gt x2 (i : Int)) fun x16 => ob (ap (V.stored ++ fs) [x16.F]) fun x17 => some x17) else (some (V.stored ++ fs))) = some (V.stored ++ (fs ++ more)) := by
          rw [g4]
          by_cases hy : y = 0
          · have hs := hV.small
            have c1 := stream_count (N : Int) 0 V.stored
            have c2 := stream_count (N : Int) 0 fs
            rw [show (y == 0) = true by simp [hy], if_pos hy, gt_eq h1]
            simp only [cond_true, ob_s]
            rw [ap_eq (by rw [List.length_append]; simp; omega), List.append_assoc]; rfl
          · rw [show (y == 0) = false by simp [hy], if_neg hy, List.append_nil]; rfl
        have hgo : loopO (m_6_1b x2) (false, (i : Int), D, V) = loopO (m_6_1b x2) (false, ((i + 1 : Nat) : Int), D', V') := by
          refine loopO_next ?_
          dsimp only [m_6_1b]
          rw [show decide ((i : Int) < (x2.length : Int)) = true by simp; omega, show decide ((i : Int) < 30) = true by simp; omega]
          simp only [cond_true, ob_s]
          rw [gt_eq h1]
          simp only [ob_s]
          rw [show decide ((x2[i].F.Words.length : Int) > 400) = false by simp; omega]
          simp only [cond_false, hV.frames, ob_s, h5, g1]
          rw [gt_eq h1] at hbe
          simp only [ob_s] at hbe
          rw [hbe]
          simp only [ob_s, m_6_2k, hfr, hsame, Bool.not_true, cond_false, e2]
        rw [hgo]
        exact ih (i + 1) D' V' N (fs ++ more) (by omega) (by omega) (by omega) g2

theorem p_6 (x0 x1 : Int) (x2 : List OpV) (w0 : (Lit.int .u8 x0).wf = true) (w1 : (Lit.int .u8 x1).wf = true) (w2 : x2.length ≤ maxLen ∧ ∀ q ∈ x2, opW q) : m_6 x0 x1 x2 = some true := by
  obtain ⟨a0, a255⟩ := wf_u8 w0
  obtain ⟨b0, b255⟩ := wf_u8 w1
  obtain ⟨a, ha1, ha6, ha⟩ : ∃ a : Nat, 1 ≤ a ∧ a ≤ 6 ∧ IntKind.wrap .i64 (IntKind.wrap .i64 (Int.tmod x1 6) + 1) = (a : Int) := by
    refine ⟨(x1 % 6).toNat + 1, by omega, by omega, ?_⟩
    rw [Int.tmod_eq_emod_of_nonneg b0, wi64 (x := x1 % 6) (by omega) (by omega), wi64 (by omega) (by omega)]
    omega
  obtain ⟨n, hn1, hn2, hn⟩ : ∃ n : Nat, 2 + 2 * a < n ∧ n ≤ 30 ∧ IntKind.wrap .i64 (IntKind.wrap .i64 (3 + IntKind.wrap .i64 (2 * (a : Int))) + IntKind.wrap .i64 (Int.tmod x0 12)) = (n : Int) := by
    refine ⟨3 + 2 * a + (x0 % 12).toNat, by omega, by omega, ?_⟩
    rw [Int.tmod_eq_emod_of_nonneg a0, wi64 (x := x0 % 12) (by omega) (by omega), wi64 (x := 2 * (a : Int)) (by omega) (by omega), wi64 (x := 3 + 2 * (a : Int)) (by omega) (by omega), wi64 (by omega) (by omega)]
    omega
  unfold m_6
  rw [alive_22]
  simp only [ob_s, Bool.not_true, cond_false]
  rw [ha, hn]
  obtain ⟨D, V, D1, h1, h2, h3, _, _, _⟩ := new_vault (n := n) (a := a) ha1 hn1 (by omega)
  rw [h1]
  simp only [ob_s]
  rw [h2]
  simp only [ob_s]
  rw [show ((0 : Int) != 0) = false from rfl]
  simp only [cond_false]
  obtain ⟨r, hr, hcase⟩ := again6_loop w2.2 (min x2.length 30) 0 D1 V 0 [] (by omega) (by omega) (by omega) h3
  have hr : loopO (m_6_1b x2) (false, 0, D1, V) = some r := hr
  rw [hr]
  simp only [ob_s]
  rcases hcase with rfl | ⟨j, D2, V2, N, fs, rfl, hV⟩
  · rfl
  dsimp only [m_6_1k]
  rw [ha]
  obtain ⟨D3, k1, k2, k3⟩ := hV.reopen
  rw [k1]
  simp only [ob_s]
  rw [show ((0 : Int) == 0) = true from rfl]
  simp only [cond_true, hV.frames, ob_s, hV.same, hV.room]
  have h62 : m_29 V2 = some (N : Int) := by
    unfold m_29
    have : m_62 V2.log = some (V2.log.epoch) := rfl
    rw [this, hV.log.eq]; rfl
  rw [h62]
  simp [m_30]
end Go.Proofs.Ytdkfdmalbbfbmaa

/- What a vault is asked, as an argument. -/
namespace Go.Proofs.Ytdkfdmalbbfbmaa
open Go Go.ChangeShapes Go.WideShapes Go.ChangeAt Go.RowKit
variable {P : Program} {t e : TypeId}

theorem Dec.op {T0 T1 T2 T3 T4 Te : TypeId} {f0 f1 f2 f3 f4 : Field} (he : P.underlying e = some (.struct #[f0, f1, f2, f3, f4])) (hc : P.cellsOf e = 13)
    (o0 : f0.offset = 0) (o1 : f1.offset = 1) (o2 : f2.offset = 3) (o3 : f3.offset = 4) (o4 : f4.offset = 5) (t0 : f0.type = T0) (t1 : f1.type = T1) (t2 : f2.type = T2) (t3 : f3.type = T3) (t4 : f4.type = T4)
    (D0 : Dec P (kInt .u8) T0 (fun n => (Lit.int .u8 n).wf = true)) (D1 : Dec P kFr T1 frameW) (D2 : Dec P (kSl kBool) T2 (fun xs => xs.length ≤ maxLen ∧ ∀ b ∈ xs, True)) (D3 : Dec P (kInt .i64) T3 (fun n => (Lit.int .i64 n).wf = true))
    (h4 : P.underlying T4 = some (.array 8 Te)) (c4 : P.cellsOf T4 = 8) (De : Dec P (kInt .u64) Te (fun n => (Lit.int .u64 n).wf = true)) :
    Dec P kOpV e opW := by
  refine ⟨hc, fun enc w fuel cs x h => ?_⟩
  obtain ⟨xs, n, _, _, hl, hxl, hf⟩ := DataW.trod_struct he h
  rw [hc] at hl
  obtain ⟨c0, c1, c2, c3, c4', c5, c6, c7, c8, c9, c10, c11, c12, rfl⟩ : ∃ c0 c1 c2 c3 c4 c5 c6 c7 c8 c9 c10 c11 c12, cs = [c0, c1, c2, c3, c4, c5, c6, c7, c8, c9, c10, c11, c12] := by
    match cs, hl with
    | [c0, c1, c2, c3, c4, c5, c6, c7, c8, c9, c10, c11, c12], _ => exact ⟨_, _, _, _, _, _, _, _, _, _, _, _, _, rfl⟩
  have gx : ∀ i, i < 5 → ∃ y, xs[i]? = some y := fun i hi => ⟨_, List.getElem?_eq_getElem (by rw [hxl]; exact hi)⟩
  have g0 := hf 0 f0 rfl
  have g1 := hf 1 f1 rfl
  have g2 := hf 2 f2 rfl
  have g3 := hf 3 f3 rfl
  have g4 := hf 4 f4 rfl
  rw [t0, o0, D0.1] at g0
  rw [t1, o1, D1.1] at g1
  rw [t2, o2, D2.1] at g2
  rw [t3, o3, D3.1] at g3
  rw [t4, o4, c4] at g4
  obtain ⟨y0, hy0⟩ := gx 0 (by decide)
  obtain ⟨y1, hy1⟩ := gx 1 (by decide)
  obtain ⟨y2, hy2⟩ := gx 2 (by decide)
  obtain ⟨y3, hy3⟩ := gx 3 (by decide)
  obtain ⟨y4, hy4⟩ := gx 4 (by decide)
  rw [hy0] at g0
  rw [hy1] at g1
  rw [hy2] at g2
  rw [hy3] at g3
  rw [hy4] at g4
  obtain ⟨k, hk1, hk2⟩ := D0.2 enc w n _ _ g0
  obtain ⟨F, ⟨v1, hv1, hs1⟩, hF⟩ := D1.2 enc w n _ _ g1
  obtain ⟨Kp, ⟨v2, hv2, hs2⟩, hK⟩ := D2.2 enc w n _ _ g2
  obtain ⟨I, hI1, hI2⟩ := D3.2 enc w n _ _ g3
  obtain ⟨zs, m, _, _, _, hzl, hz⟩ := DataW.trod_array h4 g4
  have ge : ∀ i, i < 8 → ∃ z : Int, ((([c0, c1, c2, c3, c4', c5, c6, c7, c8, c9, c10, c11, c12].drop 5).take 8).drop i).take 1 = [.int .u64 z] ∧ (Lit.int .u64 z).wf = true := fun i hi => by
    have := hz i hi
    rw [De.1] at this
    obtain ⟨y, hy⟩ : ∃ y, zs[i]? = some y := ⟨_, List.getElem?_eq_getElem (by rw [hzl]; exact hi)⟩
    rw [hy] at this
    obtain ⟨z, hz1, hz2⟩ := De.2 enc w m _ _ this
    refine ⟨z, ?_, hz2⟩
    have hz1 : (((([c0, c1, c2, c3, c4', c5, c6, c7, c8, c9, c10, c11, c12].drop 5).take 8).drop (i * 1)).take 1) = [.int .u64 z] := hz1
    rwa [Nat.mul_one] at hz1
  obtain ⟨z0, e0, b0⟩ := ge 0 (by decide)
  obtain ⟨z1, e1, b1⟩ := ge 1 (by decide)
  obtain ⟨z2, e2, b2⟩ := ge 2 (by decide)
  obtain ⟨z3, e3, b3⟩ := ge 3 (by decide)
  obtain ⟨z4, e4, b4⟩ := ge 4 (by decide)
  obtain ⟨z5, e5, b5⟩ := ge 5 (by decide)
  obtain ⟨z6, e6, b6⟩ := ge 6 (by decide)
  obtain ⟨z7, e7, b7⟩ := ge 7 (by decide)
  have hk1' : [c0] = [.int .u8 k] := hk1
  have hv1' : [c1, c2] = [.int .i64 F.Kind, v1] := hv1
  have hv2' : [c3] = [v2] := hv2
  have hI1' : [c4'] = [.int .i64 I] := hI1
  have e0' : [c5] = [.int .u64 z0] := e0
  have e1' : [c6] = [.int .u64 z1] := e1
  have e2' : [c7] = [.int .u64 z2] := e2
  have e3' : [c8] = [.int .u64 z3] := e3
  have e4' : [c9] = [.int .u64 z4] := e4
  have e5' : [c10] = [.int .u64 z5] := e5
  have e6' : [c11] = [.int .u64 z6] := e6
  have e7' : [c12] = [.int .u64 z7] := e7
  simp only [List.cons.injEq, and_true] at hk1' hv1' hv2' hI1' e0' e1' e2' e3' e4' e5' e6' e7'
  obtain ⟨rfl, rfl⟩ := hv1'
  subst hk1'; subst hv2'; subst hI1'; subst e0'; subst e1'; subst e2'; subst e3'; subst e4'; subst e5'; subst e6'; subst e7'
  refine ⟨⟨k, F, Kp, I, [z0, z1, z2, z3, z4, z5, z6, z7]⟩, ⟨_, _, rfl, rfl, hs1, hs2⟩, hk2, hF, hK, hI2, rfl, fun x hx => ?_⟩
  simp only [List.mem_cons, List.not_mem_nil, or_false] at hx
  rcases hx with rfl | rfl | rfl | rfl | rfl | rfl | rfl | rfl
  · exact b0
  · exact b1
  · exact b2
  · exact b3
  · exact b4
  · exact b5
  · exact b6
  · exact b7
theorem dec_op : Dec Try.prog kOpV 63 opW :=
  Dec.op Try.underlying63 (by kernel_rfl) rfl rfl rfl rfl rfl rfl rfl rfl rfl rfl (Dec.int Try.underlying5 (by kernel_rfl)) (Dec.fr Try.underlying32 (by kernel_rfl) rfl rfl rfl rfl Try.underlying3 (by kernel_rfl) Try.underlying30 (by kernel_rfl) Try.underlying37 (by kernel_rfl)) (Dec.sl (Dec.bool Try.underlying4 (by kernel_rfl)) (by decide) Try.underlying44 (by kernel_rfl)) (Dec.int Try.underlying3 (by kernel_rfl)) Try.underlying38 (by kernel_rfl) (Dec.int Try.underlying37 (by kernel_rfl))
end Go.Proofs.Ytdkfdmalbbfbmaa
