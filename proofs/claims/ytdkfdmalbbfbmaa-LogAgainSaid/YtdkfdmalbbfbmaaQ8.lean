/- The plain law of LogAgain. -/
import Derived.Test.YtdkfdmalbbfbmaaQ7
namespace Go.Proofs.Ytdkfdmalbbfbmaa
open Go
set_option maxRecDepth 4000

theorem LogOk.frames {f k : Nat} {e : Int} {fs : List Frame} {L : LogM} {X : RDisk} (h : LogOk f k e fs L X) (hk : 8 * k < 4294967295) : m_12 L = some fs := by
  have hc := stream_count e 0 fs
  have hl := h.len
  have := frames_12 (L := L) (by rw [h.eq]; show fs.length < _; omega) (by
    rw [h.eq]
    intro F hF
    have := (may_iff.1 (h.may F hF)).2.2
    omega)
  rw [this, h.eq]
theorem LogOk.room {f k : Nat} {e : Int} {fs : List Frame} {L : LogM} {X : RDisk} (h : LogOk f k e fs L X) (hk : 8 * k < 4294967295) : mq_13 L = some ((8 * k - (streamF e 0 fs).length : Nat) : Int) := by
  have hl := h.len
  unfold mq_13
  rw [h.eq]
  unfold Go.Proofs.Ytdkfdmalbbfbmaa.room
  simp only
  rw [wi64 (x := (k : Int) * 8) (by omega) (by omega), wi64 (by omega) (by omega)]
  congr 1
  omega
theorem same_refl {f k : Nat} {e : Int} {fs : List Frame} {L : LogM} {X : RDisk} (h : LogOk f k e fs L X) (hk : 8 * k < 4294967295) : m_11 fs fs = some true := by
  have hc := stream_count e 0 fs
  have hl := h.len
  rw [same_11 (by omega) (fun F hF => by have := (may_iff.1 (h.may F hF)).2.2; omega)]
  simp
/-- A new device has no frames. -/
theorem zeros_part {D : Disk} {n : Nat} (h : Good D n) (hr : (absD D).Read = List.replicate n Z8) (f k : Nat) (hfk : f + k ≤ n) : partW (absD D) f k = List.replicate (8 * k) 0 := by
  have := part_of (f := f) (k := k) (ws := []) (abs_isS h) (by rw [(abs_len h).2.1]; exact hfk) (by simp) (fun i hi => by
    rw [hr, List.getElem?_replicate, if_pos (by omega), sec_far (by simp)])
  simpa using this
theorem zeros_all {e : Int} {n m : Nat} : allF e n (List.replicate m 0) = ([], 0) := allF_none (getF_zeros m)

theorem alive_8 : m_7 = some true := by
  unfold m_7
  obtain ⟨D, h1, h2, h3⟩ := new_eq (n := 1) (by decide) (by decide)
  have h1 : m_8 1 = some D := h1
  rw [h1]
  simp only [ob_s]
  obtain ⟨D1, g1, g2, g3, g4⟩ := open_eq h2 (f := 0) (k := 1) (e := 0) (by decide) (by decide) rfl
  have hz : allF 0 0 (partW (absD D) 0 1) = ([], 0) := by
    rw [zeros_part h2 (by rw [h3]) 0 1 (by decide)]
    exact zeros_all
  rw [hz] at g1 g3 g4
  have g1 : m_9 D 0 1 0 = some (⟨0, 1, 0, [], []⟩, 0, D1) := g1
  rw [g1]
  simp only [ob_s]
  have a1 := append_eq g2 g4 (by decide) rfl (F := ⟨1, List.replicate (Int.toNat 7) 0⟩) (by decide) (fun x hx => by have := List.eq_of_mem_replicate hx; subst this; exact ⟨by decide, by decide⟩)
  rw [if_pos (by decide)] at a1
  obtain ⟨L2, D2, k1, k2, k3, _⟩ := a1
  have k1 : mq_10 ⟨0, 1, 0, [], []⟩ D1 ⟨1, List.replicate (Int.toNat 7) 0⟩ = some (0, L2, D2) := k1
  rw [k1]
  simp only [ob_s]
  have hlen : (streamF 0 0 [⟨1, List.replicate (Int.toNat 7) 0⟩]).length = 8 := by simp [streamF, putF]
  have a2 := append_eq k2 k3 (by decide) rfl (F := ⟨1, []⟩) (by decide) (fun x hx => by cases hx)
  rw [if_neg (by simp only [List.nil_append, hlen]; decide)] at a2
  rw [a2]
  have r1 : mq_31 L2 = some 8 := by
    unfold mq_31
    rw [k3.eq]
    simp only [List.nil_append, hlen]; rfl
  have r2 : mq_13 L2 = some 0 := by
    rw [k3.room (by decide)]
    simp only [List.nil_append, hlen]; rfl
  simp only [ob_s, r1, r2]
  rfl

theorem n30 {x0 : Int} (h0 : 0 ≤ x0) (h1 : x0 ≤ 255) : ∃ N : Nat, 1 ≤ N ∧ N ≤ 30 ∧ IntKind.wrap .i64 (IntKind.wrap .i64 (Int.tmod x0 30) + 1) = (N : Int) := by
  refine ⟨(x0 % 30).toNat + 1, by omega, by omega, ?_⟩
  rw [Int.tmod_eq_emod_of_nonneg h0, wi64 (x := x0 % 30) (by omega) (by omega), wi64 (by omega) (by omega)]
  omega

def frameW (F : Frame) : Prop := (Lit.int .i64 F.Kind).wf = true ∧ F.Words.length ≤ maxLen ∧ ∀ x ∈ F.Words, (Lit.int .u64 x).wf = true
theorem isW_wf {x : Int} (h : (Lit.int .u64 x).wf = true) : isW x := by
  simp only [Lit.wf, Bool.and_eq_true, decide_eq_true_eq, IntKind.min, IntKind.max, IntKind.signed, IntKind.bits] at h
  obtain ⟨h0, h1⟩ := h
  simp at h0 h1
  exact ⟨h0, by omega⟩
theorem wf_u8 {x : Int} (h : (Lit.int .u8 x).wf = true) : 0 ≤ x ∧ x ≤ 255 := by
  simp only [Lit.wf, Bool.and_eq_true, decide_eq_true_eq, IntKind.min, IntKind.max, IntKind.signed, IntKind.bits] at h
  obtain ⟨h0, h1⟩ := h
  simp at h0 h1
  exact ⟨h0, by omega⟩

theorem again_loop {x1 : List Frame} (hw : ∀ F ∈ x1, frameW F) (hl : x1.length ≤ 30) {N : Nat} (hN : N ≤ 30) : ∀ (d i : Nat) (D : Disk) (L : LogM) (fs : List Frame), x1.length - i = d → Good D N → LogOk 0 N 5 fs L (absD D) →
    ∃ r, loopO (m_3_1b x1) (false, (i : Int), D, L) = some r ∧ (r = .inr true ∨ ∃ j D' L' fs', r = .inl (false, j, D', L') ∧ Good D' N ∧ LogOk 0 N 5 fs' L' (absD D')) := by
  intro d
  induction d with
  | zero =>
    intro i D L fs hd hg hL
    refine ⟨.inl (false, (i : Int), D, L), loopO_end ?_, .inr ⟨(i : Int), D, L, fs, rfl, hg, hL⟩⟩
    dsimp only [m_3_1b]
    rw [show decide ((i : Int) < (x1.length : Int)) = false by simp; omega]; rfl
  | succ d ih =>
    intro i D L fs hd hg hL
    have hi : i < x1.length := by omega
    have h1 : decide ((i : Int) < (x1.length : Int)) = true := by simp; omega
    have e2 : IntKind.wrap .i64 ((i : Int) + 1) = ((i + 1 : Nat) : Int) := by rw [wi64 (by omega) (by omega)]; rfl
    by_cases h4 : x1[i].Words.length > 400
    · refine ⟨.inr true, loopO_end ?_, .inl rfl⟩
      dsimp only [m_3_1b]
      rw [h1, gt_eq hi]
      simp only [cond_true, ob_s]
      rw [show decide ((x1[i].Words.length : Int) > 400) = true by simp; omega]; rfl
    · have hstep : ∀ {y L' D'}, mq_10 L D x1[i] = some (y, L', D') → loopO (m_3_1b x1) (false, (i : Int), D, L) = loopO (m_3_1b x1) (false, ((i + 1 : Nat) : Int), D', L') := by
        intro y L' D' h
        refine loopO_next ?_
        dsimp only [m_3_1b]
        rw [h1, gt_eq hi]
        simp only [cond_true, ob_s]
        rw [show decide ((x1[i].Words.length : Int) > 400) = false by simp; omega]
        simp only [cond_false, h, ob_s, e2]
      have hF := hw _ (List.getElem_mem hi)
      cases hm : may x1[i] with
      | false =>
        rw [hstep (append_bad hm)]
        exact ih (i + 1) D L fs (by omega) hg hL
      | true =>
        have ha := append_eq hg hL (by omega) rfl hm (fun x hx => isW_wf (hF.2.2 x hx))
        split at ha
        · obtain ⟨L', D', g1, g2, g3, _⟩ := ha
          rw [hstep g1]
          exact ih (i + 1) D' L' _ (by omega) g2 g3
        · rw [hstep ha]
          exact ih (i + 1) D L fs (by omega) hg hL

theorem sec_loop {y : List Int} (h8 : y.length = 8) {out : List Int} (hl : out.length < 4294967000) : loopO (m_3_3b y) (out, 0) = some (out ++ y, 8) := by
  have := loopO_count (f := m_3_3b y) (fun i => (out ++ y.take i, (i : Int))) 8 (r := (out ++ y, 8)) (fun i hi => by
    have h1 : decide ((i : Int) < 8) = true := by simp; omega
    have h0 : decide (0 ≤ (i : Int)) = true := by simp
    have e2 : IntKind.wrap .i64 ((i : Int) + 1) = ((i + 1 : Nat) : Int) := by rw [wi64 (by omega) (by omega)]; rfl
    dsimp only [m_3_3b]
    rw [h1, h0, gt_eq (show i < y.length by omega)]
    simp only [cond_true, ob_s, Bool.and_self, gd_t]
    rw [ap_eq (by simp; omega)]
    simp only [ob_s, e2]
    rw [List.take_succ_eq_append_getElem (show i < y.length by omega), List.append_assoc]) (by
    dsimp only [m_3_3b]
    rw [List.take_of_length_le (by omega)]; rfl)
  simpa using this
theorem words_loop {x0 : Int} {D : Disk} {N : Nat} (h : Good D N) (hN : IntKind.wrap .i64 (IntKind.wrap .i64 (Int.tmod x0 30) + 1) = (N : Int)) (h30 : N ≤ 30) : ∃ z, loopO (m_3_2b x0 D) ([], 0) = some (partW (absD D) 0 N, z) := by
  have hs := abs_isS h
  have hrl := (abs_len h).2.1
  refine ⟨(N : Int), ?_⟩
  have := loopO_count (f := m_3_2b x0 D) (fun i => (((absD D).Read.take i).flatten, (i : Int))) N (r := (partW (absD D) 0 N, (N : Int))) (fun i hi => by
    have h1 : decide ((i : Int) < (N : Int)) = true := by simp; omega
    have e2 : IntKind.wrap .i64 ((i : Int) + 1) = ((i + 1 : Nat) : Int) := by rw [wi64 (by omega) (by omega)]; rfl
    have hl : ((absD D).Read.take i).flatten.length = 8 * i := by
      rw [words_len (fun s hh => hs s (List.mem_of_mem_take hh)), List.length_take]; omega
    dsimp only [m_3_2b]
    rw [hN, h1, read_eq h hi]
    simp only [cond_true, ob_s]
    rw [sec_loop (rd_isS h hi).1 (by omega)]
    simp only [ob_s, m_3_3k, e2]
    have hg : (absD D).Read[i]'(by omega) = rdD D (i : Int) := by
      have := abs_read h hi
      rw [List.getElem?_eq_getElem (by omega)] at this
      exact Option.some.inj this
    rw [List.take_succ_eq_append_getElem (show i < (absD D).Read.length by omega), hg]
    simp) (by
    dsimp only [m_3_2b]
    rw [hN, show decide ((N : Int) < (N : Int)) = false by simp]
    unfold partW
    simp)
  exact this

theorem p_3 (x0 : Int) (x1 : List Frame) (w0 : (Lit.int .u8 x0).wf = true) (w1 : x1.length ≤ maxLen ∧ ∀ F ∈ x1, frameW F) : m_3 x0 x1 = some true := by
  obtain ⟨h0, h255⟩ := wf_u8 w0
  obtain ⟨N, hN1, hN2, hN⟩ := n30 h0 h255
  unfold m_3
  rw [alive_8]
  simp only [ob_s, Bool.not_true, cond_false]
  by_cases hl : x1.length > 30
  · rw [show decide ((x1.length : Int) > 30) = true by simp; omega]; rfl
  rw [show decide ((x1.length : Int) > 30) = false by simp; omega]
  simp only [cond_false, hN]
  obtain ⟨D, h1, h2, h3⟩ := new_eq (n := N) hN1 (by omega)
  rw [h1]
  simp only [ob_s]
  obtain ⟨D1, g1, g2, g3, g4⟩ := open_eq h2 (f := 0) (k := N) (e := 5) hN1 (by omega) rfl
  have g1 : m_9 D 0 (N : Int) 5 = some (_, 0, D1) := g1
  rw [g1]
  simp only [ob_s]
  rw [show ((0 : Int) != 0) = false from rfl]
  simp only [cond_false]
  obtain ⟨r, hr, hcase⟩ := again_loop w1.2 (by omega) hN2 x1.length 0 D1 _ _ (by omega) g2 g4
  have hr : loopO (m_3_1b x1) (false, 0, D1, _) = some r := hr
  rw [hr]
  simp only [ob_s]
  rcases hcase with rfl | ⟨j, D2, L2, fs, rfl, k1, k2⟩
  · rfl
  dsimp only [m_3_1k]
  rw [hN]
  have hall : allF 5 0 (partW (absD D2) 0 N) = (fs, (streamF 5 0 fs).length) := log_all k2 (abs_isS k1) (by rw [(abs_len k1).2.1]; omega) rfl (by omega)
  obtain ⟨D3, a1, a2, a3, a4⟩ := open_eq k1 (f := 0) (k := N) (e := 5) hN1 (by omega) rfl
  rw [hall] at a1 a4
  have a1 : m_9 D2 0 (N : Int) 5 = some (⟨((0 : Nat) : Int), (N : Int), 5, streamF 5 0 fs, fs⟩, 0, D3) := a1
  rw [a1]
  simp only [ob_s]
  obtain ⟨D4, b1, b2, b3, b4⟩ := open_eq a2 (f := 0) (k := N) (e := 6) hN1 (by omega) rfl
  generalize hgs : (allF 6 0 (partW (absD D3) 0 N)).1 = gs at b1 b4
  have b1 : m_9 D3 0 (N : Int) 6 = some (⟨((0 : Nat) : Int), (N : Int), 6, streamF 6 0 gs, gs⟩, 0, D4) := b1
  rw [b1]
  simp only [ob_s]
  rw [show ((0 : Int) != 0) = false from rfl]
  simp only [cond_false, k2.frames (show 8 * N < _ by omega), a4.frames (show 8 * N < _ by omega), ob_s, same_refl k2 (show 8 * N < _ by omega), Bool.not_true, k2.room (show 8 * N < _ by omega), a4.room (show 8 * N < _ by omega)]
  rw [show (((8 * N - (streamF 5 0 fs).length : Nat) : Int) != ((8 * N - (streamF 5 0 fs).length : Nat) : Int)) = false by simp]
  simp only [cond_false]
  obtain ⟨z, hz⟩ := words_loop (x0 := x0) b2 hN hN2
  rw [hz]
  simp only [ob_s, m_3_2k]
  have hpl := part_len (X := absD D4) (f := 0) (k := N) (abs_isS b2) (by rw [(abs_len b2).2.1]; omega)
  rw [all_15 (part_isW (abs_isS b2)) (by omega), log_all b4 (abs_isS b2) (by rw [(abs_len b2).2.1]; omega) rfl (by omega)]
  simp only [ob_s, b4.frames (show 8 * N < _ by omega), same_refl b4 (show 8 * N < _ by omega)]
end Go.Proofs.Ytdkfdmalbbfbmaa
