/- Plain laws: the program's sums, by a table. -/
import Derived.Test.YtdkfdmalbbfbmaaQ1
namespace Go.Proofs.Ytdkfdmalbbfbmaa
open Go
set_option maxRecDepth 4000

theorem and1 (x : B32) : IntKind.wrap .u32 (BitVec.ofInt (IntKind.bits .u32) (x.toNat : Int) &&& BitVec.ofInt (IntKind.bits .u32) 1).toNat = (bif x.getLsbD 0 then 1 else 0 : Int) := by
  show IntKind.wrap .u32 ((BitVec.ofInt 32 (x.toNat : Int) &&& BitVec.ofInt 32 1).toNat : Int) = _
  rw [ofInt_nat]
  have : (x &&& BitVec.ofInt 32 1).toNat = if x.getLsbD 0 then 1 else 0 := by
    rw [BitVec.toNat_and]
    show x.toNat &&& 1 = _
    rw [Nat.and_one_is_mod]
    simp only [BitVec.getLsbD, Nat.testBit_zero]
    have : x.toNat % 2 = 0 ∨ x.toNat % 2 = 1 := by omega
    rcases this with h | h <;> simp [h]
  rw [this]
  cases x.getLsbD 0 <;> rfl
theorem tab_step (x : B32) (k : Nat) (tb : List Int) (hk : k < 8) : m_103_2b ((x.toNat : Int), (k : Int), tb) = some (.inl (((bstep x).toNat : Int), ((k + 1 : Nat) : Int), tb)) := by
  unfold m_103_2b
  have h1 : decide ((k : Int) < 8) = true := by simp; omega
  have hd : Int.fdiv (x.toNat : Int) (2 ^ min (Int.toNat 1) (IntKind.bits .u32)) = ((x >>> 1).toNat : Int) := by
    show Int.fdiv (x.toNat : Int) 2 = _
    rw [Int.fdiv_eq_ediv_of_nonneg _ (by decide)]
    exact half32 x
  have hi : IntKind.wrap .i64 ((k : Int) + 1) = ((k + 1 : Nat) : Int) := by rw [wi64 (by omega) (by omega)]; rfl
  simp only [h1, cond_true, hd, hi, and1]
  unfold bstep
  cases hx : x.getLsbD 0 with
  | true =>
    have := xor32 (x >>> 1) poly
    have e : ((poly.toNat : Nat) : Int) = 2197175160 := rfl
    rw [e] at this
    have e2 : IntKind.wrap .u32 (2197175160 * 1) = 2197175160 := by decide
    simp only [cond_true, e2, this]
  | false =>
    have := xor32 (x >>> 1) 0#32
    have e : (((0#32).toNat : Nat) : Int) = 0 := rfl
    rw [e] at this
    have e2 : IntKind.wrap .u32 (2197175160 * 0) = 0 := by decide
    simp only [cond_false, e2, this, BitVec.xor_zero]
theorem tab_byte (x : B32) (tb : List Int) : loopO m_103_2b ((x.toNat : Int), 0, tb) = some (((b8 x).toNat : Int), 8, tb) := by
  have := loopO_count (f := m_103_2b) (fun i => (((bsteps i x).toNat : Int), (i : Int), tb)) 8 (r := (((b8 x).toNat : Int), 8, tb)) (fun i hi => by
    show m_103_2b _ = _
    rw [tab_step _ _ _ hi, bsteps_succ]) (by unfold m_103_2b; rfl)
  exact this
def tabE (i : Nat) : Int := ((b8 (BitVec.ofNat 32 i)).toNat : Int)
def tabL : List Int := (List.range 256).map tabE
theorem tabL_get {i : Nat} (h : i < 256) : tabL[i]? = some (tabE i) := by
  have := List.getElem?_range (n := 256) (i := i) h
  show ((List.range 256).map tabE)[i]? = _
  rw [List.getElem?_map, this]; rfl
theorem tab_eq : m_103 = some tabL := by
  unfold m_103
  have key : loopO m_103_1b (0, List.replicate 256 (0 : Int)) = some (256, tabL) := by
    have := loopO_count (f := m_103_1b) (fun i => ((i : Int), (List.range i).map tabE ++ List.replicate (256 - i) (0 : Int))) 256 (r := (256, tabL)) (fun i hi => by
      have h1 : decide ((i : Int) < 256) = true := by simp; omega
      have hw : IntKind.wrap .u32 (i : Int) = ((BitVec.ofNat 32 i).toNat : Int) := by
        rw [wu32 (by omega) (by omega), BitVec.toNat_ofNat]
        omega
      have h0 : decide (0 ≤ (i : Int)) = true := by simp
      have hi2 : IntKind.wrap .i64 ((i : Int) + 1) = ((i + 1 : Nat) : Int) := by rw [wi64 (by omega) (by omega)]; rfl
      have hst : st ((List.range i).map tabE ++ List.replicate (256 - i) (0 : Int)) (i : Int) (tabE i) = some ((List.range (i + 1)).map tabE ++ List.replicate (256 - (i + 1)) (0 : Int)) := by
        unfold st
        have hb : (decide (0 ≤ (i : Int)) && decide ((i : Int) < (((List.range i).map tabE ++ List.replicate (256 - i) (0 : Int)).length : Int))) = true := by
          simp; omega
        rw [hb]
        simp only [cond_true, Option.some.injEq, Int.toNat_natCast]
        have e1 : 256 - i = (256 - (i + 1)) + 1 := by omega
        rw [e1, List.replicate_succ, List.set_append_right _ _ (by simp)]
        simp [List.range_succ]
      dsimp only [m_103_1b]
      rw [h1, hw]
      simp only [cond_true, tab_byte, ob_s, m_103_2k, h0, h1, Bool.true_and, gd_t, hi2]
      show ob (st _ _ (tabE i)) _ = _
      rw [hst]; rfl) (by
      have h1 : decide (((256 : Nat) : Int) < 256) = false := by decide
      dsimp only [m_103_1b]
      rw [h1]
      simp only [cond_false, Nat.sub_self, List.replicate_zero, List.append_nil]
      rfl)
    exact this
  rw [key]; rfl

theorem idx8 (x : B32) (c : Int) (hc : isB c) : IntKind.wrap .u8 (BitVec.ofInt (IntKind.bits .u8) (IntKind.wrap .u8 (x.toNat : Int)) ^^^ BitVec.ofInt (IntKind.bits .u8) c).toNat = ((((x ^^^ BitVec.ofInt 32 c).setWidth 8).toNat : Nat) : Int) := by
  show IntKind.wrap .u8 ((BitVec.ofInt 8 (IntKind.wrap .u8 (x.toNat : Int)) ^^^ BitVec.ofInt 8 c).toNat : Int) = _
  have e1 : BitVec.ofInt 8 (IntKind.wrap .u8 (x.toNat : Int)) = x.setWidth 8 := by
    apply BitVec.eq_of_toNat_eq
    rw [wu8, BitVec.toNat_ofInt, BitVec.toNat_setWidth]
    omega
  have e2 : BitVec.ofInt 8 c = (BitVec.ofInt 32 c).setWidth 8 := by
    obtain ⟨h0, h1⟩ := hc
    apply BitVec.eq_of_toNat_eq
    rw [BitVec.toNat_ofInt, BitVec.toNat_setWidth, BitVec.toNat_ofInt]
    omega
  rw [e1, e2, ← BitVec.setWidth_xor, wu8]
  have := ((x ^^^ BitVec.ofInt 32 c).setWidth 8).isLt
  omega
theorem hi_eq (x : B32) (c : Int) (hc : isB c) : (x ^^^ BitVec.ofInt 32 c) >>> 8 = x >>> 8 := by
  rw [BitVec.ushiftRight_xor_distrib]
  have : BitVec.ofInt 32 c >>> 8 = 0#32 := by
    obtain ⟨h0, h1⟩ := hc
    apply BitVec.eq_of_toNat_eq
    rw [BitVec.toNat_ushiftRight, BitVec.toNat_ofInt, Nat.shiftRight_eq_div_pow]
    simp
    omega
  rw [this, BitVec.xor_zero]
theorem c98_eq (x : B32) (c : Int) (hc : isB c) : c98 tabL (x.toNat : Int) c = some ((crcB x c).toNat : Int) := by
  unfold c98
  rw [idx8 x c hc]
  generalize hy : (x ^^^ BitVec.ofInt 32 c) = y
  have hlt := (y.setWidth 8).isLt
  have h1 : (decide (0 ≤ (((y.setWidth 8).toNat : Nat) : Int)) && decide ((((y.setWidth 8).toNat : Nat) : Int) < 256)) = true := by
    simp; omega
  rw [h1]
  simp only [gd_t, ob_s]
  have hg : gt tabL (((y.setWidth 8).toNat : Nat) : Int) = some (((b8 ((y.setWidth 8).setWidth 32)).toNat : Nat) : Int) := by
    apply gt_at
    rw [tabL_get (by omega)]
    unfold tabE
    have : BitVec.ofNat 32 (y.setWidth 8).toNat = (y.setWidth 8).setWidth 32 := by
      apply BitVec.eq_of_toNat_eq
      rw [BitVec.toNat_ofNat, BitVec.toNat_setWidth, BitVec.toNat_setWidth, BitVec.toNat_setWidth]
    rw [this]
  rw [hg]
  simp only [ob_s]
  have hd : Int.fdiv (x.toNat : Int) (2 ^ min (Int.toNat 8) (IntKind.bits .u32)) = ((x >>> 8).toNat : Int) := by
    show Int.fdiv (x.toNat : Int) 256 = _
    rw [Int.fdiv_eq_ediv_of_nonneg _ (by decide), BitVec.toNat_ushiftRight, Nat.shiftRight_eq_div_pow]
    omega
  rw [hd, xor32, ← hi_eq x c hc, hy, b8_split]
  unfold crcB
  rw [hy]

theorem fold_word (x : B32) (w : Int) (hw : isW w) : loopO (m_99_2b (c98 tabL) w) (0, (x.toNat : Int)) = some (.inl (64, ((crcS x (wordBytes w)).toNat : Int))) := by
  have := loopO_count (f := m_99_2b (c98 tabL) w) (fun i => (((8 * i : Nat) : Int), ((crcS x ((wordBytes w).take i)).toNat : Int))) 8 (r := .inl (64, ((crcS x (wordBytes w)).toNat : Int))) (fun i hi => by
    have h1 : decide (((8 * i : Nat) : Int) < 64) = true := by simp; omega
    have h2 : (!decide (((8 * i : Nat) : Int) < 0)) = true := by simp; omega
    have hb : IntKind.wrap .u8 (Int.fdiv w (2 ^ min (Int.toNat ((8 * i : Nat) : Int)) (IntKind.bits .u64))) = w / 256 ^ i % 256 := by
      have e1 : min (Int.toNat ((8 * i : Nat) : Int)) (IntKind.bits .u64) = 8 * i := by
        show min _ 64 = _
        rw [Int.toNat_natCast]; omega
      have e2 : (2 : Int) ^ (8 * i) = 256 ^ i := by rw [Int.pow_mul]; rfl
      rw [e1, e2, Int.fdiv_eq_ediv_of_nonneg _ (Int.pow_nonneg (by decide)), wu8]
    have hB : isB (w / 256 ^ i % 256) := ⟨Int.emod_nonneg _ (by decide), Int.emod_lt_of_pos _ (by decide)⟩
    have hi2 : IntKind.wrap .i64 (((8 * i : Nat) : Int) + 8) = ((8 * (i + 1) : Nat) : Int) := by rw [wi64 (by omega) (by omega)]; omega
    dsimp only [m_99_2b]
    rw [h1, h2]
    simp only [cond_true, gd_t, ob_s, hb, c98_eq _ _ hB, hi2]
    have hlt : i < (wordBytes w).length := by rw [wordBytes_len]; exact hi
    rw [List.take_succ_eq_append_getElem hlt]
    simp only [crcS, List.foldl_append, List.foldl_cons, List.foldl_nil]
    congr 6
    simp [wordBytes]) (by
    have e : (wordBytes w).take 8 = wordBytes w := List.take_of_length_le (by rw [wordBytes_len]; exact Nat.le_refl _)
    dsimp only [m_99_2b]
    rw [e]; rfl)
  simpa [crcS] using this
theorem sum_of (l : List Int) (hw : ∀ x ∈ l, isW x) (hl : l.length < 4294967296) : m_92 l = some (crcW l) := by
  unfold m_92 m_98 m_99
  rw [tab_eq]
  have key : loopO (m_99_1b (c98 tabL) l) (0, (4294967295 : Int)) = some (.inl ((l.length : Int), ((crcS (BitVec.allOnes 32) (l.flatMap wordBytes)).toNat : Int))) := by
    refine loopO_count (f := m_99_1b (c98 tabL) l) (fun i => ((i : Int), ((crcS (BitVec.allOnes 32) ((l.take i).flatMap wordBytes)).toNat : Int))) l.length (fun i hi => ?_) ?_
    · have h1 : decide ((i : Int) < (l.length : Int)) = true := by simp; omega
      have e2 : IntKind.wrap .i64 ((i : Int) + 1) = ((i + 1 : Nat) : Int) := by rw [wi64 (by omega) (by omega)]; rfl
      dsimp only [m_99_1b]
      rw [h1, gt_eq hi]
      simp only [cond_true, ob_s, fold_word _ _ (hw _ (List.getElem_mem hi)), m_99_2k, e2]
      rw [List.take_succ_eq_append_getElem hi]
      simp only [List.flatMap_append, List.flatMap_cons, List.flatMap_nil, List.append_nil, crcS, List.foldl_append]
    · have h1 : decide ((l.length : Int) < (l.length : Int)) = false := by simp
      dsimp only [m_99_1b]
      rw [h1, List.take_length]; rfl
  simp only [ob_s]
  rw [key]
  simp only [ob_s, m_99_1k]
  have := xor32 (BitVec.allOnes 32) (crcS (BitVec.allOnes 32) (l.flatMap wordBytes))
  have e : (((BitVec.allOnes 32).toNat : Nat) : Int) = IntKind.max .u32 := rfl
  rw [e] at this
  rw [this, BitVec.xor_comm]
  rfl
end Go.Proofs.Ytdkfdmalbbfbmaa
