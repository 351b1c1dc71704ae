/- Plain laws: the program's sums, by a table. -/
import Derived.Test.YtdkfdmalbbfbmaaGreatMWL14
/- Plain laws: the program's sums, by a table. -/
namespace Go.Proofs.YtdkfdmalbbfbmaaGreat
open Go
set_option maxRecDepth 4000

theorem and1 (x : B32) : IntKind.wrap .u32 (BitVec.ofInt (IntKind.bits .u32) (x.toNat : Int) &&& BitVec.ofInt (IntKind.bits .u32) 1).toNat = (bif x.getLsbD 0 then 1 else 0 : Int) := by
  show IntKind.wrap .u32 ((BitVec.ofInt 32 (x.toNat : Int) &&& BitVec.ofInt 32 1).toNat : Int) = _
  rw [ofInt_nat]
  have : (x &&& BitVec.ofInt 32 1).toNat = if x.getLsbD 0 then 1 else 0 := by
    rw [BitVec.toNat_and]
    show x.toNat &&& 1 = _
    rw [Nat.and_one_is_mod]
    simp only [BitVec.getLsbD, Nat.testBit_zero]
    have : x.toNat % 2 = 0 ∨ x.toNat % 2 = 1 := by omega
    rcases this with h | h <;> simp [h]
  rw [this]
  cases x.getLsbD 0 <;> rfl
theorem tab_step (x : B32) (k : Nat) (tb : List Int) (hk : k < 8) : m_103_2b ((x.toNat : Int), (k : Int), tb) = some (.inl (((bstep x).toNat : Int), ((k + 1 : Nat) : Int), tb)) := by
  unfold m_103_2b
  have h1 : decide ((k : Int) < 8) = true := by simp; omega
  have hd : Int.fdiv (x.toNat : Int) (2 ^ min (Int.toNat 1) (IntKind.bits .u32)) = ((x >>> 1).toNat : Int) := by
    show Int.fdiv (x.toNat : Int) 2 = _
    rw [Int.fdiv_eq_ediv_of_nonneg _ (by decide)]
    exact half32 x
  have hi : IntKind.wrap .i64 ((k : Int) + 1) = ((k + 1 : Nat) : Int) := by rw [wi64 (by omega) (by omega)]; rfl
  simp only [h1, cond_true, hd, hi, and1]
  unfold bstep
  cases hx : x.getLsbD 0 with
  | true =>
    have := xor32 (x >>> 1) poly
    have e : ((poly.toNat : Nat) : Int) = 2197175160 := rfl
    rw [e] at this
    have e2 : IntKind.wrap .u32 (2197175160 * 1) = 2197175160 := by decide
    simp only [cond_true, e2, this]
  | false =>
    have := xor32 (x >>> 1) 0#32
    have e : (((0#32).toNat : Nat) : Int) = 0 := rfl
    rw [e] at this
    have e2 : IntKind.wrap .u32 (2197175160 * 0) = 0 := by decide
    simp only [cond_false, e2, this, BitVec.xor_zero]
theorem tab_byte (x : B32) (tb : List Int) : loopO m_103_2b ((x.toNat : Int), 0, tb) = some (((b8 x).toNat : Int), 8, tb) := by
  have := loopO_count (f := m_103_2b) (fun i => (((bsteps i x).toNat : Int), (i : Int), tb)) 8 (r := (((b8 x).toNat : Int), 8, tb)) (fun i hi => by
    show m_103_2b _ = _
    rw [tab_step _ _ _ hi, bsteps_succ]) (by unfold m_103_2b; rfl)
  exact this
def tabE (i : Nat) : Int := ((b8 (BitVec.ofNat 32 i)).toNat : Int)
def tabL : List Int := (List.range 256).map tabE
theorem tabL_get {i : Nat} (h : i < 256) : tabL[i]? = some (tabE i) := by
  have := List.getElem?_range (n := 256) (i := i) h
  show ((List.range 256).map tabE)[i]? = _
  rw [List.getElem?_map, this]; rfl
theorem tab_eq : m_103 = some tabL := by
  unfold m_103
  have key : loopO m_103_1b (0, List.replicate 256 (0 : Int)) = some (256, tabL) := by
    have := loopO_count (f := m_103_1b) (fun i => ((i : Int), (List.range i).map tabE ++ List.replicate (256 - i) (0 : Int))) 256 (r := (256, tabL)) (fun i hi => by
      have h1 : decide ((i : Int) < 256) = true := by simp; omega
      have hw : IntKind.wrap .u32 (i : Int) = ((BitVec.ofNat 32 i).toNat : Int) := by
        rw [wu32 (by omega) (by omega), BitVec.toNat_ofNat]
        omega
      have h0 : decide (0 ≤ (i : Int)) = true := by simp
      have hi2 : IntKind.wrap .i64 ((i : Int) + 1) = ((i + 1 : Nat) : Int) := by rw [wi64 (by omega) (by omega)]; rfl
      have hst : st ((List.range i).map tabE ++ List.replicate (256 - i) (0 : Int)) (i : Int) (tabE i) = some ((List.range (i + 1)).map tabE ++ List.replicate (256 - (i + 1)) (0 : Int)) := by
        unfold st
        have hb : (decide (0 ≤ (i : Int)) && decide ((i : Int) < (((List.range i).map tabE ++ List.replicate (256 - i) (0 : Int)).length : Int))) = true := by
          simp; omega
        rw [hb]
        simp only [cond_true, Option.some.injEq, Int.toNat_natCast]
        have e1 : 256 - i = (256 - (i + 1)) + 1 := by omega
        rw [e1, List.replicate_succ, List.set_append_right _ _ (by simp)]
        simp [List.range_succ]
      dsimp only [m_103_1b]
      rw [h1, hw]
      simp only [cond_true, tab_byte, ob_s, m_103_2k, h0, h1, Bool.true_and, gd_t, hi2]
      show ob (st _ _ (tabE i)) _ = _
      rw [hst]; rfl) (by
      have h1 : decide (((256 : Nat) : Int) < 256) = false := by decide
      dsimp only [m_103_1b]
      rw [h1]
      simp only [cond_false, Nat.sub_self, List.replicate_zero, List.append_nil]
      rfl)
    exact this
  rw [key]; rfl

theorem idx8 (x : B32) (c : Int) (hc : isB c) : IntKind.wrap .u8 (BitVec.ofInt (IntKind.bits .u8) (IntKind.wrap .u8 (x.toNat : Int)) ^^^ BitVec.ofInt (IntKind.bits .u8) c).toNat = ((((x ^^^ BitVec.ofInt 32 c).setWidth 8).toNat : Nat) : Int) := by
  show IntKind.wrap .u8 ((BitVec.ofInt 8 (IntKind.wrap .u8 (x.toNat : Int)) ^^^ BitVec.ofInt 8 c).toNat : Int) = _
  have e1 : BitVec.ofInt 8 (IntKind.wrap .u8 (x.toNat : Int)) = x.setWidth 8 := by
    apply BitVec.eq_of_toNat_eq
    rw [wu8, BitVec.toNat_ofInt, BitVec.toNat_setWidth]
    omega
  have e2 : BitVec.ofInt 8 c = (BitVec.ofInt 32 c).setWidth 8 := by
    obtain ⟨h0, h1⟩ := hc
    apply BitVec.eq_of_toNat_eq
    rw [BitVec.toNat_ofInt, BitVec.toNat_setWidth, BitVec.toNat_ofInt]
    omega
  rw [e1, e2, ← BitVec.setWidth_xor, wu8]
  have := ((x ^^^ BitVec.ofInt 32 c).setWidth 8).isLt
  omega
theorem hi_eq (x : B32) (c : Int) (hc : isB c) : (x ^^^ BitVec.ofInt 32 c) >>> 8 = x >>> 8 := by
  rw [BitVec.ushiftRight_xor_distrib]
  have : BitVec.ofInt 32 c >>> 8 = 0#32 := by
    obtain ⟨h0, h1⟩ := hc
    apply BitVec.eq_of_toNat_eq
    rw [BitVec.toNat_ushiftRight, BitVec.toNat_ofInt, Nat.shiftRight_eq_div_pow]
    simp
    omega
  rw [this, BitVec.xor_zero]
theorem c98_eq (x : B32) (c : Int) (hc : isB c) : c98 tabL (x.toNat : Int) c = some ((crcB x c).toNat : Int) := by
  unfold c98
  rw [idx8 x c hc]
  generalize hy : (x ^^^ BitVec.ofInt 32 c) = y
  have hlt := (y.setWidth 8).isLt
  have h1 : (decide (0 ≤ (((y.setWidth 8).toNat : Nat) : Int)) && decide ((((y.setWidth 8).toNat : Nat) : Int) < 256)) = true := by
    simp; omega
  rw [h1]
  simp only [gd_t, ob_s]
  have hg : gt tabL (((y.setWidth 8).toNat : Nat) : Int) = some (((b8 ((y.setWidth 8).setWidth 32)).toNat : Nat) : Int) := by
    apply gt_at
    rw [tabL_get (by omega)]
    unfold tabE
    have : BitVec.ofNat 32 (y.setWidth 8).toNat = (y.setWidth 8).setWidth 32 := by
      apply BitVec.eq_of_toNat_eq
      rw [BitVec.toNat_ofNat, BitVec.toNat_setWidth, BitVec.toNat_setWidth, BitVec.toNat_setWidth]
    rw [this]
  rw [hg]
  simp only [ob_s]
  have hd : Int.fdiv (x.toNat : Int) (2 ^ min (Int.toNat 8) (IntKind.bits .u32)) = ((x >>> 8).toNat : Int) := by
    show Int.fdiv (x.toNat : Int) 256 = _
    rw [Int.fdiv_eq_ediv_of_nonneg _ (by decide), BitVec.toNat_ushiftRight, Nat.shiftRight_eq_div_pow]
    omega
  rw [hd, xor32, ← hi_eq x c hc, hy, b8_split]
  unfold crcB
  rw [hy]

theorem fold_word (x : B32) (w : Int) (hw : isW w) : loopO (m_99_2b (c98 tabL) w) (0, (x.toNat : Int)) = some (.inl (64, ((crcS x (wordBytes w)).toNat : Int))) := by
  have := loopO_count (f := m_99_2b (c98 tabL) w) (fun i => (((8 * i : Nat) : Int), ((crcS x ((wordBytes w).take i)).toNat : Int))) 8 (r := .inl (64, ((crcS x (wordBytes w)).toNat : Int))) (fun i hi => by
    have h1 : decide (((8 * i : Nat) : Int) < 64) = true := by simp; omega
    have h2 : (!decide (((8 * i : Nat) : Int) < 0)) = true := by simp; omega
    have hb : IntKind.wrap .u8 (Int.fdiv w (2 ^ min (Int.toNat ((8 * i : Nat) : Int)) (IntKind.bits .u64))) = w / 256 ^ i % 256 := by
      have e1 : min (Int.toNat ((8 * i : Nat) : Int)) (IntKind.bits .u64) = 8 * i := by
        show min _ 64 = _
        rw [Int.toNat_natCast]; omega
      have e2 : (2 : Int) ^ (8 * i) = 256 ^ i := by rw [Int.pow_mul]; rfl
      rw [e1, e2, Int.fdiv_eq_ediv_of_nonneg _ (Int.pow_nonneg (by decide)), wu8]
    have hB : isB (w / 256 ^ i % 256) := ⟨Int.emod_nonneg _ (by decide), Int.emod_lt_of_pos _ (by decide)⟩
    have hi2 : IntKind.wrap .i64 (((8 * i : Nat) : Int) + 8) = ((8 * (i + 1) : Nat) : Int) := by rw [wi64 (by omega) (by omega)]; omega
    dsimp only [m_99_2b]
    rw [h1, h2]
    simp only [cond_true, gd_t, ob_s, hb, c98_eq _ _ hB, hi2]
    have hlt : i < (wordBytes w).length := by rw [wordBytes_len]; exact hi
    rw [List.take_succ_eq_append_getElem hlt]
    simp only [crcS, List.foldl_append, List.foldl_cons, List.foldl_nil]
    congr 6
    simp [wordBytes]) (by
    have e : (wordBytes w).take 8 = wordBytes w := List.take_of_length_le (by rw [wordBytes_len]; exact Nat.le_refl _)
    dsimp only [m_99_2b]
    rw [e]; rfl)
  simpa [crcS] using this
theorem sum_of (l : List Int) (hw : ∀ x ∈ l, isW x) (hl : l.length < 4294967296) : m_92 l = some (crcW l) := by
  unfold m_92 m_98 m_99
  rw [tab_eq]
  have key : loopO (m_99_1b (c98 tabL) l) (0, (4294967295 : Int)) = some (.inl ((l.length : Int), ((crcS (BitVec.allOnes 32) (l.flatMap wordBytes)).toNat : Int))) := by
    refine loopO_count (f := m_99_1b (c98 tabL) l) (fun i => ((i : Int), ((crcS (BitVec.allOnes 32) ((l.take i).flatMap wordBytes)).toNat : Int))) l.length (fun i hi => ?_) ?_
    · have h1 : decide ((i : Int) < (l.length : Int)) = true := by simp; omega
      have e2 : IntKind.wrap .i64 ((i : Int) + 1) = ((i + 1 : Nat) : Int) := by rw [wi64 (by omega) (by omega)]; rfl
      dsimp only [m_99_1b]
      rw [h1, gt_eq hi]
      simp only [cond_true, ob_s, fold_word _ _ (hw _ (List.getElem_mem hi)), m_99_2k, e2]
      rw [List.take_succ_eq_append_getElem hi]
      simp only [List.flatMap_append, List.flatMap_cons, List.flatMap_nil, List.append_nil, crcS, List.foldl_append]
    · have h1 : decide ((l.length : Int) < (l.length : Int)) = false := by simp
      dsimp only [m_99_1b]
      rw [h1, List.take_length]; rfl
  simp only [ob_s]
  rw [key]
  simp only [ob_s, m_99_1k]
  have := xor32 (BitVec.allOnes 32) (crcS (BitVec.allOnes 32) (l.flatMap wordBytes))
  have e : (((BitVec.allOnes 32).toNat : Nat) : Int) = IntKind.max .u32 := rfl
  rw [e] at this
  rw [this, BitVec.xor_comm]
  rfl
end Go.Proofs.YtdkfdmalbbfbmaaGreat

/- Plain laws: frames; streams of them. -/
namespace Go.Proofs.YtdkfdmalbbfbmaaGreat
open Go
set_option maxRecDepth 4000

def may (F : Frame) : Bool := decide (1 ≤ F.Kind) && decide (F.Kind ≤ 255) && decide (F.Words.length ≤ 2000)
theorem may_iff {F : Frame} : may F = true ↔ 1 ≤ F.Kind ∧ F.Kind ≤ 255 ∧ F.Words.length ≤ 2000 := by
  simp [may, and_assoc]
theorem may_36 (F : Frame) : m_36 F = some (may F) := by
  unfold m_36 may
  have e1 : decide (F.Kind ≥ 1) = decide (1 ≤ F.Kind) := rfl
  have e2 : decide ((F.Words.length : Int) ≤ 2000) = decide (F.Words.length ≤ 2000) := by
    by_cases h : F.Words.length ≤ 2000
    · simp [h]; omega
    · simp [h]; omega
  rw [e1, e2]
  cases decide (1 ≤ F.Kind) <;> cases decide (F.Kind ≤ 255) <;> rfl
theorem may_46 (F : Frame) : m_46 F = some (may F) := by
  unfold m_46 may
  have e1 : decide (F.Kind > 0) = decide (1 ≤ F.Kind) := by
    by_cases h : 1 ≤ F.Kind <;> simp [h] <;> omega
  have e2 : decide ((F.Words.length : Int) < 2001) = decide (F.Words.length ≤ 2000) := by
    by_cases h : F.Words.length ≤ 2000
    · simp [h]; omega
    · simp [h]; omega
  have e3 : decide (F.Kind < 256) = decide (F.Kind ≤ 255) := by
    by_cases h : F.Kind ≤ 255 <;> simp [h] <;> omega
  rw [e1, e2, e3]
  cases decide (1 ≤ F.Kind) <;> cases decide (F.Kind ≤ 255) <;> rfl
def num (x : Int) : Bool := decide (0 ≤ x) && decide (x ≤ 4294967295)
theorem num_iff {x : Int} : num x = true ↔ 0 ≤ x ∧ x ≤ 4294967295 := by simp [num]
theorem num_66 (x : Int) : m_66 x = some (num x) := by
  unfold m_66 num
  have e1 : decide (x ≥ 0) = decide (0 ≤ x) := rfl
  rw [e1]
  cases decide (0 ≤ x) <;> rfl
theorem num_68 (x : Int) : m_68 x = some (num x) := by
  unfold m_68 num
  have e1 : decide (x ≥ 0) = decide (0 ≤ x) := rfl
  have e2 : decide (x < 4294967296) = decide (x ≤ 4294967295) := by
    by_cases h : x ≤ 4294967295 <;> simp [h] <;> omega
  rw [e1, e2]
  cases decide (0 ≤ x) <;> rfl

/-- A mark. -/
def markI (k n : Int) (l : List Int) : Int := k * 72057594037927936 + n * 4294967296 + crcW (k :: n :: l)
theorem or_add {a b i : Nat} (h : b < 2 ^ i) : (2 ^ i * a) ||| b = 2 ^ i * a + b := (Nat.two_pow_add_eq_or_of_lt h a).symm
theorem or64 {a b : Int} {i x y : Nat} (ha : a = ((2 ^ i * x : Nat) : Int)) (hb : b = (y : Int)) (hy : y < 2 ^ i) (hs : 2 ^ i * x + y < 18446744073709551616) :
    IntKind.wrap .u64 (BitVec.ofInt (IntKind.bits .u64) a ||| BitVec.ofInt (IntKind.bits .u64) b).toNat = a + b := by
  subst ha; subst hb
  show IntKind.wrap .u64 ((BitVec.ofInt 64 ((2 ^ i * x : Nat) : Int) ||| BitVec.ofInt 64 (y : Int)).toNat : Int) = _
  have e1 : (BitVec.ofInt 64 ((2 ^ i * x : Nat) : Int)).toNat = 2 ^ i * x := by
    rw [BitVec.toNat_ofInt]; omega
  have e2 : (BitVec.ofInt 64 (y : Int)).toNat = y := by
    rw [BitVec.toNat_ofInt]; omega
  rw [BitVec.toNat_or, e1, e2, or_add hy, wu64 (by omega) (by omega)]
  omega
theorem mark_ok {k n : Int} (hk : 0 ≤ k ∧ k ≤ 255) (hn : 0 ≤ n ∧ n ≤ 16777215) :
    (bif decide (k < 0) then (some true) else (bif decide (k > 255) then (some true) else (bif decide (n < 0) then (some true) else (some (decide (n > 16777215)))))) = some false := by
  have h1 : decide (k < 0) = false := by simp; omega
  have h2 : decide (k > 255) = false := by simp; omega
  have h3 : decide (n < 0) = false := by simp; omega
  have h4 : decide (n > 16777215) = false := by simp; omega
  rw [h1, h2, h3, h4]; rfl
theorem isW_num {x : Int} (h : 0 ≤ x ∧ x ≤ 4294967295) : isW x := ⟨h.1, by omega⟩
theorem words2 {k n : Int} {l : List Int} (hk : 0 ≤ k ∧ k ≤ 255) (hn : 0 ≤ n ∧ n ≤ 16777215) (hw : ∀ x ∈ l, isW x) : ∀ x ∈ k :: n :: l, isW x := by
  intro x hx
  rcases List.mem_cons.1 hx with rfl | hx
  · exact ⟨hk.1, by omega⟩
  rcases List.mem_cons.1 hx with rfl | hx
  · exact ⟨hn.1, by omega⟩
  exact hw x hx
theorem mark_82 {k n : Int} {l : List Int} (hk : 0 ≤ k ∧ k ≤ 255) (hn : 0 ≤ n ∧ n ≤ 16777215) (hw : ∀ x ∈ l, isW x) (hl : l.length < 4294967200) : m_82 k n l = some (markI k n l, true) := by
  unfold m_82 markI
  rw [mark_ok hk hn]
  have w1 : IntKind.wrap .u64 k = k := wu64 hk.1 (by omega)
  have w2 : IntKind.wrap .u64 n = n := wu64 hn.1 (by omega)
  simp only [ob_s, cond_false, w1, w2]
  rw [ap_eq (by simp; omega)]
  simp only [ob_s, List.cons_append, List.nil_append]
  rw [sum_of _ (words2 hk hn hw) (by simp; omega)]
  obtain ⟨c0, c1⟩ := crcW_range (k :: n :: l)
  generalize crcW (k :: n :: l) = c at c0 c1
  have e1 : IntKind.wrap .u64 (k * 2 ^ min (Int.toNat 56) (IntKind.bits .u64)) = k * 72057594037927936 := wu64 (by show 0 ≤ k * 72057594037927936; omega) (by show k * 72057594037927936 < _; omega)
  have e2 : IntKind.wrap .u64 (n * 2 ^ min (Int.toNat 32) (IntKind.bits .u64)) = n * 4294967296 := wu64 (by show 0 ≤ n * 4294967296; omega) (by show n * 4294967296 < _; omega)
  have e3 : IntKind.wrap .u64 c = c := wu64 c0 (by omega)
  simp only [ob_s, e1, e2, e3]
  obtain ⟨kk, rfl⟩ := Int.eq_ofNat_of_zero_le hk.1
  obtain ⟨nn, rfl⟩ := Int.eq_ofNat_of_zero_le hn.1
  obtain ⟨cc, rfl⟩ := Int.eq_ofNat_of_zero_le c0
  rw [or64 (a := (kk : Int) * 72057594037927936) (b := (nn : Int) * 4294967296) (i := 56) (x := kk) (y := nn * 4294967296) (by omega) (by omega) (by omega) (by omega)]
  rw [or64 (a := (kk : Int) * 72057594037927936 + (nn : Int) * 4294967296) (b := (cc : Int)) (i := 32) (x := kk * 16777216 + nn) (y := cc) (by omega) (by omega) (by omega) (by omega)]
theorem mark_69 {k n : Int} {l : List Int} (hk : 0 ≤ k ∧ k ≤ 255) (hn : 0 ≤ n ∧ n ≤ 16777215) (hw : ∀ x ∈ l, isW x) (hl : l.length < 268435000) : m_69 k n l = some (markI k n l, true) := by
  unfold m_69 markI
  rw [mark_ok hk hn]
  have w1 : IntKind.wrap .u64 k = k := wu64 hk.1 (by omega)
  have w2 : IntKind.wrap .u64 n = n := wu64 hn.1 (by omega)
  simp only [ob_s, cond_false, w1, w2]
  rw [ap_eq (by simp; omega)]
  simp only [ob_s, List.cons_append, List.nil_append]
  rw [ref_of _ (words2 hk hn hw) (by simp; omega)]
  obtain ⟨c0, c1⟩ := crcW_range (k :: n :: l)
  generalize crcW (k :: n :: l) = c at c0 c1
  have e1 : IntKind.wrap .u64 (k * 72057594037927936) = k * 72057594037927936 := wu64 (by omega) (by omega)
  have e2 : IntKind.wrap .u64 (n * 4294967296) = n * 4294967296 := wu64 (by omega) (by omega)
  have e3 : IntKind.wrap .u64 c = c := wu64 c0 (by omega)
  simp only [ob_s, e1, e2, e3]
  rw [wu64 (x := k * 72057594037927936 + n * 4294967296) (by omega) (by omega), wu64 (by omega) (by omega)]

/-- A frame's mark, a frame's words. -/
def markV (e n k : Int) (ws : List Int) : Int := markI k ws.length (e :: n :: ws)
def putF (e n : Int) (F : Frame) : List Int := markV e n F.Kind F.Words :: F.Words
theorem words4 {e n : Int} {ws : List Int} (he : num e = true) (hn : num n = true) (hw : ∀ x ∈ ws, isW x) : ∀ x ∈ e :: n :: ws, isW x := by
  intro x hx
  rcases List.mem_cons.1 hx with rfl | hx
  · exact isW_num (num_iff.1 he)
  rcases List.mem_cons.1 hx with rfl | hx
  · exact isW_num (num_iff.1 hn)
  exact hw x hx
theorem mark_67 {e n k : Int} {ws : List Int} (he : num e = true) (hn : num n = true) (hk : 0 ≤ k ∧ k ≤ 255) (hl : ws.length ≤ 2000) (hw : ∀ x ∈ ws, isW x) : m_67 e n k ws = some (markV e n k ws) := by
  unfold m_67
  rw [wu64 (num_iff.1 he).1 (by have := (num_iff.1 he).2; omega), wu64 (num_iff.1 hn).1 (by have := (num_iff.1 hn).2; omega), ap_eq (by simp; omega)]
  simp only [ob_s, List.cons_append, List.nil_append]
  rw [mark_82 hk ⟨by omega, by omega⟩ (words4 he hn hw) (by simp; omega)]
  rfl
theorem put_38 {e n : Int} {F : Frame} (he : num e = true) (hn : num n = true) (hm : may F = true) (hw : ∀ x ∈ F.Words, isW x) : m_38 e n F = some (putF e n F) := by
  obtain ⟨k0, k1, k2⟩ := may_iff.1 hm
  unfold m_38
  simp only [may_36, hm, ob_s, Bool.not_true, cond_false, num_66, he, hn]
  rw [mark_67 he hn ⟨by omega, k1⟩ k2 hw]
  simp only [ob_s]
  rw [ap_eq (by simp; omega)]
  rfl
theorem put_48 {e n : Int} {F : Frame} (he : num e = true) (hn : num n = true) (hk : 0 ≤ F.Kind ∧ F.Kind ≤ 255) (hl : F.Words.length ≤ 2000) (hw : ∀ x ∈ F.Words, isW x) : m_48 e n F = some (putF e n F) := by
  unfold m_48
  rw [wu64 (num_iff.1 he).1 (by have := (num_iff.1 he).2; omega), wu64 (num_iff.1 hn).1 (by have := (num_iff.1 hn).2; omega), ap_eq (by simp; omega)]
  simp only [ob_s, List.cons_append, List.nil_append]
  rw [mark_69 hk ⟨by omega, by omega⟩ (words4 he hn hw) (by simp; omega)]
  simp only [ob_s]
  rw [ap_eq (by simp; omega)]
  rfl

/-- The frame at the head of words. -/
def getF (e n : Int) : List Int → Option Frame
  | [] => none
  | m :: r => if num e = true ∧ num n = true ∧ 1 ≤ m / 72057594037927936 ∧ m / 72057594037927936 ≤ 255 ∧ m / 4294967296 % 16777216 ≤ 2000 ∧ m / 4294967296 % 16777216 ≤ r.length ∧ markV e n (m / 72057594037927936) (r.take (m / 4294967296 % 16777216).toNat) = m
    then some ⟨m / 72057594037927936, r.take (m / 4294967296 % 16777216).toNat⟩ else none
theorem getF_iff {e n : Int} {l : List Int} {F : Frame} : getF e n l = some F ↔ may F = true ∧ num e = true ∧ num n = true ∧ ∃ r, l = putF e n F ++ r := by
  constructor
  · intro h
    cases l with
    | nil => cases h
    | cons m r =>
      rw [getF] at h
      by_cases hc : num e = true ∧ num n = true ∧ 1 ≤ m / 72057594037927936 ∧ m / 72057594037927936 ≤ 255 ∧ m / 4294967296 % 16777216 ≤ 2000 ∧ m / 4294967296 % 16777216 ≤ r.length ∧ markV e n (m / 72057594037927936) (r.take (m / 4294967296 % 16777216).toNat) = m
      · rw [if_pos hc] at h
        obtain ⟨h1, h2, h3, h4, h5, h6, h7⟩ := hc
        cases h
        refine ⟨may_iff.2 ⟨h3, h4, ?_⟩, h1, h2, r.drop (m / 4294967296 % 16777216).toNat, ?_⟩
        · rw [List.length_take]; omega
        · unfold putF
          rw [h7]
          simp
      · rw [if_neg hc] at h; cases h
  · rintro ⟨hm, he, hn, r, rfl⟩
    obtain ⟨k0, k1, k2⟩ := may_iff.1 hm
    obtain ⟨c0, c1⟩ := crcW_range (F.Kind :: (F.Words.length : Int) :: e :: n :: F.Words)
    have hmv : markV e n F.Kind F.Words = F.Kind * 72057594037927936 + (F.Words.length : Int) * 4294967296 + crcW (F.Kind :: (F.Words.length : Int) :: e :: n :: F.Words) := rfl
    have e1 : markV e n F.Kind F.Words / 72057594037927936 = F.Kind := by rw [hmv]; omega
    have e2 : markV e n F.Kind F.Words / 4294967296 % 16777216 = F.Words.length := by rw [hmv]; omega
    have e3 : (F.Words ++ r).take F.Words.length = F.Words := by simp
    unfold putF
    rw [List.cons_append, getF, e1, e2, Int.toNat_natCast, e3]
    rw [if_pos ⟨he, hn, k0, k1, by omega, by rw [List.length_append]; omega, rfl⟩]
theorem getF_zero {e n : Int} (r : List Int) : getF e n (0 :: r) = none := by
  rw [getF, if_neg]
  rintro ⟨_, _, h, _⟩
  simp at h
theorem getF_nil {e n : Int} : getF e n [] = none := rfl

/-- What Get hands back. -/
def gotF : Option Frame → Frame × Int × Bool
  | none => (⟨0, []⟩, 0, false)
  | some F => (F, 1 + (F.Words.length : Int), true)
theorem clone_39 {l : List Int} (h : l.length < 4294967296) : m_39 l = some l := by
  unfold m_39
  rw [ap_eq (by simpa using h)]
  rfl
theorem guard_get {l : List Int} {e n : Int} (f g : Int → Option Bool) (hf : ∀ x, f x = some (num x)) :
    (bif (l.length : Int) == 0 then (some true) else (ob (f e) fun y1 => bif !y1 then (some true) else (ob (f n) fun y2 => some (!y2)))) = some (l.isEmpty || !num e || !num n) := by
  simp only [hf, ob_s]
  cases l with
  | nil => rfl
  | cons a r =>
    have : (((a :: r).length : Int) == 0) = false := by simp; omega
    rw [this]
    cases num e <;> cases num n <;> rfl
theorem get_81 {e n : Int} {l : List Int} (hw : ∀ x ∈ l, isW x) (hl : l.length < 268435456) : m_81 e n l = some (gotF (getF e n l)) := by
  unfold m_81
  rw [guard_get m_66 m_66 num_66]
  simp only [ob_s]
  cases l with
  | nil => rfl
  | cons m r =>
    simp only [List.isEmpty_cons, Bool.false_or]
    cases he : num e with
    | false => simp [getF, he, gotF]
    | true =>
    cases hn : num n with
    | false => simp [getF, hn, gotF]
    | true =>
    simp only [Bool.not_true, Bool.or_self, cond_false]
    obtain ⟨m0, m1⟩ := hw m List.mem_cons_self
    have hg : gt (m :: r) 0 = some m := rfl
    rw [hg]
    simp only [ob_s]
    have hd1 : Int.fdiv m (2 ^ min (Int.toNat 56) (IntKind.bits .u64)) = m / 72057594037927936 := by
      show Int.fdiv m 72057594037927936 = _
      exact Int.fdiv_eq_ediv_of_nonneg _ (by decide)
    have hd2 : Int.fdiv m (2 ^ min (Int.toNat 32) (IntKind.bits .u64)) = m / 4294967296 := by
      show Int.fdiv m 4294967296 = _
      exact Int.fdiv_eq_ediv_of_nonneg _ (by decide)
    have ha : IntKind.wrap .u64 (BitVec.ofInt (IntKind.bits .u64) (m / 4294967296) &&& BitVec.ofInt (IntKind.bits .u64) 16777215).toNat = m / 4294967296 % 16777216 := by
      show IntKind.wrap .u64 ((BitVec.ofInt 64 (m / 4294967296) &&& BitVec.ofInt 64 16777215).toNat : Int) = _
      have e1 : (BitVec.ofInt 64 (m / 4294967296)).toNat = (m / 4294967296).toNat := by rw [BitVec.toNat_ofInt]; omega
      have e2 : (BitVec.ofInt 64 16777215).toNat = 2 ^ 24 - 1 := rfl
      rw [BitVec.toNat_and, e1, e2, Nat.and_two_pow_sub_one_eq_mod, wu64 (by omega) (by omega)]
      omega
    unfold m_91
    rw [hd1, hd2, ha, wi64 (x := m / 72057594037927936) (by omega) (by omega), wi64 (x := m / 4294967296 % 16777216) (by omega) (by omega)]
    simp only [ob_s]
    simp only [List.length_cons] at hl
    rw [show IntKind.wrap .i64 (((m :: r).length : Int) - 1) = (r.length : Int) from by rw [wi64 (by rw [List.length_cons]; omega) (by rw [List.length_cons]; omega)]; simp]
    by_cases h6 : m / 4294967296 % 16777216 ≤ r.length
    · have hf : decide (m / 4294967296 % 16777216 > (r.length : Int)) = false := by simp; omega
      rw [hf]
      simp only [cond_false]
      obtain ⟨q, hq⟩ := Int.eq_ofNat_of_zero_le (show 0 ≤ m / 4294967296 % 16777216 by omega)
      rw [hq]
      have e1 : IntKind.wrap .i64 (1 + (q : Int)) = ((1 + q : Nat) : Int) := by rw [wi64 (by omega) (by omega)]; omega
      rw [e1, show (1 : Int) = ((1 : Nat) : Int) from rfl, sl_eq (by omega) (by simp; omega)]
      have e2 : ((m :: r).take (1 + q)).drop 1 = r.take q := by rw [Nat.add_comm]; simp
      simp only [ob_s, e2]
      rw [clone_39 (by rw [List.length_take]; omega)]
      simp only [ob_s, may_36]
      have hwt : ∀ x ∈ r.take q, isW x := fun x hx => hw x (List.mem_cons_of_mem _ (List.mem_of_mem_take hx))
      have hlt : (r.take q).length = q := by rw [List.length_take]; omega
      cases hm : may ⟨m / 72057594037927936, r.take q⟩ with
      | false =>
        simp only [Bool.not_false, cond_true, ob_s]
        rw [getF, if_neg]
        · rfl
        · rintro ⟨_, _, h3, h4, h5, _, _⟩
          have : may ⟨m / 72057594037927936, r.take q⟩ = true := may_iff.2 ⟨h3, h4, by simp only [hlt]; omega⟩
          rw [hm] at this; cases this
      | true =>
        obtain ⟨k0, k1, k2⟩ := may_iff.1 hm
        simp only at k0 k1 k2
        simp only [Bool.not_true, cond_false, ob_s]
        rw [mark_67 he hn ⟨by omega, k1⟩ k2 hwt]
        simp only [ob_s]
        by_cases h7 : markV e n (m / 72057594037927936) (r.take q) = m
        · have hb : (markV e n (m / 72057594037927936) (r.take q) != m) = false := by simp [h7]
          rw [hb]
          simp only [cond_false]
          rw [getF, hq, Int.toNat_natCast, if_pos ⟨he, hn, k0, k1, by omega, by omega, h7⟩]
          simp only [gotF, hlt]
          have e3 : ((1 + q : Nat) : Int) = 1 + (q : Int) := by omega
          rw [e3]
        · have hb : (markV e n (m / 72057594037927936) (r.take q) != m) = true := by simp [h7]
          rw [hb]
          simp only [cond_true]
          rw [getF, if_neg]
          · rfl
          · rintro ⟨_, _, _, _, _, _, h⟩
            rw [hq, Int.toNat_natCast] at h
            exact h7 h
    · have hf : decide (m / 4294967296 % 16777216 > (r.length : Int)) = true := by simp; omega
      rw [hf]
      simp only [cond_true]
      rw [getF, if_neg]
      · rfl
      · rintro ⟨_, _, _, _, _, h, _⟩; exact h6 h
end Go.Proofs.YtdkfdmalbbfbmaaGreat
