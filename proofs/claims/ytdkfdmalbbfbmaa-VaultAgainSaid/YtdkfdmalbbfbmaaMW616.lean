/- Plain laws: frames; streams of them. -/
import Derived.Test.YtdkfdmalbbfbmaaMW615
/- Plain laws: frames; streams of them. -/
namespace Go.Proofs.Ytdkfdmalbbfbmaa
open Go
set_option maxRecDepth 4000

def may (F : Frame) : Bool := decide (1 ≤ F.Kind) && decide (F.Kind ≤ 255) && decide (F.Words.length ≤ 2000)
theorem may_iff {F : Frame} : may F = true ↔ 1 ≤ F.Kind ∧ F.Kind ≤ 255 ∧ F.Words.length ≤ 2000 := by
  simp [may, and_assoc]
theorem may_36 (F : Frame) : m_36 F = some (may F) := by
  unfold m_36 may
  have e1 : decide (F.Kind ≥ 1) = decide (1 ≤ F.Kind) := rfl
  have e2 : decide ((F.Words.length : Int) ≤ 2000) = decide (F.Words.length ≤ 2000) := by
    by_cases h : F.Words.length ≤ 2000
    · simp [h]; omega
    · simp [h]; omega
  rw [e1, e2]
  cases decide (1 ≤ F.Kind) <;> cases decide (F.Kind ≤ 255) <;> rfl
theorem may_46 (F : Frame) : m_46 F = some (may F) := by
  unfold m_46 may
  have e1 : decide (F.Kind > 0) = decide (1 ≤ F.Kind) := by
    by_cases h : 1 ≤ F.Kind <;> simp [h] <;> omega
  have e2 : decide ((F.Words.length : Int) < 2001) = decide (F.Words.length ≤ 2000) := by
    by_cases h : F.Words.length ≤ 2000
    · simp [h]; omega
    · simp [h]; omega
  have e3 : decide (F.Kind < 256) = decide (F.Kind ≤ 255) := by
    by_cases h : F.Kind ≤ 255 <;> simp [h] <;> omega
  rw [e1, e2, e3]
  cases decide (1 ≤ F.Kind) <;> cases decide (F.Kind ≤ 255) <;> rfl
def num (x : Int) : Bool := decide (0 ≤ x) && decide (x ≤ 4294967295)
theorem num_iff {x : Int} : num x = true ↔ 0 ≤ x ∧ x ≤ 4294967295 := by simp [num]
theorem num_66 (x : Int) : m_66 x = some (num x) := by
  unfold m_66 num
  have e1 : decide (x ≥ 0) = decide (0 ≤ x) := rfl
  rw [e1]
  cases decide (0 ≤ x) <;> rfl
theorem num_68 (x : Int) : m_68 x = some (num x) := by
  unfold m_68 num
  have e1 : decide (x ≥ 0) = decide (0 ≤ x) := rfl
  have e2 : decide (x < 4294967296) = decide (x ≤ 4294967295) := by
    by_cases h : x ≤ 4294967295 <;> simp [h] <;> omega
  rw [e1, e2]
  cases decide (0 ≤ x) <;> rfl

/-- A mark. -/
def markI (k n : Int) (l : List Int) : Int := k * 72057594037927936 + n * 4294967296 + crcW (k :: n :: l)
theorem or_add {a b i : Nat} (h : b < 2 ^ i) : (2 ^ i * a) ||| b = 2 ^ i * a + b := (Nat.two_pow_add_eq_or_of_lt h a).symm
theorem or64 {a b : Int} {i x y : Nat} (ha : a = ((2 ^ i * x : Nat) : Int)) (hb : b = (y : Int)) (hy : y < 2 ^ i) (hs : 2 ^ i * x + y < 18446744073709551616) :
    IntKind.wrap .u64 (BitVec.ofInt (IntKind.bits .u64) a ||| BitVec.ofInt (IntKind.bits .u64) b).toNat = a + b := by
  subst ha; subst hb
  show IntKind.wrap .u64 ((BitVec.ofInt 64 ((2 ^ i * x : Nat) : Int) ||| BitVec.ofInt 64 (y : Int)).toNat : Int) = _
  have e1 : (BitVec.ofInt 64 ((2 ^ i * x : Nat) : Int)).toNat = 2 ^ i * x := by
    rw [BitVec.toNat_ofInt]; omega
  have e2 : (BitVec.ofInt 64 (y : Int)).toNat = y := by
    rw [BitVec.toNat_ofInt]; omega
  rw [BitVec.toNat_or, e1, e2, or_add hy, wu64 (by omega) (by omega)]
  omega
theorem mark_ok {k n : Int} (hk : 0 ≤ k ∧ k ≤ 255) (hn : 0 ≤ n ∧ n ≤ 16777215) :
    (bif decide (k < 0) then (some true) else (bif decide (k > 255) then (some true) else (bif decide (n < 0) then (some true) else (some (decide (n > 16777215)))))) = some false := by
  have h1 : decide (k < 0) = false := by simp; omega
  have h2 : decide (k > 255) = false := by simp; omega
  have h3 : decide (n < 0) = false := by simp; omega
  have h4 : decide (n > 16777215) = false := by simp; omega
  rw [h1, h2, h3, h4]; rfl
theorem isW_num {x : Int} (h : 0 ≤ x ∧ x ≤ 4294967295) : isW x := ⟨h.1, by omega⟩
theorem words2 {k n : Int} {l : List Int} (hk : 0 ≤ k ∧ k ≤ 255) (hn : 0 ≤ n ∧ n ≤ 16777215) (hw : ∀ x ∈ l, isW x) : ∀ x ∈ k :: n :: l, isW x := by
  intro x hx
  rcases List.mem_cons.1 hx with rfl | hx
  · exact ⟨hk.1, by omega⟩
  rcases List.mem_cons.1 hx with rfl | hx
  · exact ⟨hn.1, by omega⟩
  exact hw x hx
theorem mark_82 {k n : Int} {l : List Int} (hk : 0 ≤ k ∧ k ≤ 255) (hn : 0 ≤ n ∧ n ≤ 16777215) (hw : ∀ x ∈ l, isW x) (hl : l.length < 4294967200) : m_82 k n l = some (markI k n l, true) := by
  unfold m_82 markI
  rw [mark_ok hk hn]
  have w1 : IntKind.wrap .u64 k = k := wu64 hk.1 (by omega)
  have w2 : IntKind.wrap .u64 n = n := wu64 hn.1 (by omega)
  simp only [ob_s, cond_false, w1, w2]
  rw [ap_eq (by simp; omega)]
  simp only [ob_s, List.cons_append, List.nil_append]
  rw [sum_of _ (words2 hk hn hw) (by simp; omega)]
  obtain ⟨c0, c1⟩ := crcW_range (k :: n :: l)
  generalize crcW (k :: n :: l) = c at c0 c1
  have e1 : IntKind.wrap .u64 (k * 2 ^ min (Int.toNat 56) (IntKind.bits .u64)) = k * 72057594037927936 := wu64 (by show 0 ≤ k * 72057594037927936; omega) (by show k * 72057594037927936 < _; omega)
  have e2 : IntKind.wrap .u64 (n * 2 ^ min (Int.toNat 32) (IntKind.bits .u64)) = n * 4294967296 := wu64 (by show 0 ≤ n * 4294967296; omega) (by show n * 4294967296 < _; omega)
  have e3 : IntKind.wrap .u64 c = c := wu64 c0 (by omega)
  simp only [ob_s, e1, e2, e3]
  obtain ⟨kk, rfl⟩ := Int.eq_ofNat_of_zero_le hk.1
  obtain ⟨nn, rfl⟩ := Int.eq_ofNat_of_zero_le hn.1
  obtain ⟨cc, rfl⟩ := Int.eq_ofNat_of_zero_le c0
  rw [or64 (a := (kk : Int) * 72057594037927936) (b := (nn : Int) * 4294967296) (i := 56) (x := kk) (y := nn * 4294967296) (by omega) (by omega) (by omega) (by omega)]
  rw [or64 (a := (kk : Int) * 72057594037927936 + (nn : Int) * 4294967296) (b := (cc : Int)) (i := 32) (x := kk * 16777216 + nn) (y := cc) (by omega) (by omega) (by omega) (by omega)]
theorem mark_69 {k n : Int} {l : List Int} (hk : 0 ≤ k ∧ k ≤ 255) (hn : 0 ≤ n ∧ n ≤ 16777215) (hw : ∀ x ∈ l, isW x) (hl : l.length < 268435000) : m_69 k n l = some (markI k n l, true) := by
  unfold m_69 markI
  rw [mark_ok hk hn]
  have w1 : IntKind.wrap .u64 k = k := wu64 hk.1 (by omega)
  have w2 : IntKind.wrap .u64 n = n := wu64 hn.1 (by omega)
  simp only [ob_s, cond_false, w1, w2]
  rw [ap_eq (by simp; omega)]
  simp only [ob_s, List.cons_append, List.nil_append]
  rw [ref_of _ (words2 hk hn hw) (by simp; omega)]
  obtain ⟨c0, c1⟩ := crcW_range (k :: n :: l)
  generalize crcW (k :: n :: l) = c at c0 c1
  have e1 : IntKind.wrap .u64 (k * 72057594037927936) = k * 72057594037927936 := wu64 (by omega) (by omega)
  have e2 : IntKind.wrap .u64 (n * 4294967296) = n * 4294967296 := wu64 (by omega) (by omega)
  have e3 : IntKind.wrap .u64 c = c := wu64 c0 (by omega)
  simp only [ob_s, e1, e2, e3]
  rw [wu64 (x := k * 72057594037927936 + n * 4294967296) (by omega) (by omega), wu64 (by omega) (by omega)]

/-- A frame's mark, a frame's words. -/
def markV (e n k : Int) (ws : List Int) : Int := markI k ws.length (e :: n :: ws)
def putF (e n : Int) (F : Frame) : List Int := markV e n F.Kind F.Words :: F.Words
theorem words4 {e n : Int} {ws : List Int} (he : num e = true) (hn : num n = true) (hw : ∀ x ∈ ws, isW x) : ∀ x ∈ e :: n :: ws, isW x := by
  intro x hx
  rcases List.mem_cons.1 hx with rfl | hx
  · exact isW_num (num_iff.1 he)
  rcases List.mem_cons.1 hx with rfl | hx
  · exact isW_num (num_iff.1 hn)
  exact hw x hx
theorem mark_67 {e n k : Int} {ws : List Int} (he : num e = true) (hn : num n = true) (hk : 0 ≤ k ∧ k ≤ 255) (hl : ws.length ≤ 2000) (hw : ∀ x ∈ ws, isW x) : m_67 e n k ws = some (markV e n k ws) := by
  unfold m_67
  rw [wu64 (num_iff.1 he).1 (by have := (num_iff.1 he).2; omega), wu64 (num_iff.1 hn).1 (by have := (num_iff.1 hn).2; omega), ap_eq (by simp; omega)]
  simp only [ob_s, List.cons_append, List.nil_append]
  rw [mark_82 hk ⟨by omega, by omega⟩ (words4 he hn hw) (by simp; omega)]
  rfl
theorem put_38 {e n : Int} {F : Frame} (he : num e = true) (hn : num n = true) (hm : may F = true) (hw : ∀ x ∈ F.Words, isW x) : m_38 e n F = some (putF e n F) := by
  obtain ⟨k0, k1, k2⟩ := may_iff.1 hm
  unfold m_38
  simp only [may_36, hm, ob_s, Bool.not_true, cond_false, num_66, he, hn]
  rw [mark_67 he hn ⟨by omega, k1⟩ k2 hw]
  simp only [ob_s]
  rw [ap_eq (by simp; omega)]
  rfl
theorem put_48 {e n : Int} {F : Frame} (he : num e = true) (hn : num n = true) (hk : 0 ≤ F.Kind ∧ F.Kind ≤ 255) (hl : F.Words.length ≤ 2000) (hw : ∀ x ∈ F.Words, isW x) : m_48 e n F = some (putF e n F) := by
  unfold m_48
  rw [wu64 (num_iff.1 he).1 (by have := (num_iff.1 he).2; omega), wu64 (num_iff.1 hn).1 (by have := (num_iff.1 hn).2; omega), ap_eq (by simp; omega)]
  simp only [ob_s, List.cons_append, List.nil_append]
  rw [mark_69 hk ⟨by omega, by omega⟩ (words4 he hn hw) (by simp; omega)]
  simp only [ob_s]
  rw [ap_eq (by simp; omega)]
  rfl

/-- The frame at the head of words. -/
def getF (e n : Int) : List Int → Option Frame
  | [] => none
  | m :: r => if num e = true ∧ num n = true ∧ 1 ≤ m / 72057594037927936 ∧ m / 72057594037927936 ≤ 255 ∧ m / 4294967296 % 16777216 ≤ 2000 ∧ m / 4294967296 % 16777216 ≤ r.length ∧ markV e n (m / 72057594037927936) (r.take (m / 4294967296 % 16777216).toNat) = m
    then some ⟨m / 72057594037927936, r.take (m / 4294967296 % 16777216).toNat⟩ else none
theorem getF_iff {e n : Int} {l : List Int} {F : Frame} : getF e n l = some F ↔ may F = true ∧ num e = true ∧ num n = true ∧ ∃ r, l = putF e n F ++ r := by
  constructor
  · intro h
    cases l with
    | nil => cases h
    | cons m r =>
      rw [getF] at h
      by_cases hc : num e = true ∧ num n = true ∧ 1 ≤ m / 72057594037927936 ∧ m / 72057594037927936 ≤ 255 ∧ m / 4294967296 % 16777216 ≤ 2000 ∧ m / 4294967296 % 16777216 ≤ r.length ∧ markV e n (m / 72057594037927936) (r.take (m / 4294967296 % 16777216).toNat) = m
      · rw [if_pos hc] at h
        obtain ⟨h1, h2, h3, h4, h5, h6, h7⟩ := hc
        cases h
        refine ⟨may_iff.2 ⟨h3, h4, ?_⟩, h1, h2, r.drop (m / 4294967296 % 16777216).toNat, ?_⟩
        · rw [List.length_take]; omega
        · unfold putF
          rw [h7]
          simp
      · rw [if_neg hc] at h; cases h
  · rintro ⟨hm, he, hn, r, rfl⟩
    obtain ⟨k0, k1, k2⟩ := may_iff.1 hm
    obtain ⟨c0, c1⟩ := crcW_range (F.Kind :: (F.Words.length : Int) :: e :: n :: F.Words)
    have hmv : markV e n F.Kind F.Words = F.Kind * 72057594037927936 + (F.Words.length : Int) * 4294967296 + crcW (F.Kind :: (F.Words.length : Int) :: e :: n :: F.Words) := rfl
    have e1 : markV e n F.Kind F.Words / 72057594037927936 = F.Kind := by rw [hmv]; omega
    have e2 : markV e n F.Kind F.Words / 4294967296 % 16777216 = F.Words.length := by rw [hmv]; omega
    have e3 : (F.Words ++ r).take F.Words.length = F.Words := by simp
    unfold putF
    rw [List.cons_append, getF, e1, e2, Int.toNat_natCast, e3]
    rw [if_pos ⟨he, hn, k0, k1, by omega, by rw [List.length_append]; omega, rfl⟩]
theorem getF_zero {e n : Int} (r : List Int) : getF e n (0 :: r) = none := by
  rw [getF, if_neg]
  rintro ⟨_, _, h, _⟩
  simp at h
theorem getF_nil {e n : Int} : getF e n [] = none := rfl

/-- What Get hands back. -/
def gotF : Option Frame → Frame × Int × Bool
  | none => (⟨0, []⟩, 0, false)
  | some F => (F, 1 + (F.Words.length : Int), true)
theorem clone_39 {l : List Int} (h : l.length < 4294967296) : m_39 l = some l := by
  unfold m_39
  rw [ap_eq (by simpa using h)]
  rfl
theorem guard_get {l : List Int} {e n : Int} (f g : Int → Option Bool) (hf : ∀ x, f x = some (num x)) :
    (bif (l.length : Int) == 0 then (some true) else (ob (f e) fun y1 => bif !y1 then (some true) else (ob (f n) fun y2 => some (!y2)))) = some (l.isEmpty || !num e || !num n) := by
  simp only [hf, ob_s]
  cases l with
  | nil => rfl
  | cons a r =>
    have : (((a :: r).length : Int) == 0) = false := by simp; omega
    rw [this]
    cases num e <;> cases num n <;> rfl
theorem get_81 {e n : Int} {l : List Int} (hw : ∀ x ∈ l, isW x) (hl : l.length < 268435456) : m_81 e n l = some (gotF (getF e n l)) := by
  unfold m_81
  rw [guard_get m_66 m_66 num_66]
  simp only [ob_s]
  cases l with
  | nil => rfl
  | cons m r =>
    simp only [List.isEmpty_cons, Bool.false_or]
    cases he : num e with
    | false => simp [getF, he, gotF]
    | true =>
    cases hn : num n with
    | false => simp [getF, hn, gotF]
    | true =>
    simp only [Bool.not_true, Bool.or_self, cond_false]
    obtain ⟨m0, m1⟩ := hw m List.mem_cons_self
    have hg : gt (m :: r) 0 = some m := rfl
    rw [hg]
    simp only [ob_s]
    have hd1 : Int.fdiv m (2 ^ min (Int.toNat 56) (IntKind.bits .u64)) = m / 72057594037927936 := by
      show Int.fdiv m 72057594037927936 = _
      exact Int.fdiv_eq_ediv_of_nonneg _ (by decide)
    have hd2 : Int.fdiv m (2 ^ min (Int.toNat 32) (IntKind.bits .u64)) = m / 4294967296 := by
      show Int.fdiv m 4294967296 = _
      exact Int.fdiv_eq_ediv_of_nonneg _ (by decide)
    have ha : IntKind.wrap .u64 (BitVec.ofInt (IntKind.bits .u64) (m / 4294967296) &&& BitVec.ofInt (IntKind.bits .u64) 16777215).toNat = m / 4294967296 % 16777216 := by
      show IntKind.wrap .u64 ((BitVec.ofInt 64 (m / 4294967296) &&& BitVec.ofInt 64 16777215).toNat : Int) = _
      have e1 : (BitVec.ofInt 64 (m / 4294967296)).toNat = (m / 4294967296).toNat := by rw [BitVec.toNat_ofInt]; omega
      have e2 : (BitVec.ofInt 64 16777215).toNat = 2 ^ 24 - 1 := rfl
      rw [BitVec.toNat_and, e1, e2, Nat.and_two_pow_sub_one_eq_mod, wu64 (by omega) (by omega)]
      omega
    unfold m_91
    rw [hd1, hd2, ha, wi64 (x := m / 72057594037927936) (by omega) (by omega), wi64 (x := m / 4294967296 % 16777216) (by omega) (by omega)]
    simp only [ob_s]
    simp only [List.length_cons] at hl
    rw [show IntKind.wrap .i64 (((m :: r).length : Int) - 1) = (r.length : Int) from by rw [wi64 (by rw [List.length_cons]; omega) (by rw [List.length_cons]; omega)]; simp]
    by_cases h6 : m / 4294967296 % 16777216 ≤ r.length
    · have hf : decide (m / 4294967296 % 16777216 > (r.length : Int)) = false := by simp; omega
      rw [hf]
      simp only [cond_false]
      obtain ⟨q, hq⟩ := Int.eq_ofNat_of_zero_le (show 0 ≤ m / 4294967296 % 16777216 by omega)
      rw [hq]
      have e1 : IntKind.wrap .i64 (1 + (q : Int)) = ((1 + q : Nat) : Int) := by rw [wi64 (by omega) (by omega)]; omega
      rw [e1, show (1 : Int) = ((1 : Nat) : Int) from rfl, sl_eq (by omega) (by simp; omega)]
      have e2 : ((m :: r).take (1 + q)).drop 1 = r.take q := by rw [Nat.add_comm]; simp
      simp only [ob_s, e2]
      rw [clone_39 (by rw [List.length_take]; omega)]
      simp only [ob_s, may_36]
      have hwt : ∀ x ∈ r.take q, isW x := fun x hx => hw x (List.mem_cons_of_mem _ (List.mem_of_mem_take hx))
      have hlt : (r.take q).length = q := by rw [List.length_take]; omega
      cases hm : may ⟨m / 72057594037927936, r.take q⟩ with
      | false =>
        simp only [Bool.not_false, cond_true, ob_s]
        rw [getF, if_neg]
        · rfl
        · rintro ⟨_, _, h3, h4, h5, _, _⟩
          have : may ⟨m / 72057594037927936, r.take q⟩ = true := may_iff.2 ⟨h3, h4, by simp only [hlt]; omega⟩
          rw [hm] at this; cases this
      | true =>
        obtain ⟨k0, k1, k2⟩ := may_iff.1 hm
        simp only at k0 k1 k2
        simp only [Bool.not_true, cond_false, ob_s]
        rw [mark_67 he hn ⟨by omega, k1⟩ k2 hwt]
        simp only [ob_s]
        by_cases h7 : markV e n (m / 72057594037927936) (r.take q) = m
        · have hb : (markV e n (m / 72057594037927936) (r.take q) != m) = false := by simp [h7]
          rw [hb]
          simp only [cond_false]
          rw [getF, hq, Int.toNat_natCast, if_pos ⟨he, hn, k0, k1, by omega, by omega, h7⟩]
          simp only [gotF, hlt]
          have e3 : ((1 + q : Nat) : Int) = 1 + (q : Int) := by omega
          rw [e3]
        · have hb : (markV e n (m / 72057594037927936) (r.take q) != m) = true := by simp [h7]
          rw [hb]
          simp only [cond_true]
          rw [getF, if_neg]
          · rfl
          · rintro ⟨_, _, _, _, _, _, h⟩
            rw [hq, Int.toNat_natCast] at h
            exact h7 h
    · have hf : decide (m / 4294967296 % 16777216 > (r.length : Int)) = true := by simp; omega
      rw [hf]
      simp only [cond_true]
      rw [getF, if_neg]
      · rfl
      · rintro ⟨_, _, _, _, _, h, _⟩; exact h6 h
end Go.Proofs.Ytdkfdmalbbfbmaa

/- Plain laws: the document's Get; all frames of a stream. -/
namespace Go.Proofs.Ytdkfdmalbbfbmaa
open Go
set_option maxRecDepth 4000

theorem get_42 {e n : Int} {l : List Int} (hw : ∀ x ∈ l, isW x) (hl : l.length < 268435456) : m_42 e n l = some (gotF (getF e n l)) := by
  unfold m_42
  rw [guard_get m_68 m_68 num_68]
  simp only [ob_s]
  cases l with
  | nil => rfl
  | cons m r =>
    simp only [List.isEmpty_cons, Bool.false_or]
    cases he : num e with
    | false => simp [getF, he, gotF]
    | true =>
    cases hn : num n with
    | false => simp [getF, hn, gotF]
    | true =>
    simp only [Bool.not_true, Bool.or_self, cond_false]
    obtain ⟨m0, m1⟩ := hw m List.mem_cons_self
    have hg : gt (m :: r) 0 = some m := rfl
    rw [hg]
    simp only [ob_s]
    simp only [List.length_cons] at hl
    have hd1 : Int.tdiv m 72057594037927936 = m / 72057594037927936 := Int.tdiv_eq_ediv_of_nonneg m0
    have hd2 : Int.tdiv m 4294967296 = m / 4294967296 := Int.tdiv_eq_ediv_of_nonneg m0
    have hmm : Int.tmod (m / 4294967296) 16777216 = m / 4294967296 % 16777216 := Int.tmod_eq_emod_of_nonneg (by omega)
    rw [hd1, hd2, wu64 (x := m / 72057594037927936) (by omega) (by omega), wu64 (x := m / 4294967296) (by omega) (by omega), hmm, wi64 (x := m / 72057594037927936) (by omega) (by omega), wi64 (x := m / 4294967296 % 16777216) (by omega) (by omega)]
    obtain ⟨q, hq⟩ := Int.eq_ofNat_of_zero_le (show 0 ≤ m / 4294967296 % 16777216 by omega)
    have q24 : q < 16777216 := by omega
    rw [hq]
    have e0 : IntKind.wrap .i64 ((q : Int) + 1) = (q : Int) + 1 := wi64 (by omega) (by omega)
    have e1 : IntKind.wrap .i64 (1 + (q : Int)) = ((1 + q : Nat) : Int) := by rw [wi64 (by omega) (by omega)]; omega
    rw [e0, e1]
    by_cases h3 : m / 72057594037927936 = 0
    · have hb : (m / 72057594037927936 == 0) = true := by simp [h3]
      rw [hb]
      simp only [cond_true, ob_s]
      rw [getF, if_neg]
      · rfl
      · rintro ⟨_, _, h, _⟩; omega
    · have hb : (m / 72057594037927936 == 0) = false := by simp [h3]
      rw [hb]
      simp only [cond_false]
      by_cases h5 : q ≤ 2000
      · have hf : decide ((q : Int) > 2000) = false := by simp; omega
        rw [hf]
        simp only [cond_false, ob_s]
        by_cases h6 : q ≤ r.length
        · have hf : decide ((q : Int) + 1 > ((m :: r).length : Int)) = false := by simp; omega
          rw [hf]
          simp only [cond_false]
          rw [show (1 : Int) = ((1 : Nat) : Int) from rfl, sl_eq (by omega) (by simp; omega)]
          have e2 : ((m :: r).take (1 + q)).drop 1 = r.take q := by rw [Nat.add_comm]; simp
          simp only [ob_s, e2]
          have hlt : (r.take q).length = q := by rw [List.length_take]; omega
          rw [ap_eq (by simp; omega)]
          simp only [ob_s, List.nil_append]
          have hwt : ∀ x ∈ r.take q, isW x := fun x hx => hw x (List.mem_cons_of_mem _ (List.mem_of_mem_take hx))
          rw [put_48 (F := ⟨m / 72057594037927936, r.take q⟩) he hn ⟨by show 0 ≤ m / 72057594037927936; omega, by show m / 72057594037927936 ≤ 255; omega⟩ (by simp only [hlt]; exact h5) hwt]
          have hg2 : gt (putF e n ⟨m / 72057594037927936, r.take q⟩) 0 = some (markV e n (m / 72057594037927936) (r.take q)) := rfl
          simp only [ob_s]
          rw [hg2]
          simp only [ob_s]
          by_cases h7 : markV e n (m / 72057594037927936) (r.take q) = m
          · have hb : (markV e n (m / 72057594037927936) (r.take q) != m) = false := by simp [h7]
            rw [hb]
            simp only [cond_false]
            rw [getF, hq, Int.toNat_natCast, if_pos ⟨he, hn, by omega, by omega, by omega, by omega, h7⟩]
            simp only [gotF, hlt]
            have e3 : (q : Int) + ((1 : Nat) : Int) = 1 + (q : Int) := by omega
            rw [e3]
          · have hb : (markV e n (m / 72057594037927936) (r.take q) != m) = true := by simp [h7]
            rw [hb]
            simp only [cond_true]
            rw [getF, if_neg]
            · rfl
            · rintro ⟨_, _, _, _, _, _, h⟩
              rw [hq, Int.toNat_natCast] at h
              exact h7 h
        · have hf : decide ((q : Int) + 1 > ((m :: r).length : Int)) = true := by simp; omega
          rw [hf]
          simp only [cond_true]
          rw [getF, if_neg]
          · rfl
          · rintro ⟨_, _, _, _, _, h, _⟩; omega
      · have hf : decide ((q : Int) > 2000) = true := by simp; omega
        rw [hf]
        simp only [cond_true, ob_s]
        rw [getF, if_neg]
        · rfl
        · rintro ⟨_, _, _, _, h, _⟩; omega

theorem getF_len {e n : Int} {l : List Int} {F : Frame} (h : getF e n l = some F) : 1 + F.Words.length ≤ l.length := by
  obtain ⟨_, _, _, r, rfl⟩ := getF_iff.1 h
  simp [putF]; omega
/-- All frames at the head of words, and how many words they take. -/
def allF (e : Int) (n : Nat) (l : List Int) : List Frame × Nat :=
  match h : getF e n l with
  | none => ([], 0)
  | some F =>
    let r := allF e (n + 1) (l.drop (1 + F.Words.length))
    (F :: r.1, 1 + F.Words.length + r.2)
termination_by l.length
decreasing_by
  have := getF_len h
  simp; omega
theorem allF_none {e : Int} {n : Nat} {l : List Int} (h : getF e n l = none) : allF e n l = ([], 0) := by
  rw [allF]
  split
  · rfl
  · rename_i F hF; rw [h] at hF; cases hF
theorem allF_some {e : Int} {n : Nat} {l : List Int} {F : Frame} (h : getF e n l = some F) : allF e n l = (F :: (allF e (n + 1) (l.drop (1 + F.Words.length))).1, 1 + F.Words.length + (allF e (n + 1) (l.drop (1 + F.Words.length))).2) := by
  rw [allF]
  split
  · rename_i hF; rw [h] at hF; cases hF
  · rename_i G hF; rw [h] at hF; cases hF; rfl

/-- The words of frames. -/
def streamF (e : Int) : Nat → List Frame → List Int
  | _, [] => []
  | n, F :: fs => putF e n F ++ streamF e (n + 1) fs
theorem streamF_append (e : Int) : ∀ (n : Nat) (fs gs : List Frame), streamF e n (fs ++ gs) = streamF e n fs ++ streamF e (n + fs.length) gs
  | n, [], gs => by simp [streamF]
  | n, F :: fs, gs => by
    simp only [List.cons_append, streamF, streamF_append e (n + 1) fs gs, List.append_assoc, List.length_cons]
    rw [show n + 1 + fs.length = n + (fs.length + 1) by omega]
theorem putF_len (e n : Int) (F : Frame) : (putF e n F).length = 1 + F.Words.length := by simp [putF]; omega
theorem stream_count (e : Int) : ∀ (n : Nat) (fs : List Frame), fs.length ≤ (streamF e n fs).length
  | n, [] => by simp [streamF]
  | n, F :: fs => by
    have := stream_count e (n + 1) fs
    simp only [streamF, List.length_append, putF_len, List.length_cons]; omega
/-- What all frames are: exactly the frames at the head, in this epoch. -/
theorem allF_spec (e : Int) : ∀ (k : Nat) (n : Nat) (l : List Int), l.length ≤ k → ∃ r, l = streamF e n (allF e n l).1 ++ r ∧ (allF e n l).2 = (streamF e n (allF e n l).1).length ∧ (∀ F ∈ (allF e n l).1, may F = true) ∧ getF e ((n + (allF e n l).1.length : Nat) : Int) r = none := by
  intro k
  induction k with
  | zero =>
    intro n l hl
    have : l = [] := List.eq_nil_of_length_eq_zero (by omega)
    subst this
    rw [allF_none rfl]
    exact ⟨[], rfl, rfl, (fun F h => absurd h List.not_mem_nil), rfl⟩
  | succ k ih =>
    intro n l hl
    cases h : getF e n l with
    | none => rw [allF_none h]; exact ⟨l, rfl, rfl, fun F h => (by cases h), by simpa using h⟩
    | some F =>
      have hlen := getF_len h
      obtain ⟨hm, he, hn, r, hr⟩ := getF_iff.1 h
      obtain ⟨r2, h1, h2, h3, h4⟩ := ih (n + 1) (l.drop (1 + F.Words.length)) (by simp; omega)
      have hd : l.drop (1 + F.Words.length) = r := by rw [hr, ← putF_len e n F, List.drop_left]
      rw [allF_some h]
      refine ⟨r2, ?_, ?_, ?_, ?_⟩
      · simp only [streamF, List.append_assoc]
        rw [← h1, hd]; exact hr
      · simp only [streamF, List.length_append, putF_len, h2]
      · intro G hG
        rcases List.mem_cons.1 hG with rfl | hG
        · exact hm
        · exact h3 G hG
      · simp only [List.length_cons]
        rw [show n + ((allF e (n + 1) (l.drop (1 + F.Words.length))).1.length + 1) = n + 1 + (allF e (n + 1) (l.drop (1 + F.Words.length))).1.length by omega]
        exact h4
theorem allF_of (e : Int) (he : num e = true) : ∀ (fs : List Frame) (n : Nat) (r : List Int), (∀ F ∈ fs, may F = true) → n + fs.length ≤ 4294967296 → getF e ((n + fs.length : Nat) : Int) r = none → allF e n (streamF e n fs ++ r) = (fs, (streamF e n fs).length)
  | [], n, r, _, _, h => by simpa [streamF] using allF_none (by simpa using h)
  | F :: fs, n, r, hm, hn, h => by
    have hg : getF e n (streamF e n (F :: fs) ++ r) = some F := getF_iff.2 ⟨hm F List.mem_cons_self, he, num_iff.2 ⟨by omega, by simp only [List.length_cons] at hn; omega⟩, streamF e (n + 1) fs ++ r, by simp [streamF]⟩
    rw [allF_some hg]
    have hd : (streamF e n (F :: fs) ++ r).drop (1 + F.Words.length) = streamF e (n + 1) fs ++ r := by
      simp only [streamF, List.append_assoc]
      rw [← putF_len e n F, List.drop_left]
    rw [hd, allF_of e he fs (n + 1) r (fun G hG => hm G (List.mem_cons_of_mem _ hG)) (by simp only [List.length_cons] at hn; omega) (by
      rw [show n + 1 + fs.length = n + (F :: fs).length by simp; omega]; exact h)]
    simp [streamF, putF_len]

theorem isW_drop {l : List Int} (hw : ∀ x ∈ l, isW x) (k : Nat) : ∀ x ∈ l.drop k, isW x := fun x hx => hw x (List.mem_of_mem_drop hx)
theorem isW_take {l : List Int} (hw : ∀ x ∈ l, isW x) (k : Nat) : ∀ x ∈ l.take k, isW x := fun x hx => hw x (List.mem_of_mem_take hx)

theorem all_loop {e : Int} {l : List Int} (hw : ∀ x ∈ l, isW x) (hl : l.length < 268435456) : ∀ (k at_ n : Nat) (fs : List Frame), l.length - at_ ≤ k → at_ ≤ l.length → n = fs.length → n ≤ at_ →
    loopO (m_80_1b c34 e l) ((at_ : Int), (n : Int), (fs, (at_ : Int))) = some (.inr (fs ++ (allF e n (l.drop at_)).1, ((at_ + (allF e n (l.drop at_)).2 : Nat) : Int))) := by
  intro k
  induction k with
  | zero =>
    intro at_ n fs hk hat hn hna
    have hd : l.drop at_ = [] := List.drop_eq_nil_of_le (by omega)
    rw [loopO_eq]
    dsimp only [m_80_1b]
    rw [sl_from hat, hd]
    simp only [ob_s]
    rw [get_81 (fun x h => by cases h) (by simp)]
    rw [allF_none (l := []) rfl]
    simp [gotF, getF]
  | succ k ih =>
    intro at_ n fs hk hat hn hna
    rw [loopO_eq]
    dsimp only [m_80_1b]
    rw [sl_from hat]
    simp only [ob_s]
    rw [get_81 (isW_drop hw _) (by simp; omega)]
    simp only [ob_s]
    cases h : getF e n (l.drop at_) with
    | none =>
      rw [allF_none h]
      simp [gotF]
    | some F =>
      have hlen := getF_len h
      simp only [List.length_drop] at hlen
      have hfs : fs.length < 4294967295 := by omega
      have e1 : IntKind.wrap .i64 ((at_ : Int) + (1 + (F.Words.length : Int))) = ((at_ + (1 + F.Words.length) : Nat) : Int) := by rw [wi64 (by omega) (by omega)]; omega
      have e2 : IntKind.wrap .i64 ((n : Int) + 1) = ((n + 1 : Nat) : Int) := by rw [wi64 (by omega) (by omega)]; omega
      simp only [gotF, Bool.not_true, cond_false, c34, e1, e2]
      rw [ap_eq (by simp; omega)]
      simp only [ob_s, cond_false]
      rw [ih (at_ + (1 + F.Words.length)) (n + 1) (fs ++ [F]) (by omega) (by omega) (by simp [hn]) (by omega)]
      rw [allF_some h, List.drop_drop]
      simp only [List.append_assoc, List.cons_append, List.nil_append]
      congr 4
      omega
theorem all_34 {e : Int} {l : List Int} (hw : ∀ x ∈ l, isW x) (hl : l.length < 268435456) : m_34 e l = some ((allF e 0 l).1, ((allF e 0 l).2 : Int)) := by
  unfold m_34 m_80
  have := all_loop (e := e) hw hl l.length 0 0 [] (by omega) (by omega) rfl (by omega)
  simp only [List.drop_zero, List.nil_append, Nat.zero_add] at this
  rw [show ((0 : Int), (0 : Int), (([] : List Frame), (0 : Int))) = (((0 : Nat) : Int), ((0 : Nat) : Int), (([] : List Frame), ((0 : Nat) : Int))) from rfl, this]
  rfl
theorem ref_loop {e : Int} {l : List Int} (hw : ∀ x ∈ l, isW x) (hl : l.length < 268435456) (a : List Frame) (b : Int) : ∀ (k at_ : Nat) (fs : List Frame), l.length - at_ ≤ k → at_ ≤ l.length → fs.length ≤ at_ →
    loopO (m_15_1b e l) (a, b, fs, (at_ : Int)) = some (.inr (fs ++ (allF e fs.length (l.drop at_)).1, ((at_ + (allF e fs.length (l.drop at_)).2 : Nat) : Int))) := by
  intro k
  induction k with
  | zero =>
    intro at_ fs hk hat hna
    have hd : l.drop at_ = [] := List.drop_eq_nil_of_le (by omega)
    rw [loopO_eq]
    dsimp only [m_15_1b]
    rw [sl_from hat, hd]
    simp only [ob_s]
    rw [get_42 (fun x h => by cases h) (by simp)]
    rw [allF_none (l := []) rfl]
    simp [gotF, getF]
  | succ k ih =>
    intro at_ fs hk hat hna
    rw [loopO_eq]
    dsimp only [m_15_1b]
    rw [sl_from hat]
    simp only [ob_s]
    rw [get_42 (isW_drop hw _) (by simp; omega)]
    simp only [ob_s]
    cases h : getF e fs.length (l.drop at_) with
    | none =>
      rw [allF_none h]
      simp [gotF]
    | some F =>
      have hlen := getF_len h
      simp only [List.length_drop] at hlen
      have hfs : fs.length < 4294967295 := by omega
      have e1 : IntKind.wrap .i64 ((at_ : Int) + (1 + (F.Words.length : Int))) = ((at_ + (1 + F.Words.length) : Nat) : Int) := by rw [wi64 (by omega) (by omega)]; omega
      simp only [gotF, Bool.not_true, cond_false, e1]
      rw [ap_eq (by simp; omega)]
      simp only [ob_s]
      rw [ih (at_ + (1 + F.Words.length)) (fs ++ [F]) (by omega) (by omega) (by simp; omega)]
      rw [allF_some h, List.drop_drop]
      simp only [List.append_assoc, List.cons_append, List.nil_append, List.length_append, List.length_cons, List.length_nil, Nat.zero_add]
      congr 4
      omega
theorem all_15 {e : Int} {l : List Int} (hw : ∀ x ∈ l, isW x) (hl : l.length < 268435456) : m_15 e l = some ((allF e 0 l).1, ((allF e 0 l).2 : Int)) := by
  unfold m_15
  have := ref_loop (e := e) hw hl [] 0 l.length 0 [] (by omega) (by omega) (by simp)
  simp only [List.drop_zero, List.nil_append, Nat.zero_add, List.length_nil] at this
  rw [show (([] : List Frame), (0 : Int), ([] : List Frame), (0 : Int)) = (([] : List Frame), (0 : Int), ([] : List Frame), ((0 : Nat) : Int)) from rfl, this]
  rfl
end Go.Proofs.Ytdkfdmalbbfbmaa
