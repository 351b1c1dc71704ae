/- Plain laws: anchors; streams; what a vault has. -/
import Derived.Test.YtdkfdmalbbfbmaaGreatMWL21
import Derived.Test.YtdkfdmalbbfbmaaGreatMWL27
/- Plain laws: anchors; streams; what a vault has. -/
namespace Go.Proofs.YtdkfdmalbbfbmaaGreat
open Go
set_option maxRecDepth 4000

def okA (a : Anchor) : Bool := decide (1 ≤ a.Number) && decide (a.Number ≤ 4294967295) && (decide (0 ≤ a.Epoch) && decide (a.Epoch ≤ 4294967295)) && (decide (0 ≤ a.Area) && decide (a.Area ≤ 1)) && (decide (0 ≤ a.Words) && decide (a.Words ≤ 1048576))
theorem okA_iff {a : Anchor} : okA a = true ↔ 1 ≤ a.Number ∧ a.Number ≤ 4294967295 ∧ 0 ≤ a.Epoch ∧ a.Epoch ≤ 4294967295 ∧ 0 ≤ a.Area ∧ a.Area ≤ 1 ∧ 0 ≤ a.Words ∧ a.Words ≤ 1048576 := by
  simp [okA, and_assoc]
theorem may_89 (a : Anchor) : m_89 a = some (okA a) := by
  have h : ∀ x lo hi : Int, m_97 x lo hi = some (decide (lo ≤ x) && decide (x ≤ hi)) := fun x lo hi => by
    unfold m_97
    have e : decide (x ≥ lo) = decide (lo ≤ x) := rfl
    rw [e]
    cases decide (lo ≤ x) <;> rfl
  unfold m_89 okA
  rw [h, h, h, h]
  simp only [ob_s]
  cases decide (1 ≤ a.Number) && decide (a.Number ≤ 4294967295) <;> cases decide (0 ≤ a.Epoch) && decide (a.Epoch ≤ 4294967295) <;> cases decide (0 ≤ a.Area) && decide (a.Area ≤ 1) <;> cases decide (0 ≤ a.Words) && decide (a.Words ≤ 1048576) <;> rfl
def wordsA (a : Anchor) : List Int := [a.Number, a.Epoch, a.Area, a.Words]
def secA (a : Anchor) : Sec := markI 9 (a.Number % 16777216) (wordsA a) :: a.Number :: a.Epoch :: a.Area :: a.Words :: [0, 0, 0]
theorem and_mask {x : Int} {k : IntKind} {q : Nat} (hk : IntKind.bits k = 64) (h0 : 0 ≤ x) (h1 : x < 18446744073709551616) (hq : q ≤ 32) : ((BitVec.ofInt (IntKind.bits k) x &&& BitVec.ofInt (IntKind.bits k) ((2 ^ q - 1 : Nat) : Int)).toNat : Int) = x % ((2 ^ q : Nat) : Int) := by
  obtain ⟨n, rfl⟩ := Int.eq_ofNat_of_zero_le h0
  have hn : n < 18446744073709551616 := by omega
  have h2 : 2 ^ q ≤ 2 ^ 32 := Nat.pow_le_pow_right (by decide) hq
  have h3 : (2 : Nat) ^ 32 = 4294967296 := rfl
  rw [hk, BitVec.toNat_and]
  have e1 : (BitVec.ofInt 64 (n : Int)).toNat = n := by
    rw [show BitVec.ofInt 64 (n : Int) = BitVec.ofNat 64 n from BitVec.ofInt_natCast .., BitVec.toNat_ofNat, Nat.mod_eq_of_lt (by omega)]
  have e2 : (BitVec.ofInt 64 ((2 ^ q - 1 : Nat) : Int)).toNat = 2 ^ q - 1 := by
    rw [show BitVec.ofInt 64 ((2 ^ q - 1 : Nat) : Int) = BitVec.ofNat 64 (2 ^ q - 1) from BitVec.ofInt_natCast .., BitVec.toNat_ofNat, Nat.mod_eq_of_lt (by omega)]
  rw [e1, e2, Nat.and_two_pow_sub_one_eq_mod]
  rfl
theorem sector_79 {a : Anchor} (h : okA a = true) : m_79 a = some (secA a, true) := by
  obtain ⟨a0, a1, a2, a3, a4, a5, a6, a7⟩ := okA_iff.1 h
  unfold m_79
  rw [may_89, h]
  simp only [ob_s, Bool.not_true, cond_false, m_90]
  have e := and_mask (x := a.Number) (k := .i64) (q := 24) rfl (by omega) (by omega) (by decide)
  have e : ((BitVec.ofInt (IntKind.bits .i64) a.Number &&& BitVec.ofInt (IntKind.bits .i64) 16777215).toNat : Int) = a.Number % 16777216 := e
  rw [e, wi64 (by omega) (by omega), wu64 (by omega) (by omega), wu64 (by omega) (by omega), wu64 (by omega) (by omega), wu64 (by omega) (by omega)]
  show ob (m_82 9 (a.Number % 16777216) (wordsA a)) _ = _
  rw [mark_82 (l := wordsA a) ⟨by decide, by decide⟩ ⟨by omega, by omega⟩ (by
    intro x hx
    simp only [wordsA, List.mem_cons, List.not_mem_nil, or_false] at hx
    rcases hx with rfl | rfl | rfl | rfl <;> exact ⟨by omega, by omega⟩) (by simp [wordsA])]
  rfl
theorem sector_no {a : Anchor} (h : okA a = false) : m_79 a = some (List.replicate 8 0, false) := by
  unfold m_79
  rw [may_89, h]; rfl
theorem secA_isS {a : Anchor} (h : okA a = true) : isS (secA a) := by
  obtain ⟨a0, a1, a2, a3, a4, a5, a6, a7⟩ := okA_iff.1 h
  refine ⟨rfl, fun x hx => ?_⟩
  have hm : isW (markI 9 (a.Number % 16777216) (wordsA a)) := by
    have hc := crcW_range (9 :: (a.Number % 16777216) :: wordsA a)
    have e : markI 9 (a.Number % 16777216) (wordsA a) = 9 * 72057594037927936 + (a.Number % 16777216) * 4294967296 + crcW (9 :: (a.Number % 16777216) :: wordsA a) := rfl
    obtain ⟨c0, c1⟩ := hc
    constructor <;> rw [e] <;> omega
  simp only [secA, List.mem_cons, List.not_mem_nil, or_false] at hx
  rcases hx with rfl | rfl | rfl | rfl | rfl | rfl | rfl | rfl
  · exact hm
  all_goals exact ⟨by omega, by omega⟩

def lowA (s : Sec) (i : Nat) : Int := ((s[i]?).getD 0) % 4294967296
def rawA (s : Sec) : Anchor := ⟨lowA s 1, lowA s 2, lowA s 3, lowA s 4⟩
def getA (s : Sec) : Option Anchor := if okA (rawA s) = true ∧ secA (rawA s) = s then some (rawA s) else none
theorem rawA_secA {a : Anchor} (h : okA a = true) : rawA (secA a) = a := by
  obtain ⟨a0, a1, a2, a3, a4, a5, a6, a7⟩ := okA_iff.1 h
  cases a with
  | mk N E A W =>
    simp only at a0 a1 a2 a3 a4 a5 a6 a7
    have e1 : N % 4294967296 = N := by omega
    have e2 : E % 4294967296 = E := by omega
    have e3 : A % 4294967296 = A := by omega
    have e4 : W % 4294967296 = W := by omega
    show (⟨N % 4294967296, E % 4294967296, A % 4294967296, W % 4294967296⟩ : Anchor) = _
    rw [e1, e2, e3, e4]
theorem getA_iff {s : Sec} {a : Anchor} : getA s = some a ↔ okA a = true ∧ s = secA a := by
  unfold getA
  constructor
  · intro h
    split at h
    · rename_i hc
      obtain rfl := Option.some.inj h
      exact ⟨hc.1, hc.2.symm⟩
    · cases h
  · rintro ⟨h, rfl⟩
    rw [rawA_secA h, if_pos ⟨h, rfl⟩]
theorem getA_Z8 : getA Z8 = none := by
  unfold getA
  rw [if_neg]
  rintro ⟨h, _⟩
  exact absurd h (by decide)
def gotA : Option Anchor → Anchor × Bool
  | some a => (a, true)
  | none => (⟨0, 0, 0, 0⟩, false)
theorem read_72 {s : Sec} (hs : isS s) : m_72 s = some (gotA (getA s)) := by
  have h86 : ∀ i : Nat, i < 8 → m_86 (i : Int) s = some (lowA s i) := fun i hi => by
    have hl : i < s.length := by rw [hs.1]; exact hi
    have hx := hs.2 _ (List.getElem_mem hl)
    unfold m_86
    rw [show (decide (0 ≤ (i : Int)) && decide ((i : Int) < 8)) = true by simp; omega, gt_eq hl]
    simp only [gd_t, ob_s]
    have e := and_mask (x := s[i]) (k := .u64) (q := 32) rfl hx.1 hx.2 (by decide)
    have e : ((BitVec.ofInt (IntKind.bits .u64) s[i] &&& BitVec.ofInt (IntKind.bits .u64) 4294967295).toNat : Int) = s[i] % 4294967296 := e
    rw [e, wu64 (by omega) (by omega), wi64 (by omega) (by omega)]
    unfold lowA
    rw [List.getElem?_eq_getElem hl]; rfl
  unfold m_72
  rw [show (1 : Int) = ((1 : Nat) : Int) from rfl, h86 1 (by decide), show (2 : Int) = ((2 : Nat) : Int) from rfl, h86 2 (by decide), show (3 : Int) = ((3 : Nat) : Int) from rfl, h86 3 (by decide), show (4 : Int) = ((4 : Nat) : Int) from rfl, h86 4 (by decide)]
  simp only [ob_s]
  show ob (m_79 (rawA s)) _ = _
  cases h : okA (rawA s) with
  | false =>
    rw [sector_no h]
    simp only [ob_s, Bool.not_false, cond_true]
    unfold getA
    rw [if_neg (by rw [h]; simp)]
    rfl
  | true =>
    rw [sector_79 h]
    simp only [ob_s, Bool.not_true, cond_false]
    by_cases e : secA (rawA s) = s
    · rw [show decide (secA (rawA s) = s) = true by simpa using e]
      simp only [Bool.not_true, cond_false]
      unfold getA
      rw [if_pos ⟨h, e⟩]; rfl
    · rw [show decide (secA (rawA s) = s) = false by simpa using e]
      simp only [Bool.not_false, cond_true]
      unfold getA
      rw [if_neg (fun q => e q.2)]; rfl

/-- What a place tells. -/
def cand (i : Nat) (s : Sec) : Option Anchor := (getA s).filter fun a => a.Number % 2 == (i : Int)
def findA (s0 s1 : Sec) : Option Anchor := match cand 0 s0, cand 1 s1 with
  | some a, some b => if a.Number < b.Number then some b else some a
  | some a, none => some a
  | none, o => o
theorem cand_iff {i : Nat} {s : Sec} {a : Anchor} : cand i s = some a ↔ okA a = true ∧ s = secA a ∧ a.Number % 2 = (i : Int) := by
  unfold cand
  rw [Option.filter_eq_some_iff, getA_iff, beq_iff_eq, and_assoc]
def maxA : List Anchor → Option Anchor
  | [] => none
  | [a] => some a
  | a :: b :: _ => if a.Number < b.Number then some b else some a
theorem max_73 (l : List Anchor) (h : l.length ≤ 2) : m_73 l = maxA l := by
  have c75 : ∀ x y : Int, m_75 x y = some (if x < y then -1 else if x > y then 1 else 0) := fun x y => by
    unfold m_75 m_87
    simp only [ob_s, bne_self_eq_false, cond_false]
    by_cases h1 : x < y
    · rw [decide_eq_true h1, if_pos h1]; rfl
    · rw [decide_eq_false h1, if_neg h1]
      by_cases h2 : x > y
      · rw [decide_eq_true h2, if_pos h2]; rfl
      · rw [decide_eq_false h2, if_neg h2]; rfl
  match l with
  | [] => rfl
  | [a] =>
    unfold m_73
    have : loopO (m_73_1b [a]) (1, a.Number, a.Epoch, a.Area, a.Words) = some (1, a.Number, a.Epoch, a.Area, a.Words) := loopO_end rfl
    show ob (loopO (m_73_1b [a]) (1, a.Number, a.Epoch, a.Area, a.Words)) m_73_1k = some a
    rw [this]; rfl
  | [a, b] =>
    unfold m_73
    show ob (loopO (m_73_1b [a, b]) (1, a.Number, a.Epoch, a.Area, a.Words)) m_73_1k = _
    have e2 : IntKind.wrap .i64 ((1 : Int) + 1) = 2 := wi64 (by decide) (by decide)
    by_cases hab : a.Number < b.Number
    · have h1 : m_73_1b [a, b] (1, a.Number, a.Epoch, a.Area, a.Words) = some (.inl (2, b.Number, b.Epoch, b.Area, b.Words)) := by
        dsimp only [m_73_1b]
        show ob (m_74 b a) _ = _
        unfold m_74
        rw [c75, if_neg (by omega), if_pos (by omega)]
        simp only [ob_s]
        show ob (some (b.Number, b.Epoch, b.Area, b.Words)) (m_73_2k 1) = _
        simp only [ob_s, m_73_2k, e2]
      rw [loopO_next h1, loopO_end (r := (2, b.Number, b.Epoch, b.Area, b.Words)) rfl]
      simp only [maxA, if_pos hab]
      rfl
    · have h1 : m_73_1b [a, b] (1, a.Number, a.Epoch, a.Area, a.Words) = some (.inl (2, a.Number, a.Epoch, a.Area, a.Words)) := by
        dsimp only [m_73_1b]
        show ob (m_74 b a) _ = _
        unfold m_74
        rw [c75]
        simp only [ob_s]
        have : decide ((if b.Number < a.Number then (-1 : Int) else if b.Number > a.Number then 1 else 0) > 0) = false := by
          rw [decide_eq_false_iff_not]
          split
          · omega
          · (try split) <;> omega
        rw [this]
        simp only [cond_false, ob_s, m_73_2k, e2]
      rw [loopO_next h1, loopO_end (r := (2, a.Number, a.Epoch, a.Area, a.Words)) rfl]
      simp only [maxA, if_neg hab]
      rfl
  | a :: b :: c :: r => simp at h
def foundA : Option Anchor → Anchor × Int
  | some a => (a, 0)
  | none => (⟨0, 0, 0, 0⟩, 5)
theorem find_52 {D : Disk} {n : Nat} (h : Good D n) (h2 : 2 ≤ n) : m_52 D = some (foundA (findA (rdD D 0) (rdD D 1))) := by
  have step : ∀ (i : Nat) (l : List Anchor), i < 2 → l.length < 2 → m_52_1b D (0, l, (i : Int), 0, 0, 0, 0) = some (.inl (0, l ++ (cand i (rdD D (i : Int))).toList, ((i + 1 : Nat) : Int), 0, 0, 0, 0)) := fun i l hi hl => by
    have e2 : IntKind.wrap .i64 ((i : Int) + 1) = ((i + 1 : Nat) : Int) := by rw [wi64 (by omega) (by omega)]; rfl
    dsimp only [m_52_1b]
    rw [show decide ((i : Int) < 2) = true by simp; omega, read_eq h (by omega)]
    simp only [cond_true, ob_s]
    rw [show ((0 : Int) != 0) = false from rfl]
    simp only [cond_false]
    rw [read_72 (rd_isS h (by omega))]
    simp only [ob_s]
    unfold cand
    cases hg : getA (rdD D (i : Int)) with
    | none => simp only [gotA, cond_false, ob_s, m_52_2k, e2]; simp
    | some a =>
      obtain ⟨h1, _⟩ := getA_iff.1 hg
      obtain ⟨a0, _⟩ := okA_iff.1 h1
      simp only [gotA, cond_true, ob_s]
      rw [Int.tmod_eq_emod_of_nonneg (by omega)]
      cases hb : (a.Number % 2 == (i : Int)) with
      | false =>
        simp only [cond_false, ob_s, m_52_2k, e2]
        simp [Option.filter, hb]
      | true =>
        simp only [cond_true]
        rw [ap_eq (by simp; omega)]
        simp only [ob_s, m_52_2k, e2]
        simp [Option.filter, hb]
  unfold m_52
  have c1 : (cand 0 (rdD D 0)).toList.length ≤ 1 := by cases cand 0 (rdD D 0) <;> simp
  have c2 : (cand 1 (rdD D 1)).toList.length ≤ 1 := by cases cand 1 (rdD D 1) <;> simp
  have s0 : m_52_1b D (0, [], 0, 0, 0, 0, 0) = some (.inl (0, (cand 0 (rdD D 0)).toList, 1, 0, 0, 0, 0)) := step 0 [] (by decide) (by decide)
  have s1 : m_52_1b D (0, (cand 0 (rdD D 0)).toList, 1, 0, 0, 0, 0) = some (.inl (0, (cand 0 (rdD D 0)).toList ++ (cand 1 (rdD D 1)).toList, 2, 0, 0, 0, 0)) := step 1 _ (by decide) (by omega)
  rw [loopO_next s0, loopO_next s1, loopO_end (r := .inl (0, (cand 0 (rdD D 0)).toList ++ (cand 1 (rdD D 1)).toList, 2, 0, 0, 0, 0)) (by rfl)]
  simp only [ob_s, m_52_1k]
  unfold findA
  rw [max_73 _ (by simp only [List.length_append]; omega)]
  cases cand 0 (rdD D 0) with
  | none =>
    cases cand 1 (rdD D 1) with
    | none => rfl
    | some b => rfl
  | some a =>
    cases cand 1 (rdD D 1) with
    | none => rfl
    | some b =>
      simp only [Option.toList_some, List.cons_append, List.nil_append]
      by_cases hab : a.Number < b.Number
      · simp only [maxA, if_pos hab]; rfl
      · simp only [maxA, if_neg hab]; rfl
end Go.Proofs.YtdkfdmalbbfbmaaGreat

/- Plain laws: a vault's parts. -/
namespace Go.Proofs.YtdkfdmalbbfbmaaGreat
open Go
set_option maxRecDepth 4000

theorem stream_56 {e : Int} {fs : List Frame} (he : num e = true) (hm : ∀ F ∈ fs, may F = true) (hw : ∀ F ∈ fs, ∀ x ∈ F.Words, isW x) (hl : (streamF e 0 fs).length < 4294967296) : m_56 e fs = some (streamF e 0 fs) := by
  have hc := stream_count e 0 fs
  have h88 : m_88 fs = some (-1) := by
    unfold m_88
    have := loopO_count (f := m_88_1b fs) (fun i => ((0 : Int), (i : Int))) fs.length (r := .inl (0, (fs.length : Int))) (fun i hi => by
      have e2 : IntKind.wrap .i64 ((i : Int) + 1) = ((i + 1 : Nat) : Int) := by rw [wi64 (by omega) (by omega)]; rfl
      dsimp only [m_88_1b]
      rw [show decide ((i : Int) < (fs.length : Int)) = true by simp; omega, gt_eq hi]
      simp only [cond_true, ob_s, m_76]
      rw [may_36, hm _ (List.getElem_mem hi)]
      simp only [ob_s, Bool.not_true, cond_false, e2]) (by
      dsimp only [m_88_1b]
      rw [show decide ((fs.length : Int) < (fs.length : Int)) = false by simp]; rfl)
    have : loopO (m_88_1b fs) (0, 0) = _ := this
    rw [this]; rfl
  unfold m_56 m_77
  rw [num_66, he, h88]
  simp only [ob_s, Bool.not_true, cond_false]
  rw [show decide ((-1 : Int) ≥ 0) = false from rfl]
  simp only [cond_false]
  have := loopO_count (f := m_56_1b e fs) (fun i => (streamF e 0 (fs.take i), (i : Int))) fs.length (r := (streamF e 0 fs, (fs.length : Int))) (fun i hi => by
    have e2 : IntKind.wrap .i64 ((i : Int) + 1) = ((i + 1 : Nat) : Int) := by rw [wi64 (by omega) (by omega)]; rfl
    have hst : streamF e 0 (fs.take (i + 1)) = streamF e 0 (fs.take i) ++ putF e (i : Int) fs[i] := by
      rw [List.take_succ_eq_append_getElem hi, streamF_append]
      simp [streamF, Nat.min_eq_left (show i ≤ fs.length by omega)]
    have hle : (streamF e 0 (fs.take (i + 1))).length ≤ (streamF e 0 fs).length := by
      conv => rhs; rw [← List.take_append_drop (i + 1) fs]
      rw [streamF_append, List.length_append]; omega
    dsimp only [m_56_1b]
    rw [show decide ((i : Int) < (fs.length : Int)) = true by simp; omega, gt_eq hi]
    simp only [cond_true, ob_s]
    rw [put_38 he (num_iff.2 ⟨by omega, by omega⟩) (hm _ (List.getElem_mem hi)) (hw _ (List.getElem_mem hi))]
    simp only [ob_s]
    rw [ap_eq (by rw [hst, List.length_append] at hle; omega)]
    simp only [ob_s, e2, hst]) (by
    dsimp only [m_56_1b]
    rw [show decide ((fs.length : Int) < (fs.length : Int)) = false by simp, List.take_length]; rfl)
  have : loopO (m_56_1b e fs) ([], 0) = _ := this
  rw [this]; rfl

theorem frames_25 {V : VaultM} {fs : List Frame} (h12 : m_12 V.log = some fs) (hl : V.stored.length + fs.length < 4294967295) (hw : ∀ F ∈ V.stored ++ fs, F.Words.length < 4294967296) : m_25 V = some (V.stored ++ fs) := by
  unfold m_25 m_55
  rw [ap_eq (by simp; omega), h12]
  simp only [ob_s, List.nil_append]
  rw [ap_eq (by omega)]
  simp only [ob_s]
  generalize hA : V.stored ++ fs = l at hw ⊢
  have hll : l.length < 4294967295 := by rw [← hA, List.length_append]; exact hl
  have := loopO_count (f := m_25_1b l) (fun i => (l.take i, (i : Int))) l.length (r := (l, (l.length : Int))) (fun i hi => by
    have e2 : IntKind.wrap .i64 ((i : Int) + 1) = ((i + 1 : Nat) : Int) := by rw [wi64 (by omega) (by omega)]; rfl
    dsimp only [m_25_1b]
    rw [show decide ((i : Int) < (l.length : Int)) = true by simp; omega, gt_eq hi]
    simp only [cond_true, ob_s]
    rw [clone_39 (hw _ (List.getElem_mem hi))]
    simp only [ob_s]
    rw [ap_eq (by simp; omega)]
    simp only [ob_s, e2]
    rw [List.take_succ_eq_append_getElem hi]) (by
    dsimp only [m_25_1b]
    rw [show decide ((l.length : Int) < (l.length : Int)) = false by simp, List.take_length]; rfl)
  have : loopO (m_25_1b l) ([], 0) = _ := this
  rw [this]; rfl

/-- Words are written chunk by chunk. -/
theorem cpy_sec {ws ch : List Int} {j : Nat} (h : ch = (ws.take (8 * (j + 1))).drop (8 * j)) : cpy (List.replicate 8 (0 : Int)) 0 ch = secAt ws j := by
  have hcl : ch.length = min (8 * (j + 1)) ws.length - 8 * j := by rw [h]; simp
  have hl : (cpy (List.replicate 8 (0 : Int)) 0 ch).length = 8 := by rw [cpy_len (by simp)]; simp
  refine secAt_eq hl fun k hk => ?_
  have hg : ch[k]? = ws[8 * j + k]? := by
    rw [h, List.getElem?_drop, List.getElem?_take, if_pos (by omega)]
  unfold cpy
  simp only [List.take_zero, List.nil_append, List.length_replicate, Nat.sub_zero, Nat.zero_add]
  rw [List.take_of_length_le (by omega), List.getElem?_append]
  split
  · rename_i hk2
    rw [List.getElem?_eq_getElem hk2, ← hg, List.getElem?_eq_getElem hk2]; rfl
  · rename_i hk2
    rw [List.getElem?_drop, List.getElem?_replicate, if_pos (by omega), ← hg, List.getElem?_eq_none (by omega)]; rfl
def cnt8 (n : Nat) : Nat := (n + 7) / 8
theorem chunks_78 {D : Disk} {n : Nat} (h : Good D n) {ws : List Int} {f : Nat} (hw : ∀ x ∈ ws, isW x) (hf : f + cnt8 ws.length ≤ n) :
    ∃ D' z, m_78 m_26_r1 ws 8 ((f : Int), D) = some (z, D') ∧ Good D' n ∧ absD D' = wsX (absD D) f ws 0 (cnt8 ws.length) := by
  have hsm := h.small
  unfold cnt8 at hf ⊢
  have key : ∀ m, m ≤ (ws.length + 7) / 8 → ∃ D', loopO (m_78_1b m_26_r1 ws 8) (0, ((f : Int), D)) = loopO (m_78_1b m_26_r1 ws 8) (((8 * m : Nat) : Int), (((f + m : Nat) : Int), D')) ∧ Good D' n ∧ absD D' = wsX (absD D) f ws 0 m := by
    intro m
    induction m with
    | zero => intro _; exact ⟨D, rfl, h, rfl⟩
    | succ m ih =>
      intro hm
      obtain ⟨D1, k1, k2, k3⟩ := ih (by omega)
      have hlt : 8 * m < ws.length := by omega
      obtain ⟨D2, g1, g2, g3⟩ := write_eq k2 (i := f + m) (by omega) (secAt_isS hw m)
      refine ⟨D2, ?_, g2, by rw [g3, k3]; simp only [wsX, Nat.zero_add]⟩
      rw [k1]
      refine loopO_next ?_
      have e2 : IntKind.wrap .i64 (((8 * m : Nat) : Int) + 8) = ((8 * (m + 1) : Nat) : Int) := by rw [wi64 (by omega) (by omega)]; omega
      have e3 : IntKind.wrap .i64 (((f + m : Nat) : Int) + 1) = ((f + (m + 1) : Nat) : Int) := by rw [wi64 (by omega) (by omega)]; omega
      dsimp only [m_78_1b]
      rw [show decide (((8 * m : Nat) : Int) < (ws.length : Int)) = true by simp; omega, sl_from (by omega)]
      simp only [cond_true, ob_s]
      have e4 : IntKind.wrap .i64 (((8 * m : Nat) : Int) + (if ((ws.drop (8 * m)).length : Int) < 8 then ((ws.drop (8 * m)).length : Int) else 8)) = ((min (8 * (m + 1)) ws.length : Nat) : Int) := by
        rw [List.length_drop]
        split
        · rw [wi64 (by omega) (by omega)]; omega
        · rw [wi64 (by omega) (by omega)]; omega
      rw [e4, sl_eq (by omega) (by omega)]
      simp only [ob_s]
      have hch : (ws.take (min (8 * (m + 1)) ws.length)).drop (8 * m) = (ws.take (8 * (m + 1))).drop (8 * m) := by
        congr 1
        by_cases hq : 8 * (m + 1) ≤ ws.length
        · rw [Nat.min_eq_left hq]
        · rw [Nat.min_eq_right (by omega), List.take_length, List.take_of_length_le (by omega)]
      rw [hch]
      unfold m_26_r1 mq_60
      simp only
      rw [cpy_sec rfl, g1]
      simp only [ob_s, e2, e3]
  obtain ⟨D1, k1, k2, k3⟩ := key _ (Nat.le_refl _)
  refine ⟨D1, ((f + (ws.length + 7) / 8 : Nat) : Int), ?_, k2, k3⟩
  unfold m_78
  rw [k1, loopO_end (r := (((8 * ((ws.length + 7) / 8) : Nat) : Int), (((f + (ws.length + 7) / 8 : Nat) : Int), D1)))]
  · rfl
  · dsimp only [m_78_1b]
    rw [show decide (((8 * ((ws.length + 7) / 8) : Nat) : Int) < (ws.length : Int)) = false by simp; omega]; rfl

theorem begin_58 {V : Vault0} {a : Nat} (ha : V.area = (a : Int)) (hs : a ≤ 4096) {r : Nat} (hr : r ≤ 2) : m_58 V (r : Int) = some ((2 + r * a : Nat) : Int) := by
  unfold m_58
  rw [ha]
  have h1 : (r : Int) * (a : Int) = ((r * a : Nat) : Int) := by simp
  have h2 : r * a ≤ 2 * 4096 := Nat.mul_le_mul hr hs
  rw [h1, wi64 (x := ((r * a : Nat) : Int)) (by omega) (by omega), wi64 (by omega) (by omega)]
  congr 1
/-- The frames of the area that counts. -/
theorem load_53 {D : Disk} {n : Nat} (h : Good D n) {V : Vault0} {a r w : Nat} (ha : V.area = (a : Int)) (hr : V.at_.Area = (r : Int)) (hw : V.at_.Words = (w : Int)) (hr2 : r ≤ 1) (hfit : 2 + r * a + a ≤ n) (hwa : w ≤ 8 * a) :
    m_53 V D = some (if (allF V.at_.Epoch 0 ((partW (absD D) (2 + r * a) a).take w)).2 = w then (0, ⟨V.area, V.at_, (allF V.at_.Epoch 0 ((partW (absD D) (2 + r * a) a).take w)).1⟩) else (2, V)) := by
  have hsm := h.small
  have hs := abs_isS h
  have hrl := (abs_len h).2.1
  have hpl := part_len (f := 2 + r * a) (k := a) hs (by omega)
  have hpw := part_isW (f := 2 + r * a) (k := a) hs
  unfold m_53
  have e8 : IntKind.wrap .i64 (V.area * 8) = ((8 * a : Nat) : Int) := by rw [ha, wi64 (by omega) (by omega)]; omega
  rw [e8, hw, show decide ((w : Int) > ((8 * a : Nat) : Int)) = false by simp; omega]
  simp only [cond_false]
  have := loopO_count (f := m_53_1b V D) (fun i => ((0 : Int), (((absD D).Read.drop (2 + r * a)).take i).flatten, (i : Int))) a (r := .inl (0, partW (absD D) (2 + r * a) a, (a : Int))) (fun i hi => by
    have e2 : IntKind.wrap .i64 ((i : Int) + 1) = ((i + 1 : Nat) : Int) := by rw [wi64 (by omega) (by omega)]; rfl
    have e3 : IntKind.wrap .i64 (((2 + r * a : Nat) : Int) + (i : Int)) = ((2 + r * a + i : Nat) : Int) := by rw [wi64 (by omega) (by omega)]; omega
    have hl : (((absD D).Read.drop (2 + r * a)).take i).flatten.length = 8 * i := by
      rw [words_len (fun s hh => hs s (List.mem_of_mem_drop (List.mem_of_mem_take hh))), List.length_take, List.length_drop]; omega
    dsimp only [m_53_1b]
    rw [ha, show decide ((i : Int) < (a : Int)) = true by simp; omega, hr, begin_58 ha (by omega) (by omega)]
    simp only [cond_true, ob_s]
    rw [e3, read_eq h (by omega)]
    simp only [ob_s]
    rw [show ((0 : Int) != 0) = false from rfl]
    simp only [cond_false]
    rw [ap_eq (by rw [(rd_isS h (show 2 + r * a + i < n by omega)).1]; omega)]
    simp only [ob_s, e2]
    have hg : (absD D).Read[2 + r * a + i]'(by omega) = rdD D ((2 + r * a + i : Nat) : Int) := by
      have := abs_read h (show 2 + r * a + i < n by omega)
      rw [List.getElem?_eq_getElem (by omega)] at this
      exact Option.some.inj this
    rw [List.take_succ_eq_append_getElem (show i < ((absD D).Read.drop (2 + r * a)).length by rw [List.length_drop]; omega), List.flatten_append, List.getElem_drop, hg]
    simp) (by
    dsimp only [m_53_1b]
    rw [ha, show decide ((a : Int) < (a : Int)) = false by simp]; rfl)
  have : loopO (m_53_1b V D) (0, [], 0) = _ := this
  rw [this]
  simp only [ob_s, m_53_1k]
  rw [hw, show sl (partW (absD D) (2 + r * a) a) 0 (w : Int) = some (((partW (absD D) (2 + r * a) a).take w).drop 0) from sl_eq (l := 0) (by omega) (by omega)]
  simp only [ob_s, List.drop_zero]
  rw [all_34 (isW_take hpw w) (by rw [List.length_take]; omega)]
  simp only [ob_s]
  by_cases hq : (allF V.at_.Epoch 0 ((partW (absD D) (2 + r * a) a).take w)).2 = w
  · rw [if_pos hq, hq]
    have : ((w : Int) != (w : Int)) = false := by simp
    rw [this, ← hw]; rfl
  · rw [if_neg hq]
    have : (((allF V.at_.Epoch 0 ((partW (absD D) (2 + r * a) a).take w)).2 : Int) != (w : Int)) = true := by simp; omega
    rw [this]; rfl
/-- Its log. -/
theorem logged_54 {D : Disk} {n : Nat} (h : Good D n) {V : Vault0} {a : Nat} {e : Int} (ha : V.area = (a : Int)) (hfit : 2 + 2 * a < n) (he : num e = true) :
    ∃ D', m_54 V D e = some (⟨((2 + 2 * a : Nat) : Int), ((n - (2 + 2 * a) : Nat) : Int), e, streamF e 0 (allF e 0 (partW (absD D) (2 + 2 * a) (n - (2 + 2 * a)))).1, (allF e 0 (partW (absD D) (2 + 2 * a) (n - (2 + 2 * a)))).1⟩, D') ∧ Good D' n ∧
      absD D' = clX (absD D) (2 + 2 * a) (n - (2 + 2 * a)) (streamF e 0 (allF e 0 (partW (absD D) (2 + 2 * a) (n - (2 + 2 * a)))).1) ∧
      LogOk (2 + 2 * a) (n - (2 + 2 * a)) e (allF e 0 (partW (absD D) (2 + 2 * a) (n - (2 + 2 * a)))).1 ⟨((2 + 2 * a : Nat) : Int), ((n - (2 + 2 * a) : Nat) : Int), e, streamF e 0 (allF e 0 (partW (absD D) (2 + 2 * a) (n - (2 + 2 * a)))).1, (allF e 0 (partW (absD D) (2 + 2 * a) (n - (2 + 2 * a)))).1⟩ (absD D') := by
  have hsm := h.small
  obtain ⟨D', g1, g2, g3, g4⟩ := open_eq h (f := 2 + 2 * a) (k := n - (2 + 2 * a)) (e := e) (by omega) (by omega) he
  refine ⟨D', ?_, g2, g3, g4⟩
  unfold m_54 mq_32
  have hb : m_58 V 2 = some ((2 + 2 * a : Nat) : Int) := begin_58 ha (by omega) (r := 2) (by decide)
  rw [hb]
  simp only [ob_s, h.len]
  have e1 : IntKind.wrap .i64 ((n : Int) - ((2 + 2 * a : Nat) : Int)) = ((n - (2 + 2 * a) : Nat) : Int) := by rw [wi64 (by omega) (by omega)]; omega
  rw [e1, g1]
  rfl
end Go.Proofs.YtdkfdmalbbfbmaaGreat

/- Plain laws: a vault is opened, appended to, checkpointed. -/
namespace Go.Proofs.YtdkfdmalbbfbmaaGreat
open Go
set_option maxRecDepth 4000

def sec (X : RDisk) (i : Nat) : Sec := (X.Read[i]?).getD Z8
theorem sec_rd {D : Disk} {n : Nat} (h : Good D n) {i : Nat} (hi : i < n) : rdD D (i : Int) = sec (absD D) i := by
  unfold sec; rw [abs_read h hi]; rfl
theorem sec_eq {X : RDisk} {i : Nat} {s : Sec} (h : X.Read[i]? = some s) : sec X i = s := by unfold sec; rw [h]; rfl
theorem sec_of {X Y : RDisk} {i : Nat} (h : X.Read[i]? = Y.Read[i]?) : sec X i = sec Y i := by unfold sec; rw [h]
theorem stream_len (e e' : Int) : ∀ (n n' : Nat) (fs : List Frame), (streamF e n fs).length = (streamF e' n' fs).length
  | _, _, [] => rfl
  | n, n', F :: fs => by
    simp only [streamF, List.length_append, putF_len]
    rw [stream_len e e' (n + 1) (n' + 1) fs]
/-- Words whose sectors are there. -/
theorem part_take {X : RDisk} {f k : Nat} (hs : ∀ s ∈ X.Read, isS s) (hfk : f + k ≤ X.Read.length) {ws : List Int} (hl : ws.length ≤ 8 * k) (h : ∀ i, i < cnt8 ws.length → X.Read[f + i]? = some (secAt ws i)) : (partW X f k).take ws.length = ws := by
  have hpl := part_len (f := f) (k := k) hs hfk
  apply List.ext_getElem?
  intro p
  by_cases hp : p < ws.length
  · rw [List.getElem?_take, if_pos hp]
    have hi : p / 8 < k := by omega
    have e1 := part_sec hs hfk hi
    have e3 : (partW X f k)[p]? = some ((partW X f k)[p]'(by omega)) := List.getElem?_eq_getElem (by omega)
    rw [h _ (by unfold cnt8; omega)] at e1
    have e2 := congrArg (fun s : Option Sec => s.bind (·[p % 8]?)) e1
    simp only [Option.bind_some] at e2
    rw [secAt_get _ _ _ (by omega), secAt_get _ _ _ (by omega), show 8 * (p / 8) + p % 8 = p by omega, e3, List.getElem?_eq_getElem hp] at e2
    rw [e3, List.getElem?_eq_getElem hp]
    simpa using e2.symm
  · rw [List.getElem?_eq_none (by rw [List.length_take]; omega), List.getElem?_eq_none (by omega)]

/-- A vault as it should be: N checkpoints, the frames fs in its log. -/
structure VOk (V : VaultM) (D : Disk) (n a N : Nat) (fs : List Frame) : Prop where
  good : Good D n
  a1 : 1 ≤ a
  fit : 2 + 2 * a < n
  area : V.area = (a : Int)
  hN : N < 1000000
  number : V.at_.Number = (N : Int)
  epoch : V.at_.Epoch = (N : Int)
  log : LogOk (2 + 2 * a) (n - (2 + 2 * a)) (N : Int) fs V.log (absD D)
  may : ∀ F ∈ V.stored, may F = true
  w : ∀ F ∈ V.stored, ∀ x ∈ F.Words, isW x
  len : (streamF (N : Int) 0 V.stored).length ≤ 8 * a
  c0 : ∀ b, cand 0 (sec (absD D) 0) = some b → b.Number ≤ (N : Int)
  c1 : ∀ b, cand 1 (sec (absD D) 1) = some b → b.Number ≤ (N : Int)
  zero : N = 0 → V.at_ = ⟨0, 0, 0, 0⟩ ∧ V.stored = []
  pos : 0 < N → okA V.at_ = true ∧ sec (absD D) (N % 2) = secA V.at_ ∧ ∃ r : Nat, V.at_.Area = (r : Int) ∧ r ≤ 1 ∧ V.at_.Words = ((streamF (N : Int) 0 V.stored).length : Int) ∧ (partW (absD D) (2 + r * a) a).take (streamF (N : Int) 0 V.stored).length = streamF (N : Int) 0 V.stored

section
variable {V : VaultM} {D : Disk} {n a N : Nat} {fs : List Frame}
theorem VOk.find (h : VOk V D n a N fs) : findA (sec (absD D) 0) (sec (absD D) 1) = if N = 0 then none else some V.at_ := by
  have hc0 := h.c0
  have hc1 := h.c1
  by_cases h0 : N = 0
  · rw [if_pos h0]
    have e0 : cand 0 (sec (absD D) 0) = none := by
      cases hq : cand 0 (sec (absD D) 0) with
      | none => rfl
      | some b => exfalso; have := hc0 b hq; have := (okA_iff.1 (cand_iff.1 hq).1).1; omega
    have e1 : cand 1 (sec (absD D) 1) = none := by
      cases hq : cand 1 (sec (absD D) 1) with
      | none => rfl
      | some b => exfalso; have := hc1 b hq; have := (okA_iff.1 (cand_iff.1 hq).1).1; omega
    unfold findA
    rw [e0, e1]
  · rw [if_neg h0]
    obtain ⟨p1, p2, _⟩ := h.pos (by omega)
    have hnum := h.number
    unfold findA
    by_cases hpar : N % 2 = 0
    · rw [hpar] at p2
      have e0 : cand 0 (sec (absD D) 0) = some V.at_ := cand_iff.2 ⟨p1, p2, by omega⟩
      rw [e0]
      cases hq : cand 1 (sec (absD D) 1) with
      | none => rfl
      | some b =>
        have := hc1 b hq
        have := (cand_iff.1 hq).2.2
        simp only
        rw [if_neg (by omega)]
    · have hp1 : N % 2 = 1 := by omega
      rw [hp1] at p2
      have e1 : cand 1 (sec (absD D) 1) = some V.at_ := cand_iff.2 ⟨p1, p2, by omega⟩
      rw [e1]
      cases hq : cand 0 (sec (absD D) 0) with
      | none => rfl
      | some b =>
        have := hc0 b hq
        have := (cand_iff.1 hq).2.2
        simp only
        rw [if_pos (by omega)]
theorem VOk.small (h : VOk V D n a N fs) : (streamF (N : Int) 0 V.stored).length + (streamF (N : Int) 0 fs).length ≤ 8 * 4096 := by
  have h1 := h.len
  have h2 := h.log.len
  have h3 := h.good.small
  have h4 := h.fit
  omega
theorem VOk.all_may (h : VOk V D n a N fs) : ∀ F ∈ V.stored ++ fs, Go.Proofs.YtdkfdmalbbfbmaaGreat.may F = true := fun F hF => by
  rcases List.mem_append.1 hF with hF | hF
  · exact h.may F hF
  · exact h.log.may F hF
theorem VOk.all_w (h : VOk V D n a N fs) : ∀ F ∈ V.stored ++ fs, ∀ x ∈ F.Words, isW x := fun F hF => by
  rcases List.mem_append.1 hF with hF | hF
  · exact h.w F hF
  · exact h.log.w F hF
theorem VOk.frames (h : VOk V D n a N fs) : m_25 V = some (V.stored ++ fs) := by
  have h1 := h.small
  have h2 := stream_count (N : Int) 0 V.stored
  have h3 := stream_count (N : Int) 0 fs
  have hs := h.good.small
  exact frames_25 (h.log.frames (by omega)) (by omega) fun F hF => by
    have := (may_iff.1 (h.all_may F hF)).2.2
    omega
theorem VOk.same (h : VOk V D n a N fs) : m_11 (V.stored ++ fs) (V.stored ++ fs) = some true := by
  have h1 := h.small
  have h2 := stream_count (N : Int) 0 V.stored
  have h3 := stream_count (N : Int) 0 fs
  rw [same_11 (by rw [List.length_append]; omega) (fun F hF => by have := (may_iff.1 (h.all_may F hF)).2.2; omega)]
  simp

/-- Opened again it is the same. -/
theorem open_24 (hg : Good D n) (a1 : 1 ≤ a) (hfit : 2 + 2 * a < n) {at_ : Anchor} {st : List Frame} (he : num at_.Epoch = true)
    (hfind : (findA (sec (absD D) 0) (sec (absD D) 1) = none ∧ at_ = ⟨0, 0, 0, 0⟩ ∧ st = []) ∨
      (findA (sec (absD D) 0) (sec (absD D) 1) = some at_ ∧ ∃ r w : Nat, at_.Area = (r : Int) ∧ r ≤ 1 ∧ at_.Words = (w : Int) ∧ w ≤ 8 * a ∧ allF at_.Epoch 0 ((partW (absD D) (2 + r * a) a).take w) = (st, w))) :
    ∃ L D', m_24 D (a : Int) = some (⟨(a : Int), at_, st, L⟩, 0, D') ∧ Good D' n ∧ L = ⟨((2 + 2 * a : Nat) : Int), ((n - (2 + 2 * a) : Nat) : Int), at_.Epoch, streamF at_.Epoch 0 (allF at_.Epoch 0 (partW (absD D) (2 + 2 * a) (n - (2 + 2 * a)))).1, (allF at_.Epoch 0 (partW (absD D) (2 + 2 * a) (n - (2 + 2 * a)))).1⟩ ∧
      absD D' = clX (absD D) (2 + 2 * a) (n - (2 + 2 * a)) (streamF at_.Epoch 0 (allF at_.Epoch 0 (partW (absD D) (2 + 2 * a) (n - (2 + 2 * a)))).1) ∧
      LogOk (2 + 2 * a) (n - (2 + 2 * a)) at_.Epoch (allF at_.Epoch 0 (partW (absD D) (2 + 2 * a) (n - (2 + 2 * a)))).1 L (absD D') := by
  have hsm := hg.small
  unfold m_24 mq_32
  rw [hg.len]
  simp only [ob_s]
  have e1 : decide ((a : Int) < 1) = false := by simp; omega
  have e2 : decide ((a : Int) > (n : Int)) = false := by simp; omega
  have e3 : IntKind.wrap .i64 (2 + IntKind.wrap .i64 (2 * (a : Int))) = ((2 + 2 * a : Nat) : Int) := by rw [wi64 (x := 2 * (a : Int)) (by omega) (by omega), wi64 (by omega) (by omega)]; omega
  have e4 : decide (((2 + 2 * a : Nat) : Int) ≥ (n : Int)) = false := by simp; omega
  rw [e1, e2, e3, e4]
  simp only [cond_false, ob_s]
  rw [find_52 hg (by omega), show rdD D 0 = sec (absD D) 0 from sec_rd hg (i := 0) (by omega), show rdD D 1 = sec (absD D) 1 from sec_rd hg (i := 1) (by omega)]
  simp only [ob_s]
  rcases hfind with ⟨hf, rfl, rfl⟩ | ⟨hf, r, w, hr, hr1, hw, hwa, hall⟩
  · rw [hf]
    simp only [foundA]
    rw [show ((5 : Int) == 0) = false from rfl]
    simp only [cond_false, ob_s, m_24_1k]
    rw [show ((0 : Int) == 0) = true from rfl]
    simp only [cond_true]
    obtain ⟨D', g1, g2, g3, g4⟩ := logged_54 hg (V := ⟨(a : Int), ⟨0, 0, 0, 0⟩, []⟩) (a := a) (e := 0) rfl hfit rfl
    refine ⟨_, D', ?_, g2, rfl, g3, g4⟩
    rw [g1]; rfl
  · rw [hf]
    simp only [foundA]
    rw [show ((0 : Int) == 0) = true from rfl]
    simp only [cond_true]
    have hra : r * a ≤ a := by
      rcases Nat.lt_or_ge r 1 with h | h
      · have : r = 0 := by omega
        subst this; simp
      · have : r = 1 := by omega
        subst this; simp
    have hl := load_53 hg (V := ⟨(a : Int), at_, []⟩) (a := a) (r := r) (w := w) rfl hr hw hr1 (by omega) hwa
    rw [hall, if_pos rfl] at hl
    have hl : m_53 (⟨(a : Int), (⟨at_.Number, at_.Epoch, at_.Area, at_.Words⟩ : Anchor), []⟩ : Vault0) D = some (0, ⟨(a : Int), at_, st⟩) := hl
    rw [hl]
    simp only [ob_s, m_24_1k]
    rw [show ((0 : Int) == 0) = true from rfl]
    simp only [cond_true]
    obtain ⟨D', g1, g2, g3, g4⟩ := logged_54 hg (V := ⟨(a : Int), at_, st⟩) (a := a) (e := at_.Epoch) rfl hfit he
    refine ⟨_, D', ?_, g2, rfl, g3, g4⟩
    rw [g1]; rfl
theorem VOk.num (h : VOk V D n a N fs) : Go.Proofs.YtdkfdmalbbfbmaaGreat.num (N : Int) = true := num_iff.2 ⟨by omega, by have := h.hN; omega⟩
theorem VOk.reopen (h : VOk V D n a N fs) : ∃ D', m_24 D (a : Int) = some (V, 0, D') ∧ Good D' n ∧ absD D' = clX (absD D) (2 + 2 * a) (n - (2 + 2 * a)) (streamF (N : Int) 0 fs) := by
  have hs := abs_isS h.good
  have hrl := (abs_len h.good).2.1
  have hsm := h.good.small
  have hfit := h.fit
  have hall : allF (N : Int) 0 (partW (absD D) (2 + 2 * a) (n - (2 + 2 * a))) = (fs, (streamF (N : Int) 0 fs).length) := log_all h.log hs (by rw [hrl]; omega) h.num (by omega)
  have hep := h.epoch
  obtain ⟨L, D', g1, g2, g3, g4, g5⟩ := open_24 h.good h.a1 h.fit (at_ := V.at_) (st := V.stored) (by rw [hep]; exact h.num) (by
    by_cases h0 : N = 0
    · left
      exact ⟨by rw [h.find, if_pos h0], h.zero h0⟩
    · right
      obtain ⟨p1, p2, r, q1, q2, q3, q4⟩ := h.pos (by omega)
      refine ⟨by rw [h.find, if_neg h0], r, _, q1, q2, q3, h.len, ?_⟩
      rw [q4, hep]
      have := allF_of (N : Int) h.num V.stored 0 [] h.may (by have := h.hN; have := stream_count (N : Int) 0 V.stored; have := h.len; omega) getF_nil
      rwa [List.append_nil] at this)
  rw [hep, hall] at g3 g4
  refine ⟨D', ?_, g2, g4⟩
  rw [g1]
  have : (⟨(a : Int), V.at_, V.stored, L⟩ : VaultM) = V := by
    rw [g3, ← h.log.eq, ← h.area]
  rw [this]
/-- What lies ahead of the log stays. -/
theorem VOk.moved (h : VOk V D n a N fs) {D' : Disk} {L' : LogM} {fs' : List Frame} (hg : Good D' n) (hr : ∀ p, p < 2 + 2 * a → (absD D').Read[p]? = (absD D).Read[p]?) (hl : LogOk (2 + 2 * a) (n - (2 + 2 * a)) (N : Int) fs' L' (absD D')) : VOk ⟨V.area, V.at_, V.stored, L'⟩ D' n a N fs' := by
  have hfit := h.fit
  have a1 := h.a1
  refine ⟨hg, h.a1, h.fit, h.area, h.hN, h.number, h.epoch, hl, h.may, h.w, h.len, ?_, ?_, h.zero, fun hN => ?_⟩
  · rw [sec_of (hr 0 (by omega))]; exact h.c0
  · rw [sec_of (hr 1 (by omega))]; exact h.c1
  · obtain ⟨p1, p2, r, q1, q2, q3, q4⟩ := h.pos hN
    refine ⟨p1, by rw [sec_of (hr (N % 2) (by omega))]; exact p2, r, q1, q2, q3, ?_⟩
    have : partW (absD D') (2 + r * a) a = partW (absD D) (2 + r * a) a := by
      unfold partW
      congr 1
      have hra : r * a ≤ a := by
        rcases Nat.lt_or_ge r 1 with h | h
        · have : r = 0 := by omega
          subst this; simp
        · have : r = 1 := by omega
          subst this; simp
      apply List.ext_getElem?
      intro p
      rw [List.getElem?_take, List.getElem?_take]
      split
      · rw [List.getElem?_drop, List.getElem?_drop, hr _ (by omega)]
      · rfl
    rw [this]; exact q4
theorem VOk.append (h : VOk V D n a N fs) {F : Frame} (hw : ∀ x ∈ F.Words, isW x) : ∃ y V' D' more, m_27 V D F = some (y, V', D') ∧ VOk V' D' n a N (fs ++ more) ∧ V'.stored = V.stored ∧ more = if y = 0 then [F] else [] := by
  have hfit := h.fit
  unfold m_27
  cases hm : Go.Proofs.YtdkfdmalbbfbmaaGreat.may F with
  | false =>
    rw [append_bad hm]
    refine ⟨1, _, D, [], rfl, ?_, rfl, rfl⟩
    rw [List.append_nil]
    exact h.moved h.good (fun _ _ => rfl) h.log
  | true =>
    have ha := append_eq h.good h.log (by omega) h.num hm hw
    split at ha
    · obtain ⟨L', D', g1, g2, g3, g4⟩ := ha
      rw [g1]
      refine ⟨0, _, D', [F], rfl, ?_, rfl, rfl⟩
      refine h.moved g2 (fun p hp => ?_) g3
      have hlen := g3.len
      rw [g4, wsX_read _ _ _ _ _ _ (by rw [(abs_len h.good).2.1]; omega), if_neg (by omega)]
    · rw [ha]
      refine ⟨4, _, D, [], rfl, ?_, rfl, rfl⟩
      rw [List.append_nil]
      exact h.moved h.good (fun _ _ => rfl) h.log
end
end Go.Proofs.YtdkfdmalbbfbmaaGreat
