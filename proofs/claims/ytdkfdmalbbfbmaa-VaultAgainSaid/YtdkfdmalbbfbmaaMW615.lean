/- Plain laws: integers that fit, loops that count. No program. -/
import Derived.Test.YtdkfdmalbbfbmaaMW614
/- Plain laws: integers that fit, loops that count. No program. -/
namespace Go.Proofs.Ytdkfdmalbbfbmaa
open Go

theorem wi64 {x : Int} (h0 : -9223372036854775808 ≤ x) (h1 : x < 9223372036854775808) : IntKind.wrap .i64 x = x := by
  simp only [IntKind.wrap, IntKind.signed, IntKind.bits]
  simp
  omega
theorem wu64 {x : Int} (h0 : 0 ≤ x) (h1 : x < 18446744073709551616) : IntKind.wrap .u64 x = x := by
  simp only [IntKind.wrap, IntKind.signed, IntKind.bits]
  simp
  omega
theorem wu32 {x : Int} (h0 : 0 ≤ x) (h1 : x < 4294967296) : IntKind.wrap .u32 x = x := by
  simp only [IntKind.wrap, IntKind.signed, IntKind.bits]
  simp
  omega
theorem wu8 (x : Int) : IntKind.wrap .u8 x = x % 256 := by
  simp only [IntKind.wrap, IntKind.signed, IntKind.bits]
  simp
theorem wu32m (x : Int) : IntKind.wrap .u32 x = x % 4294967296 := by
  simp only [IntKind.wrap, IntKind.signed, IntKind.bits]
  simp
theorem wu64m (x : Int) : IntKind.wrap .u64 x = x % 18446744073709551616 := by
  simp only [IntKind.wrap, IntKind.signed, IntKind.bits]
  simp
@[simp] theorem ob_s {α β : Type} (a : α) (f : α → Option β) : ob (some a) f = f a := rfl
@[simp] theorem ob_n {α β : Type} (f : α → Option β) : ob none f = none := rfl
@[simp] theorem gd_t {β : Type} (A : Option β) : gd true A = A := rfl
theorem ap_eq {α : Type} {xs ys : List α} (h : xs.length + ys.length < 4294967296) : ap xs ys = some (xs ++ ys) := by
  unfold ap
  rw [show Nat.blt (xs.length + ys.length) 4294967296 = true from Nat.ble_eq_true_of_le h]; rfl
theorem gt_eq {α : Type} {xs : List α} {i : Nat} (h : i < xs.length) : gt xs (i : Int) = some xs[i] := by
  unfold gt
  simp [h]
theorem gt_at {α : Type} {xs : List α} {i : Nat} {x : α} (h : xs[i]? = some x) : gt xs (i : Int) = some x := by
  unfold gt
  simp [h]
theorem sl_eq {α : Type} {xs : List α} {l h : Nat} (h1 : l ≤ h) (h2 : h ≤ xs.length) : sl xs (l : Int) (h : Int) = some ((xs.take h).drop l) := by
  unfold sl
  simp [h1, h2]
theorem sl_from {α : Type} {xs : List α} {l : Nat} (h1 : l ≤ xs.length) : sl xs (l : Int) (xs.length : Int) = some (xs.drop l) := by
  rw [sl_eq h1 (Nat.le_refl _), List.take_length]

section
variable {σ ρ : Type} {f : σ → Option (Lo σ ρ)} {s s' : σ} {r : ρ}
theorem loopO_next (h : f s = some (.inl s')) : loopO f s = loopO f s' := by rw [loopO_eq, h]
theorem loopO_end (h : f s = some (.inr r)) : loopO f s = some r := by rw [loopO_eq, h]
theorem loopO_steps (S : Nat → σ) (n : Nat) (h : ∀ i, i < n → f (S i) = some (.inl (S (i + 1)))) : loopO f (S 0) = loopO f (S n) := by
  induction n with
  | zero => rfl
  | succ n ih => rw [ih (fun i hi => h i (by omega)), loopO_next (h n (by omega))]
/-- A loop that counts to n. -/
theorem loopO_count (S : Nat → σ) (n : Nat) (h : ∀ i, i < n → f (S i) = some (.inl (S (i + 1)))) (he : f (S n) = some (.inr r)) : loopO f (S 0) = some r := by
  rw [loopO_steps S n h, loopO_end he]
end
end Go.Proofs.Ytdkfdmalbbfbmaa

/- Plain laws: sums. The program's sum by a table is the document's, bit by bit. -/
namespace Go.Proofs.Ytdkfdmalbbfbmaa
open Go

abbrev B32 := BitVec 32
def poly : B32 := 2197175160#32
/-- One bit's step. -/
def bstep (x : B32) : B32 := bif x.getLsbD 0 then (x >>> 1) ^^^ poly else x >>> 1
def bsteps : Nat → B32 → B32
  | 0, x => x
  | n + 1, x => bsteps n (bstep x)
def b8 (x : B32) : B32 := bsteps 8 x
theorem bsteps_succ (n : Nat) (x : B32) : bsteps (n + 1) x = bstep (bsteps n x) := by
  induction n generalizing x with
  | zero => rfl
  | succ n ih => rw [bsteps, ih, ← bsteps]

theorem bstep_xor (a b : B32) : bstep (a ^^^ b) = bstep a ^^^ bstep b := by
  unfold bstep
  simp only [BitVec.getLsbD_xor, BitVec.ushiftRight_xor_distrib]
  cases a.getLsbD 0 <;> cases b.getLsbD 0 <;> simp
  · ac_rfl
  · ac_rfl
  · apply BitVec.eq_of_getLsbD_eq
    intro i hi
    simp
    cases (a.getLsbD (1 + i)) <;> cases (b.getLsbD (1 + i)) <;> cases (poly.getLsbD i) <;> rfl
theorem bsteps_xor (n : Nat) : ∀ a b : B32, bsteps n (a ^^^ b) = bsteps n a ^^^ bsteps n b := by
  induction n with
  | zero => intro a b; rfl
  | succ n ih => intro a b; simp only [bsteps, bstep_xor, ih]
theorem bstep_shl (z : B32) (i : Nat) (h : ∀ j, 32 - (i + 1) ≤ j → z.getLsbD j = false) : bstep (z <<< (i + 1)) = z <<< i := by
  unfold bstep
  have e0 : (z <<< (i + 1)).getLsbD 0 = false := by simp
  rw [e0]
  simp only [cond_false]
  apply BitVec.eq_of_getLsbD_eq
  intro j hj
  simp only [BitVec.getLsbD_ushiftRight, BitVec.getLsbD_shiftLeft, hj, decide_true, Bool.true_and]
  by_cases h1 : 1 + j < 32
  · by_cases h2 : j < i
    · simp [h1, h2, show 1 + j < i + 1 by omega]
    · simp [h1, h2, show ¬ 1 + j < i + 1 by omega, show 1 + j - (i + 1) = j - i by omega]
  · have := h (j - i) (by omega)
    simp [h1, this]
theorem bsteps_shl (z : B32) : ∀ i, (∀ j, 32 - i ≤ j → z.getLsbD j = false) → bsteps i (z <<< i) = z
  | 0, _ => by simp [bsteps]
  | i + 1, h => by
    rw [bsteps, bstep_shl z i h]
    exact bsteps_shl z i fun j hj => h j (by omega)
theorem b8_hi (y : B32) : b8 ((y >>> 8) <<< 8) = y >>> 8 := bsteps_shl _ 8 fun j hj => by
  rw [BitVec.getLsbD_ushiftRight]
  exact BitVec.getLsbD_of_ge _ _ (by omega)
/-- The table's way. -/
theorem b8_split (y : B32) : b8 ((y.setWidth 8).setWidth 32) ^^^ (y >>> 8) = b8 y := by
  have e : y = ((y.setWidth 8).setWidth 32) ^^^ ((y >>> 8) <<< 8) := by
    apply BitVec.eq_of_getLsbD_eq
    intro j hj
    simp only [BitVec.getLsbD_xor, BitVec.getLsbD_setWidth, BitVec.getLsbD_shiftLeft, BitVec.getLsbD_ushiftRight, hj, decide_true, Bool.true_and]
    by_cases h : j < 8
    · simp [h]
    · simp [h, show 8 + (j - 8) = j by omega]
  conv => rhs; rw [e]
  unfold b8
  rw [bsteps_xor]
  congr 1
  exact (b8_hi y).symm

/-- A byte into the sum; bytes; a word's bytes; words. -/
def crcB (x : B32) (c : Int) : B32 := b8 (x ^^^ BitVec.ofInt 32 c)
def crcS (x : B32) (cs : List Int) : B32 := cs.foldl crcB x
def wordBytes (w : Int) : List Int := (List.range 8).map fun i => w / 256 ^ i % 256
def crcW (l : List Int) : Int := ((crcS (BitVec.allOnes 32) (l.flatMap wordBytes)) ^^^ BitVec.allOnes 32).toNat
theorem crcW_range (l : List Int) : 0 ≤ crcW l ∧ crcW l < 4294967296 := by
  unfold crcW
  have := (crcS (BitVec.allOnes 32) (l.flatMap wordBytes) ^^^ BitVec.allOnes 32).isLt
  omega

theorem ofInt_nat (x : B32) : BitVec.ofInt 32 (x.toNat : Int) = x := by
  apply BitVec.eq_of_toNat_eq
  have := x.isLt
  simp [BitVec.toNat_ofInt]
theorem xor32 (x y : B32) : IntKind.wrap .u32 (BitVec.ofInt (IntKind.bits .u32) (x.toNat : Int) ^^^ BitVec.ofInt (IntKind.bits .u32) (y.toNat : Int)).toNat = ((x ^^^ y).toNat : Int) := by
  show IntKind.wrap .u32 ((BitVec.ofInt 32 (x.toNat : Int) ^^^ BitVec.ofInt 32 (y.toNat : Int)).toNat : Int) = _
  rw [ofInt_nat, ofInt_nat, wu32 (by omega) (by have := (x ^^^ y).isLt; omega)]
theorem half32 (x : B32) : Int.ediv (x.toNat : Int) 2 = ((x >>> 1).toNat : Int) := by
  rw [BitVec.toNat_ushiftRight, Nat.shiftRight_eq_div_pow]
  show (x.toNat : Int) / 2 = _
  omega
theorem lsb32 (x : B32) : ((x.toNat : Int) % 2 == 1) = x.getLsbD 0 := by
  have : x.getLsbD 0 = decide (x.toNat % 2 = 1) := by
    simp [BitVec.getLsbD, Nat.testBit_zero]
  rw [this]
  by_cases h : x.toNat % 2 = 1
  · have : (x.toNat : Int) % 2 = 1 := by omega
    simp [h, this]
  · have : (x.toNat : Int) % 2 = 0 := by omega
    simp [h, this]

/-- The document's step. -/
theorem ref_step (x : B32) (k : Nat) (hk : k < 8) : m_93_2b ((x.toNat : Int), (k : Int)) = some (.inl (((bstep x).toNat : Int), ((k + 1 : Nat) : Int))) := by
  unfold m_93_2b
  have h1 : decide ((k : Int) < 8) = true := by simp; omega
  have ht : Int.tdiv (x.toNat : Int) 2 = ((x >>> 1).toNat : Int) := by rw [Int.tdiv_eq_ediv_of_nonneg (by omega)]; exact half32 x
  have hm : (Int.tmod (x.toNat : Int) 2 == 1) = x.getLsbD 0 := by rw [Int.tmod_eq_emod_of_nonneg (by omega), lsb32]
  have hw : IntKind.wrap .u32 ((x >>> 1).toNat : Int) = ((x >>> 1).toNat : Int) := wu32 (by omega) (by have := (x >>> 1).isLt; omega)
  have hi : IntKind.wrap .i64 ((k : Int) + 1) = ((k + 1 : Nat) : Int) := by rw [wi64 (by omega) (by omega)]; rfl
  simp only [h1, cond_true, hm, ht, hw, hi]
  unfold bstep
  cases x.getLsbD 0 with
  | true =>
    have := xor32 (x >>> 1) poly
    have e : ((poly.toNat : Nat) : Int) = 2197175160 := rfl
    rw [e] at this
    simp only [cond_true, this]
  | false => simp
theorem ref_byte (x : B32) : loopO m_93_2b ((x.toNat : Int), 0) = some (((b8 x).toNat : Int), 8) := by
  have := loopO_count (f := m_93_2b) (fun i => (((bsteps i x).toNat : Int), (i : Int))) 8 (r := (((b8 x).toNat : Int), 8)) (fun i hi => by
    show m_93_2b _ = _
    rw [ref_step _ _ hi, bsteps_succ]) (by unfold m_93_2b; rfl)
  exact this
def isB (c : Int) : Prop := 0 ≤ c ∧ c < 256
theorem ref_bytes (cs : List Int) (hc : ∀ c ∈ cs, isB c) (hl : cs.length < 4294967296) : m_93 cs = some ((crcS (BitVec.allOnes 32) cs ^^^ BitVec.allOnes 32).toNat : Int) := by
  unfold m_93
  have key : loopO (m_93_1b cs) (4294967295, 0) = some (((crcS (BitVec.allOnes 32) cs).toNat : Int), (cs.length : Int)) := by
    refine loopO_count (f := m_93_1b cs) (fun i => (((crcS (BitVec.allOnes 32) (cs.take i)).toNat : Int), (i : Int))) cs.length (fun i hi => ?_) ?_
    · have h1 : decide ((i : Int) < (cs.length : Int)) = true := by simp; omega
      obtain ⟨c0, c1⟩ := hc cs[i] (List.getElem_mem hi)
      have hw : IntKind.wrap .u32 cs[i] = ((BitVec.ofInt 32 cs[i]).toNat : Int) := by
        rw [wu32 c0 (by omega), BitVec.toNat_ofInt]
        omega
      dsimp only [m_93_1b]
      rw [h1, gt_eq hi]
      simp only [cond_true, ob_s, hw, xor32, ref_byte, m_93_2k]
      have e2 : IntKind.wrap .i64 ((i : Int) + 1) = ((i + 1 : Nat) : Int) := by rw [wi64 (by omega) (by omega)]; rfl
      rw [e2, List.take_succ_eq_append_getElem hi]
      simp only [crcS, crcB, List.foldl_append, List.foldl_cons, List.foldl_nil]
    · have h1 : decide ((cs.length : Int) < (cs.length : Int)) = false := by simp
      dsimp only [m_93_1b]
      rw [h1, List.take_length]; rfl
  rw [key]
  simp only [ob_s, m_93_1k]
  have := xor32 (crcS (BitVec.allOnes 32) cs) (BitVec.allOnes 32)
  have e : (((BitVec.allOnes 32).toNat : Nat) : Int) = 4294967295 := rfl
  rw [e] at this
  rw [this]

def isW (x : Int) : Prop := 0 ≤ x ∧ x < 18446744073709551616
theorem wordBytes_len (w : Int) : (wordBytes w).length = 8 := by simp [wordBytes]
theorem wordBytes_isB (w : Int) : ∀ c ∈ wordBytes w, isB c := by
  intro c hc
  simp only [wordBytes, List.mem_map] at hc
  obtain ⟨i, _, rfl⟩ := hc
  exact ⟨Int.emod_nonneg _ (by decide), Int.emod_lt_of_pos _ (by decide)⟩
theorem div_pow_succ (w : Int) (i : Nat) : w / 256 ^ i / 256 = w / 256 ^ (i + 1) := by
  rw [Int.ediv_ediv_of_nonneg (by exact Int.pow_nonneg (by decide)), Int.pow_succ]
theorem isW_div {w : Int} (h : isW w) (i : Nat) : isW (w / 256 ^ i) := by
  have hp : (0 : Int) < 256 ^ i := Int.pow_pos (by decide)
  refine ⟨Int.ediv_nonneg h.1 (by omega), Int.lt_of_le_of_lt ?_ h.2⟩
  exact Int.ediv_le_self _ h.1
theorem ref_word (out : List Int) (w : Int) (hw : isW w) (hl : out.length + 8 < 4294967296) : loopO m_83_2b (out, w, 0) = some (out ++ wordBytes w, w / 256 ^ 8, 8) := by
  have := loopO_count (f := m_83_2b) (fun i => (out ++ (List.range i).map (fun j => w / 256 ^ j % 256), w / 256 ^ i, (i : Int))) 8 (r := (out ++ wordBytes w, w / 256 ^ 8, 8)) (fun i hi => by
    have h1 : decide ((i : Int) < 8) = true := by simp; omega
    have hw2 := isW_div hw i
    have e1 : IntKind.wrap .u8 (Int.tmod (w / 256 ^ i) 256) = w / 256 ^ i % 256 := by
      rw [Int.tmod_eq_emod_of_nonneg hw2.1, wu8]; omega
    have e2 : IntKind.wrap .u64 (Int.tdiv (w / 256 ^ i) 256) = w / 256 ^ (i + 1) := by
      have h3 := isW_div hw (i + 1)
      rw [Int.tdiv_eq_ediv_of_nonneg hw2.1, div_pow_succ, wu64 h3.1 h3.2]
    have e3 : IntKind.wrap .i64 ((i : Int) + 1) = ((i + 1 : Nat) : Int) := by rw [wi64 (by omega) (by omega)]; rfl
    dsimp only [m_83_2b]
    rw [h1, ap_eq (by simp; omega)]
    simp only [cond_true, ob_s, e1, e2, e3, List.range_succ, List.map_append, List.map_cons, List.map_nil, List.append_assoc]) (by unfold m_83_2b; rfl)
  simpa using this
theorem ref_of (l : List Int) (hw : ∀ x ∈ l, isW x) (hl : l.length < 268435456) : m_83 l = some (crcW l) := by
  unfold m_83
  have key : loopO (m_83_1b l) ([], 0) = some (l.flatMap wordBytes, (l.length : Int)) := by
    refine loopO_count (f := m_83_1b l) (fun i => ((l.take i).flatMap wordBytes, (i : Int))) l.length (fun i hi => ?_) ?_
    · have h1 : decide ((i : Int) < (l.length : Int)) = true := by simp; omega
      have hlen : ((l.take i).flatMap wordBytes).length = i * 8 := by
        rw [List.length_flatMap]
        simp only [wordBytes_len, List.map_const', List.sum_replicate_nat, List.length_take]
        have : min i l.length = i := by omega
        rw [this]
      dsimp only [m_83_1b]
      rw [h1, gt_eq hi]
      simp only [cond_true, ob_s]
      rw [ref_word _ _ (hw _ (List.getElem_mem hi)) (by omega)]
      have e2 : IntKind.wrap .i64 ((i : Int) + 1) = ((i + 1 : Nat) : Int) := by rw [wi64 (by omega) (by omega)]; rfl
      simp only [ob_s, m_83_2k, e2]
      rw [List.take_succ_eq_append_getElem hi]
      simp only [List.flatMap_append, List.flatMap_cons, List.flatMap_nil, List.append_nil]
    · have h1 : decide ((l.length : Int) < (l.length : Int)) = false := by simp
      dsimp only [m_83_1b]
      rw [h1, List.take_length]; rfl
  have hlen : (l.flatMap wordBytes).length = l.length * 8 := by
    rw [List.length_flatMap]
    simp only [wordBytes_len, List.map_const', List.sum_replicate_nat]
  rw [key]
  simp only [ob_s, m_83_1k]
  rw [ref_bytes _ (fun c hc => by
    obtain ⟨w, _, h⟩ := List.mem_flatMap.1 hc
    exact wordBytes_isB w c h) (by omega)]
  rfl
end Go.Proofs.Ytdkfdmalbbfbmaa

/- Plain laws: the program's sums, by a table. -/
namespace Go.Proofs.Ytdkfdmalbbfbmaa
open Go
set_option maxRecDepth 4000

theorem and1 (x : B32) : IntKind.wrap .u32 (BitVec.ofInt (IntKind.bits .u32) (x.toNat : Int) &&& BitVec.ofInt (IntKind.bits .u32) 1).toNat = (bif x.getLsbD 0 then 1 else 0 : Int) := by
  show IntKind.wrap .u32 ((BitVec.ofInt 32 (x.toNat : Int) &&& BitVec.ofInt 32 1).toNat : Int) = _
  rw [ofInt_nat]
  have : (x &&& BitVec.ofInt 32 1).toNat = if x.getLsbD 0 then 1 else 0 := by
    rw [BitVec.toNat_and]
    show x.toNat &&& 1 = _
    rw [Nat.and_one_is_mod]
    simp only [BitVec.getLsbD, Nat.testBit_zero]
    have : x.toNat % 2 = 0 ∨ x.toNat % 2 = 1 := by omega
    rcases this with h | h <;> simp [h]
  rw [this]
  cases x.getLsbD 0 <;> rfl
theorem tab_step (x : B32) (k : Nat) (tb : List Int) (hk : k < 8) : m_103_2b ((x.toNat : Int), (k : Int), tb) = some (.inl (((bstep x).toNat : Int), ((k + 1 : Nat) : Int), tb)) := by
  unfold m_103_2b
  have h1 : decide ((k : Int) < 8) = true := by simp; omega
  have hd : Int.fdiv (x.toNat : Int) (2 ^ min (Int.toNat 1) (IntKind.bits .u32)) = ((x >>> 1).toNat : Int) := by
    show Int.fdiv (x.toNat : Int) 2 = _
    rw [Int.fdiv_eq_ediv_of_nonneg _ (by decide)]
    exact half32 x
  have hi : IntKind.wrap .i64 ((k : Int) + 1) = ((k + 1 : Nat) : Int) := by rw [wi64 (by omega) (by omega)]; rfl
  simp only [h1, cond_true, hd, hi, and1]
  unfold bstep
  cases hx : x.getLsbD 0 with
  | true =>
    have := xor32 (x >>> 1) poly
    have e : ((poly.toNat : Nat) : Int) = 2197175160 := rfl
    rw [e] at this
    have e2 : IntKind.wrap .u32 (2197175160 * 1) = 2197175160 := by decide
    simp only [cond_true, e2, this]
  | false =>
    have := xor32 (x >>> 1) 0#32
    have e : (((0#32).toNat : Nat) : Int) = 0 := rfl
    rw [e] at this
    have e2 : IntKind.wrap .u32 (2197175160 * 0) = 0 := by decide
    simp only [cond_false, e2, this, BitVec.xor_zero]
theorem tab_byte (x : B32) (tb : List Int) : loopO m_103_2b ((x.toNat : Int), 0, tb) = some (((b8 x).toNat : Int), 8, tb) := by
  have := loopO_count (f := m_103_2b) (fun i => (((bsteps i x).toNat : Int), (i : Int), tb)) 8 (r := (((b8 x).toNat : Int), 8, tb)) (fun i hi => by
    show m_103_2b _ = _
    rw [tab_step _ _ _ hi, bsteps_succ]) (by unfold m_103_2b; rfl)
  exact this
def tabE (i : Nat) : Int := ((b8 (BitVec.ofNat 32 i)).toNat : Int)
def tabL : List Int := (List.range 256).map tabE
theorem tabL_get {i : Nat} (h : i < 256) : tabL[i]? = some (tabE i) := by
  have := List.getElem?_range (n := 256) (i := i) h
  show ((List.range 256).map tabE)[i]? = _
  rw [List.getElem?_map, this]; rfl
theorem tab_eq : m_103 = some tabL := by
  unfold m_103
  have key : loopO m_103_1b (0, List.replicate 256 (0 : Int)) = some (256, tabL) := by
    have := loopO_count (f := m_103_1b) (fun i => ((i : Int), (List.range i).map tabE ++ List.replicate (256 - i) (0 : Int))) 256 (r := (256, tabL)) (fun i hi => by
      have h1 : decide ((i : Int) < 256) = true := by simp; omega
      have hw : IntKind.wrap .u32 (i : Int) = ((BitVec.ofNat 32 i).toNat : Int) := by
        rw [wu32 (by omega) (by omega), BitVec.toNat_ofNat]
        omega
      have h0 : decide (0 ≤ (i : Int)) = true := by simp
      have hi2 : IntKind.wrap .i64 ((i : Int) + 1) = ((i + 1 : Nat) : Int) := by rw [wi64 (by omega) (by omega)]; rfl
      have hst : st ((List.range i).map tabE ++ List.replicate (256 - i) (0 : Int)) (i : Int) (tabE i) = some ((List.range (i + 1)).map tabE ++ List.replicate (256 - (i + 1)) (0 : Int)) := by
        unfold st
        have hb : (decide (0 ≤ (i : Int)) && decide ((i : Int) < (((List.range i).map tabE ++ List.replicate (256 - i) (0 : Int)).length : Int))) = true := by
          simp; omega
        rw [hb]
        simp only [cond_true, Option.some.injEq, Int.toNat_natCast]
        have e1 : 256 - i = (256 - (i + 1)) + 1 := by omega
        rw [e1, List.replicate_succ, List.set_append_right _ _ (by simp)]
        simp [List.range_succ]
      dsimp only [m_103_1b]
      rw [h1, hw]
      simp only [cond_true, tab_byte, ob_s, m_103_2k, h0, h1, Bool.true_and, gd_t, hi2]
      show ob (st _ _ (tabE i)) _ = _
      rw [hst]; rfl) (by
      have h1 : decide (((256 : Nat) : Int) < 256) = false := by decide
      dsimp only [m_103_1b]
      rw [h1]
      simp only [cond_false, Nat.sub_self, List.replicate_zero, List.append_nil]
      rfl)
    exact this
  rw [key]; rfl

theorem idx8 (x : B32) (c : Int) (hc : isB c) : IntKind.wrap .u8 (BitVec.ofInt (IntKind.bits .u8) (IntKind.wrap .u8 (x.toNat : Int)) ^^^ BitVec.ofInt (IntKind.bits .u8) c).toNat = ((((x ^^^ BitVec.ofInt 32 c).setWidth 8).toNat : Nat) : Int) := by
  show IntKind.wrap .u8 ((BitVec.ofInt 8 (IntKind.wrap .u8 (x.toNat : Int)) ^^^ BitVec.ofInt 8 c).toNat : Int) = _
  have e1 : BitVec.ofInt 8 (IntKind.wrap .u8 (x.toNat : Int)) = x.setWidth 8 := by
    apply BitVec.eq_of_toNat_eq
    rw [wu8, BitVec.toNat_ofInt, BitVec.toNat_setWidth]
    omega
  have e2 : BitVec.ofInt 8 c = (BitVec.ofInt 32 c).setWidth 8 := by
    obtain ⟨h0, h1⟩ := hc
    apply BitVec.eq_of_toNat_eq
    rw [BitVec.toNat_ofInt, BitVec.toNat_setWidth, BitVec.toNat_ofInt]
    omega
  rw [e1, e2, ← BitVec.setWidth_xor, wu8]
  have := ((x ^^^ BitVec.ofInt 32 c).setWidth 8).isLt
  omega
theorem hi_eq (x : B32) (c : Int) (hc : isB c) : (x ^^^ BitVec.ofInt 32 c) >>> 8 = x >>> 8 := by
  rw [BitVec.ushiftRight_xor_distrib]
  have : BitVec.ofInt 32 c >>> 8 = 0#32 := by
    obtain ⟨h0, h1⟩ := hc
    apply BitVec.eq_of_toNat_eq
    rw [BitVec.toNat_ushiftRight, BitVec.toNat_ofInt, Nat.shiftRight_eq_div_pow]
    simp
    omega
  rw [this, BitVec.xor_zero]
theorem c98_eq (x : B32) (c : Int) (hc : isB c) : c98 tabL (x.toNat : Int) c = some ((crcB x c).toNat : Int) := by
  unfold c98
  rw [idx8 x c hc]
  generalize hy : (x ^^^ BitVec.ofInt 32 c) = y
  have hlt := (y.setWidth 8).isLt
  have h1 : (decide (0 ≤ (((y.setWidth 8).toNat : Nat) : Int)) && decide ((((y.setWidth 8).toNat : Nat) : Int) < 256)) = true := by
    simp; omega
  rw [h1]
  simp only [gd_t, ob_s]
  have hg : gt tabL (((y.setWidth 8).toNat : Nat) : Int) = some (((b8 ((y.setWidth 8).setWidth 32)).toNat : Nat) : Int) := by
    apply gt_at
    rw [tabL_get (by omega)]
    unfold tabE
    have : BitVec.ofNat 32 (y.setWidth 8).toNat = (y.setWidth 8).setWidth 32 := by
      apply BitVec.eq_of_toNat_eq
      rw [BitVec.toNat_ofNat, BitVec.toNat_setWidth, BitVec.toNat_setWidth, BitVec.toNat_setWidth]
    rw [this]
  rw [hg]
  simp only [ob_s]
  have hd : Int.fdiv (x.toNat : Int) (2 ^ min (Int.toNat 8) (IntKind.bits .u32)) = ((x >>> 8).toNat : Int) := by
    show Int.fdiv (x.toNat : Int) 256 = _
    rw [Int.fdiv_eq_ediv_of_nonneg _ (by decide), BitVec.toNat_ushiftRight, Nat.shiftRight_eq_div_pow]
    omega
  rw [hd, xor32, ← hi_eq x c hc, hy, b8_split]
  unfold crcB
  rw [hy]

theorem fold_word (x : B32) (w : Int) (hw : isW w) : loopO (m_99_2b (c98 tabL) w) (0, (x.toNat : Int)) = some (.inl (64, ((crcS x (wordBytes w)).toNat : Int))) := by
  have := loopO_count (f := m_99_2b (c98 tabL) w) (fun i => (((8 * i : Nat) : Int), ((crcS x ((wordBytes w).take i)).toNat : Int))) 8 (r := .inl (64, ((crcS x (wordBytes w)).toNat : Int))) (fun i hi => by
    have h1 : decide (((8 * i : Nat) : Int) < 64) = true := by simp; omega
    have h2 : (!decide (((8 * i : Nat) : Int) < 0)) = true := by simp; omega
    have hb : IntKind.wrap .u8 (Int.fdiv w (2 ^ min (Int.toNat ((8 * i : Nat) : Int)) (IntKind.bits .u64))) = w / 256 ^ i % 256 := by
      have e1 : min (Int.toNat ((8 * i : Nat) : Int)) (IntKind.bits .u64) = 8 * i := by
        show min _ 64 = _
        rw [Int.toNat_natCast]; omega
      have e2 : (2 : Int) ^ (8 * i) = 256 ^ i := by rw [Int.pow_mul]; rfl
      rw [e1, e2, Int.fdiv_eq_ediv_of_nonneg _ (Int.pow_nonneg (by decide)), wu8]
    have hB : isB (w / 256 ^ i % 256) := ⟨Int.emod_nonneg _ (by decide), Int.emod_lt_of_pos _ (by decide)⟩
    have hi2 : IntKind.wrap .i64 (((8 * i : Nat) : Int) + 8) = ((8 * (i + 1) : Nat) : Int) := by rw [wi64 (by omega) (by omega)]; omega
    dsimp only [m_99_2b]
    rw [h1, h2]
    simp only [cond_true, gd_t, ob_s, hb, c98_eq _ _ hB, hi2]
    have hlt : i < (wordBytes w).length := by rw [wordBytes_len]; exact hi
    rw [List.take_succ_eq_append_getElem hlt]
    simp only [crcS, List.foldl_append, List.foldl_cons, List.foldl_nil]
    congr 6
    simp [wordBytes]) (by
    have e : (wordBytes w).take 8 = wordBytes w := List.take_of_length_le (by rw [wordBytes_len]; exact Nat.le_refl _)
    dsimp only [m_99_2b]
    rw [e]; rfl)
  simpa [crcS] using this
theorem sum_of (l : List Int) (hw : ∀ x ∈ l, isW x) (hl : l.length < 4294967296) : m_92 l = some (crcW l) := by
  unfold m_92 m_98 m_99
  rw [tab_eq]
  have key : loopO (m_99_1b (c98 tabL) l) (0, (4294967295 : Int)) = some (.inl ((l.length : Int), ((crcS (BitVec.allOnes 32) (l.flatMap wordBytes)).toNat : Int))) := by
    refine loopO_count (f := m_99_1b (c98 tabL) l) (fun i => ((i : Int), ((crcS (BitVec.allOnes 32) ((l.take i).flatMap wordBytes)).toNat : Int))) l.length (fun i hi => ?_) ?_
    · have h1 : decide ((i : Int) < (l.length : Int)) = true := by simp; omega
      have e2 : IntKind.wrap .i64 ((i : Int) + 1) = ((i + 1 : Nat) : Int) := by rw [wi64 (by omega) (by omega)]; rfl
      dsimp only [m_99_1b]
      rw [h1, gt_eq hi]
      simp only [cond_true, ob_s, fold_word _ _ (hw _ (List.getElem_mem hi)), m_99_2k, e2]
      rw [List.take_succ_eq_append_getElem hi]
      simp only [List.flatMap_append, List.flatMap_cons, List.flatMap_nil, List.append_nil, crcS, List.foldl_append]
    · have h1 : decide ((l.length : Int) < (l.length : Int)) = false := by simp
      dsimp only [m_99_1b]
      rw [h1, List.take_length]; rfl
  simp only [ob_s]
  rw [key]
  simp only [ob_s, m_99_1k]
  have := xor32 (BitVec.allOnes 32) (crcS (BitVec.allOnes 32) (l.flatMap wordBytes))
  have e : (((BitVec.allOnes 32).toNat : Nat) : Int) = IntKind.max .u32 := rfl
  rw [e] at this
  rw [this, BitVec.xor_comm]
  rfl
end Go.Proofs.Ytdkfdmalbbfbmaa
