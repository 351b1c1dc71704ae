/- The plain law of LogLost. -/
import Derived.Test.YtdkfdmalbbfbmaaGreatMWL20
import Derived.Test.YtdkfdmalbbfbmaaGreatMWL19
import Derived.ChangeKeysEq
/- The plain law of LogLost. -/
namespace Go.Proofs.YtdkfdmalbbfbmaaGreat
open Go
set_option maxRecDepth 4000

/-- The document's appending. -/
theorem ref_append {X : RDisk} {n : Nat} (h : GoodX X n) {f k : Nat} {e : Int} {fs : List Frame} {L : LogM} (hL : LogOk f k e fs L X) (hfk : f + k ≤ n) (he : num e = true) {F : Frame} (hm : may F = true) (hw : ∀ x ∈ F.Words, isW x) :
    m_18 ⟨(f : Int), (k : Int), e, fs⟩ X F = if (streamF e 0 fs).length + (1 + F.Words.length) ≤ 8 * k then
      some (0, ⟨(f : Int), (k : Int), e, fs ++ [F]⟩, wsX X f (streamF e 0 (fs ++ [F])) ((streamF e 0 fs).length / 8) (((streamF e 0 (fs ++ [F])).length - 1) / 8 + 1 - (streamF e 0 fs).length / 8))
    else some (4, ⟨(f : Int), (k : Int), e, fs⟩, X) := by
  have hsm := h.small
  obtain ⟨_, hmay, hww, hlen, hread⟩ := hL
  obtain ⟨k0, k1, k2⟩ := may_iff.1 hm
  have hc := stream_count e 0 fs
  have hst : streamF e 0 (fs ++ [F]) = streamF e 0 fs ++ putF e (fs.length : Int) F := by
    rw [streamF_append]; simp [streamF]
  have hpl := putF_len e (fs.length : Int) F
  have hmay' : ∀ G ∈ fs ++ [F], may G = true := fun G hG => by
    rcases List.mem_append.1 hG with hG | hG
    · exact hmay G hG
    · rw [List.mem_singleton.1 hG]; exact hm
  have hww' : ∀ G ∈ fs ++ [F], ∀ x ∈ G.Words, isW x := fun G hG => by
    rcases List.mem_append.1 hG with hG | hG
    · exact hww G hG
    · rw [List.mem_singleton.1 hG]; exact hw
  have hsw := isW_stream (e := e) (n := 0) hmay' hww'
  have hlen' : (streamF e 0 (fs ++ [F])).length = (streamF e 0 fs).length + (1 + F.Words.length) := by rw [hst, List.length_append, hpl]
  unfold m_18
  rw [may_46, hm]
  simp only [ob_s, Bool.not_true, cond_false]
  rw [ref_used hmay (by omega)]
  simp only [ob_s]
  rw [put_48 he (num_iff.2 ⟨by omega, by omega⟩) ⟨by omega, k1⟩ k2 hw]
  simp only [ob_s]
  have e8 : IntKind.wrap .i64 (8 * (k : Int)) = ((8 * k : Nat) : Int) := by rw [wi64 (by omega) (by omega)]; omega
  have eT : IntKind.wrap .i64 (((streamF e 0 fs).length : Int) + ((putF e (fs.length : Int) F).length : Int)) = ((streamF e 0 (fs ++ [F])).length : Int) := by rw [wi64 (by omega) (by omega), hlen', hpl]; omega
  rw [e8, eT]
  generalize hS : streamF e 0 (fs ++ [F]) = S at hst hsw hlen' eT ⊢
  generalize streamF e 0 fs = T at hread hlen hc hst hlen' eT ⊢
  generalize putF e (fs.length : Int) F = U at hst hpl eT ⊢
  rcases Nat.lt_or_ge (8 * k) (T.length + (1 + F.Words.length)) with hfit | hfit
  · rw [if_neg (by omega), show decide ((S.length : Int) > ((8 * k : Nat) : Int)) = true by simp; omega]; rfl
  rw [if_pos hfit, show decide ((S.length : Int) > ((8 * k : Nat) : Int)) = false by simp; omega]
  simp only [cond_false]
  rw [ap_eq (by simp; omega)]
  simp only [ob_s, List.nil_append]
  rw [ap_eq (by simp; omega)]
  simp only [ob_s]
  have ed : IntKind.wrap .i64 (Int.tdiv (T.length : Int) 8) = ((T.length / 8 : Nat) : Int) := by
    rw [Int.tdiv_eq_ediv_of_nonneg (by omega), wi64 (by omega) (by omega)]; omega
  rw [ed]
  -- one sector
  have sect : ∀ {i : Nat} {Y : RDisk}, i < k → T.length / 8 ≤ i → Y.Read[f + i]? = some (secAt T i) → loopO (m_18_2b ⟨(f : Int), (k : Int), e, fs⟩ (T.length : Int) U (fs ++ [F]) (i : Int) Y) (0, List.replicate 8 0) = some (8, secAt S i) := by
    intro i Y hi hlow hY
    have e4 : IntKind.wrap .i64 ((f : Int) + (i : Int)) = ((f + i : Nat) : Int) := by rw [wi64 (by omega) (by omega)]; omega
    have hS8 : (secAt S i).length = 8 := (secAt_isS hsw i).1
    have := loopO_count (f := m_18_2b ⟨(f : Int), (k : Int), e, fs⟩ (T.length : Int) U (fs ++ [F]) (i : Int) Y) (fun j => ((j : Int), (secAt S i).take j ++ List.replicate (8 - j) 0)) 8 (r := (8, secAt S i)) (fun j hj => by
      have h1 : decide ((j : Int) < 8) = true := by simp; omega
      have h0 : decide (0 ≤ (j : Int)) = true := by simp
      have e2 : IntKind.wrap .i64 ((j : Int) + 1) = ((j + 1 : Nat) : Int) := by rw [wi64 (by omega) (by omega)]; rfl
      have e3 : IntKind.wrap .i64 (IntKind.wrap .i64 (8 * (i : Int)) + (j : Int)) = ((8 * i + j : Nat) : Int) := by rw [wi64 (x := 8 * (i : Int)) (by omega) (by omega), wi64 (by omega) (by omega)]; omega
      have hSg := secAt_get S i j hj
      have hTg := secAt_get T i j hj
      have hset : ∀ y, (secAt S i)[j]? = some y → ((secAt S i).take j ++ List.replicate (8 - j) (0 : Int)).set j y = (secAt S i).take (j + 1) ++ List.replicate (8 - (j + 1)) 0 := by
        intro y hy
        have hy2 : (secAt S i)[j]'(by omega) = y := by
          rw [List.getElem?_eq_getElem (by omega)] at hy; exact Option.some.inj hy
        rw [List.take_succ_eq_append_getElem (show j < (secAt S i).length by omega), hy2, List.append_assoc, List.set_append, List.length_take, Nat.min_eq_left (by omega), if_neg (by omega), Nat.sub_self]
        rw [show 8 - j = (8 - (j + 1)) + 1 by omega, List.replicate_succ]
        rfl
      have hl8 : ((secAt S i).take j ++ List.replicate (8 - j) (0 : Int)).length = 8 := by rw [List.length_append, List.length_take, List.length_replicate]; omega
      dsimp only [m_18_2b]
      rw [h1, h0, e3, e4, gt_at hY, eT]
      simp only [cond_true, ob_s, Bool.and_self, gd_t]
      rw [gt_at hTg]
      simp only [ob_s]
      by_cases c1 : 8 * i + j < T.length
      · rw [show decide (((8 * i + j : Nat) : Int) < (T.length : Int)) = true by simp; omega]
        simp only [cond_true]
        have hv : (T[8 * i + j]?).getD 0 = (S[8 * i + j]?).getD 0 := by rw [hst, List.getElem?_append_left c1]
        rw [st_eq (by omega), hset _ (hv ▸ hSg)]
        simp only [ob_s, m_18_3k, e2]
      · rw [show decide (((8 * i + j : Nat) : Int) < (T.length : Int)) = false by simp; omega]
        simp only [cond_false]
        by_cases c2 : 8 * i + j < S.length
        · rw [show decide (((8 * i + j : Nat) : Int) < (S.length : Int)) = true by simp; omega]
          simp only [cond_true]
          rw [show IntKind.wrap .i64 (((8 * i + j : Nat) : Int) - (T.length : Int)) = ((8 * i + j - T.length : Nat) : Int) by rw [wi64 (by omega) (by omega)]; omega]
          have hU : U[8 * i + j - T.length]? = some ((S[8 * i + j]?).getD 0) := by
            have h9 : S[8 * i + j]? = U[8 * i + j - T.length]? := by rw [hst, List.getElem?_append_right (by omega)]
            rw [← h9, List.getElem?_eq_getElem c2]; rfl
          rw [gt_at hU]
          simp only [ob_s]
          rw [st_eq (by omega), hset _ hSg]
          simp only [ob_s, m_18_3k, e2]
        · rw [show decide (((8 * i + j : Nat) : Int) < (S.length : Int)) = false by simp; omega]
          simp only [cond_false, ob_s, m_18_3k, e2]
          rw [List.getElem?_eq_none (l := S) (by omega)] at hSg
          rw [← hset 0 hSg]
          congr 4
          apply List.ext_getElem?
          intro p
          rw [List.getElem?_set]
          by_cases hp : j = p
          · subst hp
            rw [if_pos rfl, if_pos (by omega), List.getElem?_append_right (by rw [List.length_take]; omega), List.length_take, Nat.min_eq_left (by omega), Nat.sub_self, List.getElem?_replicate, if_pos (by omega)]
          · rw [if_neg hp]) (by
      dsimp only [m_18_2b]
      rw [List.take_of_length_le (by omega)]
      simp)
    simpa using this
  -- the sectors
  have key : ∀ m, m ≤ (S.length - 1) / 8 + 1 - T.length / 8 → loopO (m_18_1b ⟨(f : Int), (k : Int), e, fs⟩ (T.length : Int) U (fs ++ [F])) (((T.length / 8 : Nat) : Int), X) = loopO (m_18_1b ⟨(f : Int), (k : Int), e, fs⟩ (T.length : Int) U (fs ++ [F])) (((T.length / 8 + m : Nat) : Int), wsX X f S (T.length / 8) m) := by
    intro m
    induction m with
    | zero => intro _; rfl
    | succ m ih =>
      intro hm'
      rw [ih (by omega)]
      have hi : T.length / 8 + m < k := by omega
      have hY : (wsX X f S (T.length / 8) m).Read[f + (T.length / 8 + m)]? = some (secAt T (T.length / 8 + m)) := by
        rw [wsX_read _ _ _ _ _ _ (by rw [h.r]; omega), if_neg (by omega), hread _ hi]
      refine loopO_next ?_
      have e1 : IntKind.wrap .i64 (((T.length / 8 + m : Nat) : Int) + 1) = ((T.length / 8 + (m + 1) : Nat) : Int) := by rw [wi64 (by omega) (by omega)]; omega
      have e2 : IntKind.wrap .i64 (((T.length / 8 + m : Nat) : Int) * 8) = ((8 * (T.length / 8 + m) : Nat) : Int) := by rw [wi64 (by omega) (by omega)]; omega
      have e4 : IntKind.wrap .i64 ((f : Int) + ((T.length / 8 + m : Nat) : Int)) = ((f + (T.length / 8 + m) : Nat) : Int) := by rw [wi64 (by omega) (by omega)]; omega
      dsimp only [m_18_1b]
      rw [e2, eT, show decide (((8 * (T.length / 8 + m) : Nat) : Int) < (S.length : Int)) = true by simp; omega]
      simp only [cond_true]
      rw [sect hi (by omega) hY]
      simp only [ob_s, m_18_2k]
      rw [e4, ref_write (wsX_good h hsw m) (by omega)]
      simp only [ob_s, e1]
      rfl
  rw [key _ (Nat.le_refl _)]
  rw [loopO_end (r := (((T.length / 8 + ((S.length - 1) / 8 + 1 - T.length / 8) : Nat) : Int), wsX X f S (T.length / 8) ((S.length - 1) / 8 + 1 - T.length / 8))) ?_]
  · rfl
  · have e2 : IntKind.wrap .i64 (((T.length / 8 + ((S.length - 1) / 8 + 1 - T.length / 8) : Nat) : Int) * 8) = ((8 * (T.length / 8 + ((S.length - 1) / 8 + 1 - T.length / 8)) : Nat) : Int) := by rw [wi64 (by omega) (by omega)]; omega
    dsimp only [m_18_1b]
    rw [e2, eT, show decide (((8 * (T.length / 8 + ((S.length - 1) / 8 + 1 - T.length / 8)) : Nat) : Int) < (S.length : Int)) = false by simp; omega]
    rfl

theorem ref_new {n : Nat} (h2 : n ≤ 4096) : m_16 (n : Int) = some ⟨List.replicate n Z8, List.replicate n Z8, List.replicate n false⟩ := by
  unfold m_16
  rw [show (decide (0 ≤ (n : Int)) && decide ((n : Int) ≤ 4096)) = true by simp; omega]
  simp only [gd_t, ob_s, Int.toNat_natCast]
  rfl
theorem clX_lasts (X : RDisk) (f k : Nat) (ws : List Int) (h : X.Lasts = X.Read) : (clX X f k ws).Lasts = (clX X f k ws).Read := by
  have key : ∀ m, ((List.range m).foldl (clS f ws) (false, X)).1 = false → ((List.range m).foldl (clS f ws) (false, X)).2 = X := by
    intro m
    induction m with
    | zero => intro _; rfl
    | succ m ih =>
      intro hm
      rw [List.range_succ, List.foldl_append] at hm ⊢
      simp only [List.foldl_cons, List.foldl_nil] at hm ⊢
      unfold clS at hm ih ⊢
      split at hm
      · rename_i hc
        rw [if_pos hc]
        exact ih hm
      · cases hm
  unfold clX
  simp only
  split
  · rfl
  · rename_i hb
    rw [key k (by simpa using hb)]; exact h

/-- One frame is appended, here and there. -/
theorem lost_step {D : Disk} {N : Nat} {L : LogM} {fs : List Frame} (hg : Good D N) (hL : LogOk 0 N 1 fs L (absD D)) {F : Frame} (hw : ∀ x ∈ F.Words, isW x) :
    ∃ y L' D' more, mq_10 L D F = some (y, L', D') ∧ m_18 ⟨0, (N : Int), 1, fs⟩ (absD D) F = some (y, ⟨0, (N : Int), 1, fs ++ more⟩, absD D') ∧ Good D' N ∧ LogOk 0 N 1 (fs ++ more) L' (absD D') ∧ (absD D').Lasts = (absD D).Lasts := by
  cases hm : may F with
  | false =>
    refine ⟨1, L, D, [], append_bad hm, ?_, hg, by rw [List.append_nil]; exact hL, rfl⟩
    unfold m_18
    rw [may_46, hm, List.append_nil]; rfl
  | true =>
    have ha := append_eq hg hL (by omega) rfl hm hw
    have hr := ref_append (abs_good hg) hL (by omega) rfl hm hw
    split at ha
    · rename_i hfit
      rw [if_pos hfit] at hr
      obtain ⟨L', D', g1, g2, g3, g4⟩ := ha
      refine ⟨0, L', D', [F], g1, ?_, g2, g3, ?_⟩
      · rw [g4]; exact hr
      · rw [g4, wsX_lasts]
    · rename_i hfit
      rw [if_neg hfit] at hr
      refine ⟨4, L, D, [], ha, ?_, hg, by rw [List.append_nil]; exact hL, rfl⟩
      rw [List.append_nil]; exact hr

theorem n20 {x0 : Int} (h0 : 0 ≤ x0) (h1 : x0 ≤ 255) : ∃ N : Nat, 1 ≤ N ∧ N ≤ 20 ∧ IntKind.wrap .i64 (IntKind.wrap .i64 (Int.tmod x0 20) + 1) = (N : Int) := by
  refine ⟨(x0 % 20).toNat + 1, by omega, by omega, ?_⟩
  rw [Int.tmod_eq_emod_of_nonneg h0, wi64 (x := x0 % 20) (by omega) (by omega), wi64 (by omega) (by omega)]
  omega

/-- The words of what is read, where sectors are of a stream or of its beginning. -/
theorem part_words {X : RDisk} {k : Nat} (hs : ∀ s ∈ X.Read, isS s) (hfk : 0 + k ≤ X.Read.length) {ws vs : List Int} (h : ∀ i, i < k → X.Read[0 + i]? = some (secAt ws i) ∨ X.Read[0 + i]? = some (secAt (ws ++ vs) i)) {p : Nat} {x : Int} (hx : (partW X 0 k)[p]? = some x) : x = 0 ∨ (ws ++ vs)[p]? = some x := by
  have hpl := part_len (f := 0) (k := k) hs hfk
  have hp : p < 8 * k := by have := (List.getElem?_eq_some_iff.1 hx).1; omega
  have hi : p / 8 < k := by omega
  have e1 := part_sec hs hfk hi
  have hw : ∀ ys : List Int, X.Read[0 + p / 8]? = some (secAt ys (p / 8)) → x = (ys[p]?).getD 0 := by
    intro ys hy
    rw [hy] at e1
    have e2 := congrArg (fun s : Option Sec => s.bind (·[p % 8]?)) e1
    simp only [Option.bind_some] at e2
    rw [secAt_get _ _ _ (by omega), secAt_get _ _ _ (by omega), show 8 * (p / 8) + p % 8 = p by omega, hx] at e2
    simpa using e2.symm
  have hc : ∀ ys : List Int, x = (ys[p]?).getD 0 → x = 0 ∨ ys[p]? = some x := by
    intro ys hy
    cases hq : ys[p]? with
    | none => rw [hq] at hy; exact .inl hy
    | some z => rw [hq] at hy; right; rw [hy]; rfl
  rcases h _ hi with h1 | h1
  · rcases hc _ (hw _ h1) with h2 | h2
    · exact .inl h2
    · right
      rw [List.getElem?_append_left (List.getElem?_eq_some_iff.1 h2).1]; exact h2
  · exact hc _ (hw _ h1)

theorem mark_pos {e n k : Int} {ws : List Int} (hk : 1 ≤ k) : 0 < markV e n k ws := by
  have hc := crcW_range (k :: (ws.length : Int) :: e :: n :: ws)
  have hmv : markV e n k ws = k * 72057594037927936 + (ws.length : Int) * 4294967296 + crcW (k :: (ws.length : Int) :: e :: n :: ws) := rfl
  have := hc.1
  rw [hmv]; omega
theorem mark_inj {e n k j : Int} {ws vs : List Int} (h1 : ws.length ≤ 2000) (h2 : vs.length ≤ 2000) (h : markV e n k ws = markV e n j vs) : k = j ∧ ws.length = vs.length := by
  have hc := crcW_range (k :: (ws.length : Int) :: e :: n :: ws)
  have hd := crcW_range (j :: (vs.length : Int) :: e :: n :: vs)
  have hmv : markV e n k ws = k * 72057594037927936 + (ws.length : Int) * 4294967296 + crcW (k :: (ws.length : Int) :: e :: n :: ws) := rfl
  have hmv2 : markV e n j vs = j * 72057594037927936 + (vs.length : Int) * 4294967296 + crcW (j :: (vs.length : Int) :: e :: n :: vs) := rfl
  rw [hmv, hmv2] at h
  obtain ⟨a, b⟩ := hc
  obtain ⟨c, d⟩ := hd
  constructor <;> omega
theorem stream_at {e : Int} {fs : List Frame} {j : Nat} (h : j < fs.length) : (streamF e 0 fs)[(streamF e 0 (fs.take j)).length]? = some (markV e (j : Int) fs[j].Kind fs[j].Words) := by
  have hd : fs = fs.take j ++ fs[j] :: fs.drop (j + 1) := by
    conv => lhs; rw [← List.take_append_drop j fs, List.drop_eq_getElem_cons h]
  conv => lhs; rw [hd, streamF_append]
  rw [List.take_append_of_le_length (by rw [List.length_take]; omega), List.take_take, Nat.min_self, List.getElem?_append_right (Nat.le_refl _), Nat.sub_self]
  simp only [streamF, putF, List.cons_append, List.getElem?_cons_zero]
  rw [List.length_take, Nat.min_eq_left (by omega), Nat.zero_add]

end Go.Proofs.YtdkfdmalbbfbmaaGreat

/- Sums tell numbers apart, that stand at one place. -/
namespace Go.Proofs.YtdkfdmalbbfbmaaGreat
open Go
set_option maxRecDepth 4000

theorem bstep_zero {x : B32} (h : bstep x = 0#32) : x = 0#32 := by
  unfold bstep at h
  cases hb : x.getLsbD 0 with
  | true =>
    rw [hb] at h
    simp only [cond_true] at h
    have h2 := congrArg (fun y : B32 => y.getLsbD 31) h
    simp [poly] at h2
  | false =>
    rw [hb] at h
    simp only [cond_false] at h
    apply BitVec.eq_of_getLsbD_eq
    intro i hi
    cases i with
    | zero => simpa using hb
    | succ i =>
      have h2 := congrArg (fun y : B32 => y.getLsbD i) h
      simpa [Nat.add_comm] using h2
theorem bsteps_zero : ∀ (n : Nat) {x : B32}, bsteps n x = 0#32 → x = 0#32
  | 0, _, h => h
  | n + 1, x, h => by
    rw [bsteps_succ] at h
    exact bsteps_zero n (bstep_zero h)
theorem b8_zero {x : B32} (h : b8 x = 0#32) : x = 0#32 := bsteps_zero 8 h
theorem b8_xor (a b : B32) : b8 (a ^^^ b) = b8 a ^^^ b8 b := bsteps_xor 8 a b
theorem xor_zero {a b : B32} (h : a ^^^ b = 0#32) : a = b := by
  have : a ^^^ b ^^^ b = 0#32 ^^^ b := by rw [h]
  rw [BitVec.xor_assoc, BitVec.xor_self, BitVec.xor_zero, BitVec.zero_xor] at this
  exact this
theorem b8_inj {x y : B32} (h : b8 x = b8 y) : x = y := xor_zero (b8_zero (by rw [b8_xor, h, BitVec.xor_self]))
theorem crcB_inj {x y : B32} {c : Int} (h : crcB x c = crcB y c) : x = y := by
  have := b8_inj h
  have h2 : x ^^^ BitVec.ofInt 32 c ^^^ BitVec.ofInt 32 c = y ^^^ BitVec.ofInt 32 c ^^^ BitVec.ofInt 32 c := by rw [this]
  rw [BitVec.xor_assoc, BitVec.xor_self, BitVec.xor_zero, BitVec.xor_assoc, BitVec.xor_self, BitVec.xor_zero] at h2
  exact h2
theorem crcS_inj : ∀ {cs : List Int} {x y : B32}, crcS x cs = crcS y cs → x = y
  | [], _, _, h => h
  | c :: cs, x, y, h => crcB_inj (crcS_inj (cs := cs) (x := crcB x c) (y := crcB y c) h)
def small (x : B32) : Prop := ∀ j, 8 ≤ j → x.getLsbD j = false
theorem b8_shl {z : B32} (h : ∀ j, 24 ≤ j → z.getLsbD j = false) : b8 (z <<< 8) = z := bsteps_shl z 8 fun j hj => h j (by omega)
theorem small_xor {a b : B32} (ha : small a) (hb : small b) : small (a ^^^ b) := fun j hj => by
  rw [BitVec.getLsbD_xor, ha j hj, hb j hj]; rfl
theorem small_byte {c : Int} (h : isB c) : small (BitVec.ofInt 32 c) := fun j hj => by
  obtain ⟨h0, h1⟩ := h
  obtain ⟨n, rfl⟩ : ∃ n : Nat, c = n := ⟨c.toNat, by omega⟩
  have hn : n < 256 := by omega
  rw [show BitVec.ofInt 32 (n : Int) = BitVec.ofNat 32 n from BitVec.ofInt_natCast ..]
  rw [BitVec.getLsbD_ofNat]
  have : n.testBit j = false := Nat.testBit_lt_two_pow (Nat.lt_of_lt_of_le hn (by
    calc 256 = 2 ^ 8 := rfl
      _ ≤ 2 ^ j := Nat.pow_le_pow_right (by decide) hj))
  rw [this, Bool.and_false]
theorem four {d0 d1 d2 d3 : B32} (h0 : small d0) (h1 : small d1) (h2 : small d2) (h3 : small d3) (h : b8 (b8 (b8 (b8 d0 ^^^ d1) ^^^ d2) ^^^ d3) = 0#32) : d0 = 0#32 ∧ d1 = 0#32 ∧ d2 = 0#32 ∧ d3 = 0#32 := by
  have sh : ∀ {z : B32} (k : Nat), small z → k + 8 ≤ 24 → ∀ j, 24 ≤ j → (z <<< k).getLsbD j = false := fun {z} k hz hk j hj => by
    rw [BitVec.getLsbD_shiftLeft, hz (j - k) (by omega), Bool.and_false]
  have e1 : d1 = b8 (d1 <<< 8) := (b8_shl (fun j hj => h1 j (by omega))).symm
  have e2 : d2 = b8 (b8 (d2 <<< 16)) := by
    rw [show d2 <<< 16 = (d2 <<< 8) <<< 8 by rw [← BitVec.shiftLeft_add]]
    rw [b8_shl (sh 8 h2 (by decide)), b8_shl (fun j hj => h2 j (by omega))]
  have e3 : d3 = b8 (b8 (b8 (d3 <<< 24))) := by
    rw [show d3 <<< 24 = ((d3 <<< 8) <<< 8) <<< 8 by rw [← BitVec.shiftLeft_add, ← BitVec.shiftLeft_add]]
    rw [b8_shl (z := (d3 <<< 8) <<< 8) (by rw [← BitVec.shiftLeft_add]; exact sh 16 h3 (by decide)), b8_shl (sh 8 h3 (by decide)), b8_shl (fun j hj => h3 j (by omega))]
  have key : b8 (b8 (b8 (b8 d0 ^^^ d1) ^^^ d2) ^^^ d3) = b8 (b8 (b8 (b8 (d0 ^^^ d1 <<< 8 ^^^ d2 <<< 16 ^^^ d3 <<< 24)))) := by
    rw [b8_xor (d0 ^^^ d1 <<< 8 ^^^ d2 <<< 16), b8_xor (d0 ^^^ d1 <<< 8), b8_xor d0, ← e1]
    rw [b8_xor (b8 d0 ^^^ d1 ^^^ _), b8_xor (b8 d0 ^^^ d1), ← e2]
    rw [b8_xor (b8 (b8 d0 ^^^ d1) ^^^ d2), ← e3]
  rw [key] at h
  have hz := b8_zero (b8_zero (b8_zero (b8_zero h)))
  have bit : ∀ j, (d0.getLsbD j ^^ (decide (j < 32) && !decide (j < 8) && d1.getLsbD (j - 8)) ^^ (decide (j < 32) && !decide (j < 16) && d2.getLsbD (j - 16)) ^^ (decide (j < 32) && !decide (j < 24) && d3.getLsbD (j - 24))) = false := fun j => by
    have := congrArg (fun y : B32 => y.getLsbD j) hz
    simpa [BitVec.getLsbD_xor, BitVec.getLsbD_shiftLeft] using this
  have T : ∀ {p : Prop} [Decidable p], p → decide p = true := fun h => decide_eq_true h
  have N : ∀ {p : Prop} [Decidable p], ¬ p → decide p = false := fun h => decide_eq_false h
  have z0 : ∀ j, j < 8 → d0.getLsbD j = false := fun j hj => by
    have := bit j
    rw [T hj, T (show j < 16 by omega), T (show j < 24 by omega)] at this
    simpa only [Bool.not_true, Bool.and_false, Bool.false_and, Bool.xor_false] using this
  have z1 : ∀ j, j < 8 → d1.getLsbD j = false := fun j hj => by
    have := bit (j + 8)
    rw [h0 (j + 8) (by omega), T (show j + 8 < 32 by omega), N (show ¬ j + 8 < 8 by omega), T (show j + 8 < 16 by omega), T (show j + 8 < 24 by omega), show j + 8 - 8 = j by omega] at this
    simpa only [Bool.not_true, Bool.not_false, Bool.and_false, Bool.and_true, Bool.true_and, Bool.false_and, Bool.xor_false, Bool.false_xor] using this
  have z2 : ∀ j, j < 8 → d2.getLsbD j = false := fun j hj => by
    have := bit (j + 16)
    rw [h0 (j + 16) (by omega), T (show j + 16 < 32 by omega), N (show ¬ j + 16 < 8 by omega), N (show ¬ j + 16 < 16 by omega), T (show j + 16 < 24 by omega), h1 (j + 16 - 8) (by omega), show j + 16 - 16 = j by omega] at this
    simpa only [Bool.not_true, Bool.not_false, Bool.and_false, Bool.and_true, Bool.true_and, Bool.false_and, Bool.xor_false, Bool.false_xor] using this
  have z3 : ∀ j, j < 8 → d3.getLsbD j = false := fun j hj => by
    have := bit (j + 24)
    rw [h0 (j + 24) (by omega), T (show j + 24 < 32 by omega), N (show ¬ j + 24 < 8 by omega), N (show ¬ j + 24 < 16 by omega), N (show ¬ j + 24 < 24 by omega), h1 (j + 24 - 8) (by omega), h2 (j + 24 - 16) (by omega), show j + 24 - 24 = j by omega] at this
    simpa only [Bool.not_true, Bool.not_false, Bool.and_false, Bool.and_true, Bool.true_and, Bool.false_and, Bool.xor_false, Bool.false_xor] using this
  have fin : ∀ {d : B32}, small d → (∀ j, j < 8 → d.getLsbD j = false) → d = 0#32 := fun {d} hs hz => by
    apply BitVec.eq_of_getLsbD_eq
    intro j hj
    by_cases h : j < 8
    · rw [hz j h]; simp
    · rw [hs j (by omega)]; simp
  exact ⟨fin h0 z0, fin h1 z1, fin h2 z2, fin h3 z3⟩
theorem ofInt_byte {c d : Int} (hc : isB c) (hd : isB d) (h : BitVec.ofInt 32 c ^^^ BitVec.ofInt 32 d = 0#32) : c = d := by
  have h2 := xor_zero h
  obtain ⟨c0, c1⟩ := hc
  obtain ⟨d0, d1⟩ := hd
  obtain ⟨n, rfl⟩ : ∃ n : Nat, c = n := ⟨c.toNat, by omega⟩
  obtain ⟨m, rfl⟩ : ∃ n : Nat, d = n := ⟨d.toNat, by omega⟩
  have h3 := congrArg BitVec.toNat h2
  rw [show BitVec.ofInt 32 (n : Int) = BitVec.ofNat 32 n from BitVec.ofInt_natCast .., show BitVec.ofInt 32 (m : Int) = BitVec.ofNat 32 m from BitVec.ofInt_natCast .., BitVec.toNat_ofNat, BitVec.toNat_ofNat, Nat.mod_eq_of_lt (by omega), Nat.mod_eq_of_lt (by omega)] at h3
  omega
theorem word_inj {S : B32} {x y : Int} (hx : 0 ≤ x ∧ x < 4294967296) (hy : 0 ≤ y ∧ y < 4294967296) (h : crcS S (wordBytes x) = crcS S (wordBytes y)) : x = y := by
  have wb : ∀ w : Int, 0 ≤ w ∧ w < 4294967296 → wordBytes w = [w % 256, w / 256 % 256, w / 65536 % 256, w / 16777216 % 256, 0, 0, 0, 0] := by
    intro w hw
    simp only [wordBytes, List.range_succ, List.range_zero, List.nil_append, List.map_append, List.map_cons, List.map_nil, List.cons_append]
    simp only [List.cons.injEq, and_true]
    refine ⟨?_, ?_, ?_, ?_, ?_, ?_, ?_, ?_⟩
    · rw [show (256 : Int) ^ 0 = 1 from rfl]; omega
    · rw [show (256 : Int) ^ 1 = 256 from rfl]
    · rw [show (256 : Int) ^ 2 = 65536 from rfl]
    · rw [show (256 : Int) ^ 3 = 16777216 from rfl]
    · rw [show (256 : Int) ^ 4 = 4294967296 from rfl]; omega
    · rw [show (256 : Int) ^ 5 = 1099511627776 from rfl]; omega
    · rw [show (256 : Int) ^ 6 = 281474976710656 from rfl]; omega
    · rw [show (256 : Int) ^ 7 = 72057594037927936 from rfl]; omega
  rw [wb x hx, wb y hy] at h
  have h4 : crcS S [x % 256, x / 256 % 256, x / 65536 % 256, x / 16777216 % 256] = crcS S [y % 256, y / 256 % 256, y / 65536 % 256, y / 16777216 % 256] := crcS_inj (cs := [0, 0, 0, 0]) h
  have isb : ∀ w : Int, isB (w % 256) := fun w => ⟨by omega, by omega⟩
  simp only [crcS, List.foldl_cons, List.foldl_nil, crcB] at h4
  have h5 := b8_inj h4
  obtain ⟨z0, z1, z2, z3⟩ := four (small_xor (small_byte (isb x)) (small_byte (isb y))) (small_xor (small_byte (isb (x / 256))) (small_byte (isb (y / 256)))) (small_xor (small_byte (isb (x / 65536))) (small_byte (isb (y / 65536)))) (small_xor (small_byte (isb (x / 16777216))) (small_byte (isb (y / 16777216)))) (by
    have stp : ∀ P Q p q : B32, b8 (P ^^^ Q ^^^ (p ^^^ q)) = b8 (P ^^^ p) ^^^ b8 (Q ^^^ q) := fun P Q p q => by
      rw [← b8_xor]
      congr 1
      ac_rfl
    have s0 : ∀ p q : B32, b8 (p ^^^ q) = b8 (S ^^^ p) ^^^ b8 (S ^^^ q) := fun p q => by
      rw [← stp, BitVec.xor_self, BitVec.zero_xor]
    rw [s0 (BitVec.ofInt 32 (x % 256)) (BitVec.ofInt 32 (y % 256)), stp, stp, stp, h5, BitVec.xor_self])
  have q0 := ofInt_byte (isb _) (isb _) z0
  have q1 := ofInt_byte (isb _) (isb _) z1
  have q2 := ofInt_byte (isb _) (isb _) z2
  have q3 := ofInt_byte (isb _) (isb _) z3
  omega
/-- Sums of words that are alike but for one small one. -/
theorem crcW_inj {ps bs : List Int} {x y : Int} (hx : 0 ≤ x ∧ x < 4294967296) (hy : 0 ≤ y ∧ y < 4294967296) (h : crcW (ps ++ x :: bs) = crcW (ps ++ y :: bs)) : x = y := by
  unfold crcW at h
  have h2 := BitVec.eq_of_toNat_eq (Int.ofNat.inj h)
  have h3 : crcS (BitVec.allOnes 32) ((ps ++ x :: bs).flatMap wordBytes) = crcS (BitVec.allOnes 32) ((ps ++ y :: bs).flatMap wordBytes) := by
    have := congrArg (· ^^^ BitVec.allOnes 32) h2
    simpa only [BitVec.xor_assoc, BitVec.xor_self, BitVec.xor_zero] using this
  rw [List.flatMap_append, List.flatMap_append, List.flatMap_cons, List.flatMap_cons] at h3
  unfold crcS at h3
  rw [List.foldl_append, List.foldl_append, List.foldl_append, List.foldl_append] at h3
  exact word_inj hx hy (crcS_inj (cs := bs.flatMap wordBytes) h3)
/-- Frames of one epoch aren't those of another. -/
theorem mark_epoch {d e n k : Int} {ws : List Int} (hd : num d = true) (he : num e = true) (h : markV d n k ws = markV e n k ws) : d = e := by
  have hmv : ∀ e, markV e n k ws = k * 72057594037927936 + (ws.length : Int) * 4294967296 + crcW (k :: (ws.length : Int) :: e :: n :: ws) := fun _ => rfl
  rw [hmv, hmv] at h
  have h1 := num_iff.1 hd
  have h2 := num_iff.1 he
  exact crcW_inj (ps := [k, (ws.length : Int)]) (bs := n :: ws) ⟨h1.1, by omega⟩ ⟨h2.1, by omega⟩ (by
    show crcW (k :: (ws.length : Int) :: d :: n :: ws) = crcW (k :: (ws.length : Int) :: e :: n :: ws)
    omega)
theorem other_epoch {d e : Int} {fs : List Frame} {m : Nat} (hd : num d = true) (he : num e = true) (hde : d ≠ e) (hm : ∀ F ∈ fs, may F = true) : allF e 0 (streamF d 0 fs ++ List.replicate m 0) = ([], 0) := by
  cases fs with
  | nil => exact zeros_all
  | cons F fs =>
    refine allF_none ?_
    cases hg : getF e ((0 : Nat) : Int) (streamF d 0 (F :: fs) ++ List.replicate m 0) with
    | none => rfl
    | some G =>
      exfalso
      obtain ⟨hG, _, _, r, hr⟩ := getF_iff.1 hg
      have hF := may_iff.1 (hm F List.mem_cons_self)
      have hG := may_iff.1 hG
      simp only [streamF, putF, List.cons_append, List.cons.injEq] at hr
      obtain ⟨h1, h2⟩ := hr
      have hcF := crcW_range (F.Kind :: (F.Words.length : Int) :: d :: ((0 : Nat) : Int) :: F.Words)
      have hcG := crcW_range (G.Kind :: (G.Words.length : Int) :: e :: ((0 : Nat) : Int) :: G.Words)
      have e1 : markV d ((0 : Nat) : Int) F.Kind F.Words = F.Kind * 72057594037927936 + (F.Words.length : Int) * 4294967296 + crcW (F.Kind :: (F.Words.length : Int) :: d :: ((0 : Nat) : Int) :: F.Words) := rfl
      have e2 : markV e ((0 : Nat) : Int) G.Kind G.Words = G.Kind * 72057594037927936 + (G.Words.length : Int) * 4294967296 + crcW (G.Kind :: (G.Words.length : Int) :: e :: ((0 : Nat) : Int) :: G.Words) := rfl
      obtain ⟨a, b⟩ := hcF
      obtain ⟨a', b'⟩ := hcG
      have h3 := h1
      rw [e1, e2] at h3
      have hk : F.Kind = G.Kind := by omega
      have hl : F.Words.length = G.Words.length := by omega
      have hw : F.Words = G.Words := by
        have := congrArg (List.take F.Words.length) h2
        rw [List.append_assoc, List.take_left, hl, List.take_left] at this
        exact this
      rw [hk, hw] at h1
      exact hde (mark_epoch hd he h1)
end Go.Proofs.YtdkfdmalbbfbmaaGreat

/- Anchors as data; calls of function values; arrays that are compared, or copied over from a place on. -/
namespace Go.Proofs.YtdkfdmalbbfbmaaGreat
open Go Go.Maps
set_option maxRecDepth 4000

structure Anchor where
  Number : Int
  Epoch : Int
  Area : Int
  Words : Int
def kAn : Kd Anchor where
  sz := 4
  R _ cs A := cs = [.int .i64 A.Number, .int .i64 A.Epoch, .int .i64 A.Area, .int .i64 A.Words]
  len := by rintro s cs x rfl; rfl
  one := by
    rintro s cs x rfl u hu
    simp at hu
    rcases hu with rfl | rfl | rfl | rfl <;> rfl
  up := by rintro s s' cs x rfl hl; rfl
theorem At.elAnchor {s : St} {b o : Nat} {A : Anchor} (h : At kAn s ⟨b, o, none⟩ A) : s.w.cell? ⟨b, o, none⟩ = some (.int .i64 A.Number) ∧ s.w.cell? ⟨b, o + 1, none⟩ = some (.int .i64 A.Epoch) ∧ s.w.cell? ⟨b, o + 2, none⟩ = some (.int .i64 A.Area) ∧ s.w.cell? ⟨b, o + 3, none⟩ = some (.int .i64 A.Words) := by
  obtain ⟨_, _, _, cs, rfl, hc⟩ := h
  exact ⟨hc 0 _ rfl, hc 1 _ rfl, hc 2 _ rfl, hc 3 _ rfl⟩
section
variable {k : Tg} {T B b o : Nat} {s : St} {v : Value} {i : Int}
theorem bd_elAnchor {xs : List Anchor} {q : Anchor} (h : Bd k kAn T B s v xs) (hi : IxTo v i xs.length 4 b o) (hq : gt xs i = some q) : s.w.cell? ⟨b, o, none⟩ = some (.int .i64 q.Number) ∧ s.w.cell? ⟨b, o + 1, none⟩ = some (.int .i64 q.Epoch) ∧ s.w.cell? ⟨b, o + 2, none⟩ = some (.int .i64 q.Area) ∧ s.w.cell? ⟨b, o + 3, none⟩ = some (.int .i64 q.Words) := by
  obtain ⟨es, rfl, h2⟩ := bd_cells h hi hq
  exact ⟨h2 0 _ rfl, h2 1 _ rfl, h2 2 _ rfl, h2 3 _ rfl⟩
end

section
variable {P : Program} {w : World} {s : St} {κ : Tg} {ρ : Operand → Value} {d : Option Nat} {g : Option (Nat × Bool)} {t : Nat} {pos : String} {af : Array Edge} {x y q : Operand} {T T' T2 e b m l : Nat} {k k' : IntKind} {u v : Value} {xs ys : List Int}
theorem o_okv {f : FuncId} {az : List Operand} {ts : Array TypeId} {vs cp : List Value} {R : Value → St → Prop} (hf : ∀ args w, (callFunc f args).run P w = .ok (.enter f args) w) (hg : ρ q = .func (.func f) #[] cp.toArray) (hv : az.map ρ = vs)
    (hc : Ok P f (vs ++ cp).toArray s R) : Hv P ⟨d, .call ⟨.value q, az.toArray, ts⟩, t, pos, af, g⟩ ρ s R :=
  o_callv hf hg hv hc

theorem run_items (dp : Nat) {e : TypeId} (he : P.underlying e = some (.int k')) (hp : P.plainKey e = true) (hc : P.cellsOf e = 1) : ∀ (is : List Nat), (∀ i ∈ is, i < xs.length ∧ i < ys.length) →
    ∃ r : Bool, (Op.eqItems (dp + 1) e (P.cellsOf e) (cA k xs) (cA k ys) is).run P w = .ok r w ∧ (r = true ↔ ∀ i ∈ is, xs[i]? = ys[i]?)
  | [], _ => ⟨true, by simp [Op.eqItems], by simp⟩
  | i :: is, h => by
    obtain ⟨h1, h2⟩ := h i List.mem_cons_self
    obtain ⟨r, hr, hiff⟩ := run_items dp he hp hc is fun j hj => h j (List.mem_cons_of_mem _ hj)
    have p1 : (part e (cA k xs) (i * 1)).run P w = .ok (.int k xs[i]) w := run_part_plain w hp (by rw [Nat.mul_one]; exact cA_get (List.getElem?_eq_getElem h1))
    have p2 : (part e (cA k ys) (i * 1)).run P w = .ok (.int k ys[i]) w := run_part_plain w hp (by rw [Nat.mul_one]; exact cA_get (List.getElem?_eq_getElem h2))
    have p3 : (Op.equalIn (dp + 1) e (.int k xs[i]) (.int k ys[i])).run P w = .ok (xs[i] == ys[i]) w := by
      simp [Op.equalIn, Sem.run_bind, run_underlying he, Result.andThen]
    simp only [hc] at hr ⊢
    simp only [Op.eqItems, Sem.run_bind, p1, p2, p3, Result.andThen_ok]
    have hx : xs[i]? = some xs[i] := List.getElem?_eq_getElem h1
    have hy : ys[i]? = some ys[i] := List.getElem?_eq_getElem h2
    by_cases e : xs[i] = ys[i]
    · refine ⟨r, by simp [e, hr], ?_⟩
      rw [hiff]
      simp only [List.mem_cons, forall_eq_or_imp, hx, hy, e, true_and]
    · refine ⟨false, by simp [e], ?_⟩
      simp only [List.mem_cons, forall_eq_or_imp, hx, hy, Option.some.injEq, e, false_and, Bool.false_eq_true]
theorem run_equalA (dp : Nat) {i : TypeInfo} (hT : P.underlying T = some (.array m e)) (hi : P.info? e = some i) (he : P.underlying e = some (.int k')) (hp : P.plainKey e = true) (hc : P.cellsOf e = 1) (hl : xs.length = m) (hl2 : ys.length = m) :
    (Op.equalIn (dp + 2) T (eA k xs) (eA k ys)).run P w = .ok (decide (xs = ys)) w := by
  unfold eA
  rw [run_equalIn_array w (dp + 1) _ _ hT hi]
  obtain ⟨r, hr, hiff⟩ := run_items (w := w) (k := k) dp he hp hc (List.range m) (xs := xs) (ys := ys) (fun i hi => by have := List.mem_range.1 hi; omega)
  rw [hr]
  have : (r = true) ↔ xs = ys := by
    rw [hiff]
    constructor
    · intro h
      apply List.ext_getElem?
      intro j
      by_cases hj : j < m
      · exact h j (List.mem_range.2 hj)
      · rw [List.getElem?_eq_none (by omega), List.getElem?_eq_none (by omega)]
    · rintro rfl i _; rfl
  congr 1
  rw [Bool.eq_iff_iff, this, decide_eq_true_eq]
theorem o_neA {i : TypeInfo} (hT : P.underlying T = some (.array m e)) (hi : P.info? e = some i) (he : P.underlying e = some (.int k')) (hp : P.plainKey e = true) (hc : P.cellsOf e = 1) (hge : P.eqGuardType P.depth T = false) (hx : ρ x = eA k xs) (hy : ρ y = eA k ys) (hl : xs.length = m) (hl2 : ys.length = m) :
    OpTo P ⟨d, .binOp .neq T x y T', t, pos, af, g⟩ ρ w (.bool !(decide (xs = ys))) w := by
  refine OpTo_value (by intro c h; cases h) ?_
  simp only [execOp, hx, hy]
  refine run_v _ ?_
  have hq := run_equalA (w := w) (k := k) 9998 hT hi he hp hc hl hl2
  have h2 : (Op.equal T (eA k xs) (eA k ys)).run P w = .ok (decide (xs = ys)) w := hq
  have h3 : (eqGuard .neq T x y (eA k xs) (eA k ys)).run P w = .ok () w := by
    simp [eqGuard, eA, Sem.run_bind, Result.andThen, hge]
  have h4 : (binOp .neq T (eA k xs) (eA k ys)).run P w = .ok (.bool !(decide (xs = ys))) w := by
    unfold eA at h2 ⊢
    simp only [binOp, Sem.run_bind, h2]; rfl
  simp only [Sem.run_bind, h3, Result.andThen, h4]
/-- An array from a place on, as a slice. -/
theorem o_slSL (hT : P.underlying T = some (.array m e)) (hz : ∀ w, (sizeOf e).run P w = .ok 1 w) (hx : ρ x = .pointer (some ⟨b, 0, none⟩)) (hy : ρ y = .int .i64 (l : Nat)) (hlm : Nat.ble (l + 1) m = true) :
    OpTo P ⟨d, .slice T x (some y) none none, t, pos, af, g⟩ ρ w (.slice (some ⟨b, l, none⟩) (m - l) (m - l)) w :=
  OpTo_value (by intro c h; cases h) (by
    have := Nat.le_of_ble_eq_true hlm
    simp only [execOp, hx, hy, Option.map_none, Option.map_some]
    refine run_v _ ?_
    have hb := run_sliceBound (P := P) w .i64 (l : Nat) m .sliceB (by omega) (by omega)
    simp [Instr.sliceAt, Instr.sureAddr, Sem.run_bind, run_underlying hT, Result.andThen, Sem.run_pure, Instr.sliceBounds, hb, hz, Addr.add]
    rw [if_neg (by omega)]
    split
    · rename_i h; rw [h]
    · rfl)
/-- A copy over an array of one's own, from a place on. -/
theorem o_cpyL (hT : P.underlying T = some (.slice e)) (hi : (P.info? e).map (·.size) = some 1) (ho : Own κ s b (cA k xs) T') (hl : xs.length = m) (hlm : Nat.ble (l + 1) m = true) (hu : Rd (kInt k) s u ys) (hx : ρ x = .slice (some ⟨b, l, none⟩) (m - l) (m - l)) (hy : ρ y = u) :
    Hv P ⟨d, .call ⟨.builtin .copy, #[x, y], #[T, T]⟩, t, pos, af, g⟩ ρ s fun v s' => v = .int .i64 (min ys.length (m - l) : Nat) ∧ Own κ s' b (cA k (cpy xs l ys)) T' ∧ Tr (· = κ) s s' := by
  have hlm := Nat.le_of_ble_eq_true hlm
  obtain ⟨a, c, cs, rfl, hcap, he, hn, hs⟩ := hu
  have hcs := he.ints_eq
  subst hcs
  have run1 : ∀ v w', (Builtin.copy_ #[T, T] t #[.slice (some ⟨b, l, none⟩) (m - l) (m - l), .slice a ys.length c]).run P s.w = .ok v w' →
      (execOp ρ ⟨d, .call ⟨.builtin .copy, #[x, y], #[T, T]⟩, t, pos, af, g⟩).run P s.w = .ok (.value v) w' := by
    intro v w' hr
    simp only [execOp, resolve, Sem.run_bind, Sem.run_pure, Result.andThen, invoke, builtin]
    simp [hx, hy, hr, Sem.run_bind, Result.andThen]
  cases a with
  | none =>
    obtain ⟨rfl, rfl⟩ := hn rfl
    have hr := run_copy_nil (P := P) s.w T T t e ⟨b, l, none⟩ (m - l) (m - l) hT (by rw [hi]; rfl)
    refine hvo s (OpTo_value (by intro c h; cases h) (run1 _ _ hr)) ⟨by simp [goInt], by simpa [cpy] using ho, Tr.refl _ _⟩
  | some a =>
    have hc2 := (hs a rfl).2
    have hsrc : ∀ j v, ((ys.take (m - l)).map (Value.int k))[j]? = some v → s.w.cell? (a.add j) = some v := fun j v hv => hc2 j v (by
      rw [List.getElem?_map, List.getElem?_take] at hv
      split at hv
      · rw [List.getElem?_map]; exact hv
      · simp at hv)
    have hlen : ((ys.take (m - l)).map (Value.int k)).length = min ys.length (m - l) := by simp [Nat.min_comm]
    have hr := run_copy_row (P := P) s.w T T t e b l (m - l) (m - l) a ys.length c (cA k xs) T' ((ys.take (m - l)).map (Value.int k)) hT hi ho.2 hlen hsrc (by rw [hlen, cA_size, hl]; omega) (by intro v hv; obtain ⟨q, _, rfl⟩ := List.mem_map.1 hv; rfl)
    rw [hlen] at hr
    have hcells : ((cA k xs).toList.take l ++ (ys.take (m - l)).map (Value.int k) ++ (cA k xs).toList.drop (l + min ys.length (m - l))).toArray = cA k (cpy xs l ys) := by
      unfold cA cpy
      simp [hl]
    rw [hcells] at hr
    exact hvo (s.row b (cA k (cpy xs l ys))) (OpTo_value (by intro c h; cases h) (run1 _ _ hr)) ⟨rfl, ho.row _, Tr.row ho.1 _⟩
theorem oq_55 (s : St) (tr : Tg) {x0 : List Frame} {w1 : Value} (h1 : Sl kFr s w1 x0) {r0y : List Frame} (hm : m_55 x0 = some r0y) :
    Ok Tryz.prog 46 ([w1] : List Value).toArray s fun v s' => Tr No s s' ∧ ∃ w2, v = w2 ∧ Bd tr kFr 38 0 s' w2 r0y :=
  (ok_55 s tr h1 hm).mono fun v s' ⟨a, b⟩ => ⟨a, v, rfl, b⟩
end
end Go.Proofs.YtdkfdmalbbfbmaaGreat
