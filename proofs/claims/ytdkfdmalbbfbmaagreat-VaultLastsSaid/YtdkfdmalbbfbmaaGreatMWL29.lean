/- The plain law of VaultAgain. -/
import Derived.Test.YtdkfdmalbbfbmaaGreatMWL28
import Derived.Test.YtdkfdmalbbfbmaaGreatMWL27
/- The plain law of VaultAgain. -/
namespace Go.Proofs.YtdkfdmalbbfbmaaGreat
open Go
set_option maxRecDepth 4000

/-- The next anchor. -/
def nextA (N r : Nat) (w : Nat) : Anchor := ⟨((N + 1 : Nat) : Int), ((N + 1 : Nat) : Int), (r : Int), (w : Int)⟩
section
variable {V : VaultM} {D : Disk} {n a N : Nat} {fs : List Frame}
theorem VOk.next (h : VOk V D n a N fs) : ∃ r : Nat, r ≤ 1 ∧ (0 < N → V.at_.Area ≠ (r : Int)) ∧ ∀ w : Nat, m_57 ⟨V.area, V.at_, V.stored⟩ (w : Int) = some (nextA N r w) := by
  have hN := h.hN
  have e1 : IntKind.wrap .i64 (V.at_.Number + 1) = ((N + 1 : Nat) : Int) := by rw [h.number, wi64 (by omega) (by omega)]; rfl
  have e2 : IntKind.wrap .i64 (V.at_.Epoch + 1) = ((N + 1 : Nat) : Int) := by rw [h.epoch, wi64 (by omega) (by omega)]; rfl
  by_cases h0 : N = 0
  · refine ⟨0, by decide, by omega, fun w => ?_⟩
    unfold m_57
    simp only
    rw [e1, e2, h.number, h0]
    rfl
  · obtain ⟨p1, p2, r, q1, q2, q3, q4⟩ := h.pos (by omega)
    refine ⟨1 - r, by omega, fun _ => by rw [q1]; omega, fun w => ?_⟩
    unfold m_57
    simp only
    rw [e1, e2, h.number, show decide ((N : Int) > 0) = true by simp; omega, q1]
    have e3 : IntKind.wrap .i64 (1 - (r : Int)) = ((1 - r : Nat) : Int) := by rw [wi64 (by omega) (by omega)]; omega
    rw [e3]; rfl
theorem rarea {r a : Nat} (h : r ≤ 1) : r * a ≤ a := by
  rcases Nat.lt_or_ge r 1 with h | h
  · have : r = 0 := by omega
    subst this; simp
  · have : r = 1 := by omega
    subst this; simp
/-- What a checkpoint does to the device, one after the other. -/
theorem VOk.check (h : VOk V D n a N fs) (hN1 : N + 1 < 1000000) :
    if (streamF ((N + 1 : Nat) : Int) 0 (V.stored ++ fs)).length > 8 * a then m_26 V D = some (4, V, D)
    else ∃ V' D', m_26 V D = some (0, V', D') ∧ VOk V' D' n a (N + 1) [] ∧ V'.stored = V.stored ++ fs := by
  have hsm := h.good.small
  have hfit := h.fit
  have a1 := h.a1
  have hsmall := h.small
  have hcnt1 := stream_count (N : Int) 0 V.stored
  have hcnt2 := stream_count (N : Int) 0 fs
  have hlen : (streamF ((N + 1 : Nat) : Int) 0 (V.stored ++ fs)).length = (streamF (N : Int) 0 V.stored).length + (streamF (N : Int) 0 fs).length := by
    rw [streamF_append, List.length_append, stream_len _ (N : Int) 0 0, stream_len _ (N : Int) (0 + V.stored.length) 0]
  have e1 : IntKind.wrap .i64 (V.at_.Epoch + 1) = ((N + 1 : Nat) : Int) := by rw [h.epoch, wi64 (by omega) (by omega)]; rfl
  have hnum : Go.Proofs.YtdkfdmalbbfbmaaGreat.num ((N + 1 : Nat) : Int) = true := num_iff.2 ⟨by omega, by omega⟩
  unfold m_26
  rw [h.frames]
  simp only [ob_s]
  rw [e1, stream_56 hnum h.all_may h.all_w (by omega)]
  simp only [ob_s]
  have e8 : IntKind.wrap .i64 (V.area * 8) = ((8 * a : Nat) : Int) := by rw [h.area, wi64 (by omega) (by omega)]; omega
  rw [e8]
  have hwW := isW_stream (e := ((N + 1 : Nat) : Int)) (n := 0) h.all_may h.all_w
  generalize hws : streamF ((N + 1 : Nat) : Int) 0 (V.stored ++ fs) = ws at hlen hwW
  split
  · rename_i hbig
    rw [show decide ((ws.length : Int) > ((8 * a : Nat) : Int)) = true by simp; omega]; rfl
  rename_i hsz
  rw [show decide ((ws.length : Int) > ((8 * a : Nat) : Int)) = false by simp; omega]
  simp only [cond_false]
  obtain ⟨r, hr1, hrN, hnext⟩ := h.next
  have hra := rarea (a := a) hr1
  rw [hnext ws.length]
  simp only [ob_s]
  have hb : m_58 ⟨V.area, V.at_, V.stored⟩ (nextA N r ws.length).Area = some ((2 + r * a : Nat) : Int) := begin_58 (V := ⟨V.area, V.at_, V.stored⟩) h.area (by omega) (by omega)
  rw [hb]
  simp only [ob_s]
  rw [show gd (!decide ((8 : Nat) < 1)) (some ()) = some () from rfl]
  simp only [ob_s]
  obtain ⟨D1, z, g1, g2, g3⟩ := chunks_78 h.good (ws := ws) (f := 2 + r * a) hwW (by unfold cnt8; omega)
  rw [g1]
  simp only [ob_s]
  obtain ⟨D2, k1, k2, k3⟩ := sync_eq g2
  rw [k1]
  simp only [ob_s]
  have hok : okA (nextA N r ws.length) = true := okA_iff.2 ⟨by simp only [nextA]; omega, by simp only [nextA]; omega, by simp only [nextA]; omega, by simp only [nextA]; omega, by simp only [nextA]; omega, by simp only [nextA]; omega, by simp only [nextA]; omega, by simp only [nextA]; omega⟩
  have hpar : Int.tmod (nextA N r ws.length).Number 2 = (((N + 1) % 2 : Nat) : Int) := by
    simp only [nextA]
    rw [Int.tmod_eq_emod_of_nonneg (by omega)]
    omega
  obtain ⟨D3, w1, w2, w3⟩ := write_eq k2 (i := (N + 1) % 2) (by omega) (secA_isS hok)
  have hw61 : m_61 D2 (nextA N r ws.length) = some (0, D3) := by
    unfold m_61 mq_60
    rw [sector_79 hok]
    simp only [ob_s, Bool.not_true, cond_false]
    rw [hpar, w1]; rfl
  rw [hw61]
  simp only [ob_s]
  rw [show ((0 : Int) != 0) = false from rfl]
  simp only [cond_false]
  obtain ⟨D4, j1, j2, j3⟩ := sync_eq w2
  rw [j1]
  simp only [ob_s]
  -- what is read
  have hrl := (abs_len h.good).2.1
  have hread : ∀ p, p ≠ (N + 1) % 2 → (absD D4).Read[p]? = if 2 + r * a ≤ p ∧ p < 2 + r * a + cnt8 ws.length then some (secAt ws (p - (2 + r * a))) else (absD D).Read[p]? := fun p hp => by
    rw [j3]
    show (absD D3).Read[p]? = _
    rw [w3]
    show ((absD D2).Read.set ((N + 1) % 2) _)[p]? = _
    rw [List.getElem?_set_ne (Ne.symm hp), k3]
    show (absD D1).Read[p]? = _
    rw [g3, wsX_read _ _ _ _ _ _ (by rw [hrl]; unfold cnt8; omega)]
    simp only [Nat.add_zero, Nat.zero_add]
  have hanch : (absD D4).Read[(N + 1) % 2]? = some (secA (nextA N r ws.length)) := by
    rw [j3]
    show (absD D3).Read[(N + 1) % 2]? = _
    rw [w3]
    exact List.getElem?_set_self (by rw [(abs_len k2).2.1]; omega)
  have hlog : partW (absD D4) (2 + 2 * a) (n - (2 + 2 * a)) = partW (absD D) (2 + 2 * a) (n - (2 + 2 * a)) := by
    unfold partW
    refine congrArg List.flatten (List.ext_getElem? fun p => ?_)
    rw [List.getElem?_take, List.getElem?_take]
    split
    · rw [List.getElem?_drop, List.getElem?_drop, hread _ (by omega), if_neg (by unfold cnt8; omega)]
    · rfl
  have hnone : allF ((N + 1 : Nat) : Int) 0 (partW (absD D4) (2 + 2 * a) (n - (2 + 2 * a))) = ([], 0) := by
    rw [hlog, part_of (abs_isS h.good) (by rw [hrl]; omega) h.log.len h.log.read]
    exact other_epoch h.num hnum (by omega) h.log.may
  obtain ⟨D5, l1, l2, l3, l4⟩ := logged_54 j2 (V := ⟨V.area, nextA N r ws.length, V.stored ++ fs⟩) (a := a) (e := ((N + 1 : Nat) : Int)) h.area hfit hnum
  rw [hnone] at l1 l3 l4
  simp only at l1 l3 l4
  generalize (⟨((2 + 2 * a : Nat) : Int), ((n - (2 + 2 * a) : Nat) : Int), ((N + 1 : Nat) : Int), streamF ((N + 1 : Nat) : Int) 0 [], []⟩ : LogM) = L5 at l1 l4
  have hfin : ∀ (f : LogM × Disk → Option (Int × VaultM × Disk)), ob (m_54 (⟨V.area, (⟨(nextA N r ws.length).Number, (nextA N r ws.length).Epoch, (nextA N r ws.length).Area, (nextA N r ws.length).Words⟩ : Anchor), V.stored ++ fs⟩ : Vault0) D4 (nextA N r ws.length).Epoch) f = f (L5, D5) := fun f => by
    have l1 : m_54 (⟨V.area, (⟨(nextA N r ws.length).Number, (nextA N r ws.length).Epoch, (nextA N r ws.length).Area, (nextA N r ws.length).Words⟩ : Anchor), V.stored ++ fs⟩ : Vault0) D4 (nextA N r ws.length).Epoch = some (L5, D5) := l1
    rw [l1, ob_s]
  refine ⟨⟨V.area, nextA N r ws.length, V.stored ++ fs, L5⟩, D5, ?_, ?_, rfl⟩
  · exact hfin _
  have hread5 : ∀ p, p < 2 + 2 * a → (absD D5).Read[p]? = (absD D4).Read[p]? := fun p hp => by
    rw [l3, clX_read _ _ _ _ (by rw [(abs_len j2).2.1]; omega), if_neg (by omega)]
  have hcand : ∀ i, i ≤ 1 → ∀ b, cand i (sec (absD D5) i) = some b → b.Number ≤ ((N + 1 : Nat) : Int) := by
    intro i hi b hb
    rw [sec_of (hread5 i (by omega))] at hb
    by_cases hp : i = (N + 1) % 2
    · subst hp
      rw [sec_eq hanch] at hb
      obtain ⟨q1, q2, q3⟩ := cand_iff.1 hb
      have : some b = some (nextA N r ws.length) := (getA_iff.2 ⟨q1, q2⟩).symm.trans (getA_iff.2 ⟨hok, rfl⟩)
      rw [Option.some.inj this]
      simp only [nextA]; omega
    · rw [sec_of ((hread i hp).trans (if_neg (by omega)))] at hb
      rcases (show i = 0 ∨ i = 1 by omega) with rfl | rfl
      · have := h.c0 b hb; omega
      · have := h.c1 b hb; omega
  refine ⟨l2, a1, hfit, h.area, hN1, rfl, rfl, l4, h.all_may, h.all_w, ?_, hcand 0 (by decide), hcand 1 (by decide), by omega, fun _ => ⟨hok, ?_, r, rfl, hr1, ?_, ?_⟩⟩
  · show (streamF ((N + 1 : Nat) : Int) 0 (V.stored ++ fs)).length ≤ _
    rw [hws]; omega
  · rw [sec_of (hread5 _ (by omega)), sec_eq hanch]
  · show (ws.length : Int) = ((streamF ((N + 1 : Nat) : Int) 0 (V.stored ++ fs)).length : Int)
    rw [hws]
  · show (partW (absD D5) (2 + r * a) a).take (streamF ((N + 1 : Nat) : Int) 0 (V.stored ++ fs)).length = streamF ((N + 1 : Nat) : Int) 0 (V.stored ++ fs)
    rw [hws]
    refine part_take (abs_isS l2) (by rw [(abs_len l2).2.1]; omega) (by omega) fun i hi => ?_
    have hi2 : i < a := by unfold cnt8 at hi; omega
    rw [hread5 _ (by omega), hread _ (by omega), if_pos (by omega), show 2 + r * a + i - (2 + r * a) = i by omega]
end

theorem new_vault {n a : Nat} (a1 : 1 ≤ a) (hfit : 2 + 2 * a < n) (hn : n ≤ 4096) : ∃ D V D', m_8 (n : Int) = some D ∧ m_24 D (a : Int) = some (V, 0, D') ∧ VOk V D' n a 0 [] ∧ V.stored = [] ∧ Good D n ∧ absD D = ⟨List.replicate n Z8, List.replicate n Z8, List.replicate n false⟩ := by
  obtain ⟨D, h1, h2, h3⟩ := new_eq (n := n) (by omega) hn
  have hs : ∀ i, i < n → sec (absD D) i = Z8 := fun i hi => by
    refine sec_eq ?_
    rw [h3]
    simp [hi]
  have hc : ∀ i, cand i Z8 = none := fun i => by unfold cand; rw [getA_Z8]; rfl
  obtain ⟨L, D', g1, g2, g3, g4, g5⟩ := open_24 h2 a1 hfit (at_ := ⟨0, 0, 0, 0⟩) (st := []) rfl (.inl ⟨by rw [hs 0 (by omega), hs 1 (by omega)]; unfold findA; rw [hc, hc], rfl, rfl⟩)
  have hz : allF 0 0 (partW (absD D) (2 + 2 * a) (n - (2 + 2 * a))) = ([], 0) := by
    rw [zeros_part h2 (by rw [h3]) _ _ (by omega)]
    exact zeros_all
  have hz2 : allF (⟨0, 0, 0, 0⟩ : Anchor).Epoch 0 (partW (absD D) (2 + 2 * a) (n - (2 + 2 * a))) = ([], 0) := hz
  rw [hz2] at g3 g4 g5
  refine ⟨D, _, D', h1, g1, ?_, rfl, h2, h3⟩
  have hr : ∀ p, p < 2 + 2 * a → (absD D').Read[p]? = (absD D).Read[p]? := fun p hp => by
    rw [g4, clX_read _ _ _ _ (by rw [(abs_len h2).2.1]; omega), if_neg (by omega)]
  refine ⟨g2, a1, hfit, rfl, by decide, rfl, rfl, g5, (fun F hF => by cases hF), (fun F hF => by cases hF), (by simp [streamF]), ?_, ?_, fun _ => ⟨rfl, rfl⟩, by omega⟩
  · intro b hb
    rw [sec_of (hr 0 (by omega)), hs 0 (by omega), hc] at hb; cases hb
  · intro b hb
    rw [sec_of (hr 1 (by omega)), hs 1 (by omega), hc] at hb; cases hb

theorem VOk.room {V : VaultM} {D : Disk} {n a N : Nat} {fs : List Frame} (h : VOk V D n a N fs) : m_28 V = some ((8 * (n - (2 + 2 * a)) - (streamF (N : Int) 0 fs).length : Nat) : Int) := by
  have := h.good.small
  unfold m_28
  rw [h.log.room (by omega)]; rfl
theorem alive_22 : m_23 = some true := by
  obtain ⟨D, V, D1, h1, h2, h3, h4, _, _⟩ := new_vault (n := 5) (a := 1) (by decide) (by decide) (by decide)
  unfold m_23
  have h1 : m_8 5 = some D := h1
  have h2 : m_24 D 1 = some (V, 0, D1) := h2
  rw [h1]
  simp only [ob_s, h2]
  rw [show ((0 : Int) == 0) = true from rfl, h3.room]
  simp only [cond_true, ob_s]
  rw [show (((8 * (5 - (2 + 2 * 1)) - (streamF ((0 : Nat) : Int) 0 []).length : Nat) : Int) == 8) = true from rfl]
  simp only [cond_true]
  -- the frame
  have ha := append_eq h3.good h3.log (by decide) h3.num (F := ⟨1, []⟩) (by decide) (fun x hx => by cases hx)
  rw [if_pos (by decide)] at ha
  obtain ⟨L2, D2, g1, g2, g3, g4⟩ := ha
  have hV2 := h3.moved g2 (fun p hp => by
    have hlen := g3.len
    have e0 : (streamF ((0 : Nat) : Int) 0 ([] : List Frame)).length = 0 := rfl
    rw [g4, wsX_read _ _ _ _ _ _ (by rw [(abs_len h3.good).2.1]; omega), if_neg (by omega)]) g3
  have h27 : m_27 V D1 ⟨1, []⟩ = some (0, ⟨V.area, V.at_, V.stored, L2⟩, D2) := by
    unfold m_27
    rw [g1]; rfl
  rw [h27]
  simp only [ob_s]
  rw [show ((0 : Int) == 0) = true from rfl]
  simp only [cond_true]
  have hck := hV2.check (by decide)
  rw [if_neg (by rw [h4]; simp [streamF, putF])] at hck
  obtain ⟨V3, D3, k1, k2, k3⟩ := hck
  rw [k1]
  simp only [ob_s]
  rw [show ((0 : Int) == 0) = true from rfl, k2.room]
  simp only [cond_true, ob_s]
  rw [show (((8 * (5 - (2 + 2 * 1)) - (streamF ((0 + 1 : Nat) : Int) 0 []).length : Nat) : Int) == 8) = true from rfl]
  simp only [cond_true, m_30, ob_s, k3, h4]
  rfl

def opW (q : OpV) : Prop := (Lit.int .u8 q.Kind).wf = true ∧ frameW q.F ∧ (q.Keep.length ≤ maxLen ∧ ∀ b ∈ q.Keep, True) ∧ (Lit.int .i64 q.I).wf = true ∧ q.S.length = 8 ∧ ∀ x ∈ q.S, (Lit.int .u64 x).wf = true
end Go.Proofs.YtdkfdmalbbfbmaaGreat

/- Operations whose guard was passed over; arrays that are written out. -/
namespace Go.Proofs.YtdkfdmalbbfbmaaGreat
open Go Go.Maps
set_option maxRecDepth 4000

section
variable {P : Program} {D : List Deferred} {n : Nat} {a : Act} {L : Vs} {ops : Array Oper} {os : List Oper} {l : Option Nat} {w : World} {Q : Act → World → Prop} {s : St} {bm : Array Nat} {ka i d : Nat} {R hs rs fs : List Nat} {o : Oper}
theorem unwanted (E : En D n a L) {o : Oper} {j t : Nat} {want : Bool} (hg : o.guard = some (j, want)) (ht : (ops[j]?).bind (·.dst) = some t) (hl : lk L t = some undef) : Region.wanted o (yielded ops a.tmps) = false := by
  unfold Region.wanted
  rw [hg]
  have := E.get t _ hl
  simp only [yielded, ht, Option.bind_some, this]
  rfl
theorem sku (E : En D n a L) {o : Oper} {d j t : Nat} {want : Bool} (hd : o.dst = some d) (hn : Nat.ble (d + 1) n = true) (hg : o.guard = some (j, want)) (ht : (ops[j]?).bind (·.dst) = some t) (hl : lk L t = some undef)
    (k : ∀ a', En D n a' ((d, undef) :: L) → GL P l ops os a' w Q) : GL P l ops (o :: os) a w Q :=
  GL_pass (unwanted E hg ht hl) (by rw [hd]; exact k _ (E.put hn undef))
theorem dku (E : En D n a L) {j t : Nat} {want : Bool} (ho : ops[i]? = some o) (hd : o.dst = some d) (hn : Nat.ble (d + 1) n = true) (hg : o.guard = some (j, want)) (ht : (ops[j]?).bind (·.dst) = some t) (hl : lk L t = some undef)
    (k : ∀ a', En D n a' ((d, undef) :: L) → GD P ops bm ka R hs rs fs a' s Q) : GD P ops bm ka (i :: R) hs rs fs a s Q :=
  ⟨o, ho, .inl ⟨unwanted E hg ht hl, by rw [hd]; exact k _ (E.put hn undef)⟩⟩
end
section
variable {α : Type} {K : Kd α} {P : Program} {s : St} {ρ : Operand → Value} {d : Option Nat} {g : Option (Nat × Bool)} {t : Nat} {pos : String} {af : Array Edge} {x y : Operand} {T e b : Nat} {u : Value} {ys : List α}
/-- An append to an empty slice without room: new memory alone. -/
theorem o_app0 (κ : Tg) {i : TypeInfo} {zv : Value} {by_ : Nat} (hT : P.underlying T = some (.slice e)) (hi : P.info? e = some i) (hz : i.zero = some zv) (hsz : i.size = K.sz) (hby : i.bytes = by_) (hzs : zv.cells.size = K.sz) (hpos : Nat.ble 1 K.sz = true) (hb32 : Nat.ble by_ 32768 = true)
    (hb : Bd κ K e 0 s (.slice (some ⟨b, 0, none⟩) 0 0) []) (hu : Rd K s u ys) (hx : ρ x = .slice (some ⟨b, 0, none⟩) 0 0) (hy : ρ y = u) (hlen : ys.length < 4294967296) :
    Hv P ⟨d, .call ⟨.builtin .append, #[x, y], #[T, T]⟩, t, pos, af, g⟩ ρ s fun v' s' => Bd κ K e 0 s' v' ys ∧ Tr No s s' := by
  obtain ⟨ad, c, ds, rfl, _, hd, hnone, hsome⟩ := hu
  have h32 := Nat.le_of_ble_eq_true hb32
  have hp := Nat.le_of_ble_eq_true hpos
  have hmul : (0 + ys.length) * by_ ≤ 140737488355328 := Nat.le_trans (Nat.mul_le_mul (show _ ≤ 4294967296 by omega) h32) (by decide)
  have run1 : ∀ w' v', (Builtin.append_ #[T, T] t #[.slice (some ⟨b, 0, none⟩) 0 0, .slice ad ys.length c]).run P s.w = .ok v' w' →
      (execOp ρ ⟨d, .call ⟨.builtin .append, #[x, y], #[T, T]⟩, t, pos, af, g⟩).run P s.w = .ok (.value v') w' := by
    intro w' v' hr
    simp only [execOp, resolve, Sem.run_bind, Sem.run_pure, Result.andThen, invoke, builtin]
    simp [hx, hy, hr, Sem.run_bind, Result.andThen]
  by_cases h0 : ys = []
  · subst h0
    have hr : (Builtin.append_ #[T, T] t #[.slice (some ⟨b, 0, none⟩) 0 0, .slice ad 0 c]).run P s.w = .ok (.slice (some ⟨b, 0, none⟩) 0 0) s.w := by
      cases ad with
      | none => simp [Builtin.append_, run_underlying hT, sizeOf, typeInfo, hi, Builtin.lenOf, Builtin.firstCells, storeCells]
      | some ad => simp [Builtin.append_, run_underlying hT, sizeOf, typeInfo, hi, Builtin.lenOf, Builtin.firstCells, loadCells, loadCellsFrom, storeCells]
    exact hvo s (OpTo_value (by intro c h; cases h) (run1 _ _ hr)) ⟨hb, Tr.refl _ _⟩
  have hq : 0 < ys.length := List.length_pos_iff.2 h0
  cases ad with
  | none => obtain ⟨rfl, rfl⟩ := hnone rfl; simp at hq
  | some ad =>
    obtain ⟨hspot, hcell⟩ := hsome ad rfl
    obtain ⟨v', w', hr, ho', hgr⟩ := run_append_arg_grows (P := P) (w := s.w) T t e i zv K.sz by_ hT hi hz hsz hby hzs hp ⟨b, 0, none⟩ 0 0 [] (by simp) (fun j u hu => by simp at hu) ad ys.length c ds hd.len hcell (by omega) (by unfold maxLen; omega) hmul
    have hlt : ∀ k, v'.ownBlock = some k → k < w'.heap.size := fun k hk => (ho'.lt k hk).2
    have htr := Tr.grown (s := s) (k := κ) (v' := v') hgr hlt (fun b h => by cases h) (fun k hk => .inr (ho'.lt k hk).1)
    have hno : Tr No s (s.grown w' hgr.size v' κ hlt) := ⟨htr.os, htr.tape, htr.output, htr.size, htr.stay, fun q tg hq _ => by
      have hqs := s.ok q (by rw [hq]; simp)
      have hne : ¬ v'.ownBlock = some q := fun hk => absurd (ho'.lt q hk).1 (by omega)
      refine ⟨?_, hgr.block q hqs (by simp)⟩
      simp only [St.grown, hne, if_false]
      exact hq⟩
    refine hvo (v := v') (s.grown w' hgr.size v' κ hlt) (OpTo_value (by intro c h; cases h) (run1 _ _ hr)) ⟨?_, hno⟩
    have hr0 : w'.ownsRow 0 e K.sz v' ys.length ds := by simpa using ownsRow_base ho' (Nat.zero_le _)
    exact ⟨ds, hr0, hd.up htr.le, fun k hk => by simp only [St.grown, hk, if_true]⟩
variable {D : List Deferred} {n : Nat} {a : Act} {L : Vs} {ops : Array Oper} {Q : Act → World → Prop} {bm : Array Nat} {ka i dd : Nat} {R hs rs fs : List Nat}
theorem dbs0x (E : En D n a L) (ho : ops[i]? = some ⟨some dd, .buildSlice T 0 #[], t, pos, af, g⟩) (hT : P.underlying T = some (.slice e)) (hs' : ∀ w, (sizeOf e).run P w = .ok K.sz w) (hn : Nat.ble (dd + 1) n = true) (hg : gdL ops L g = some true) (hb : hs.all (bef bm i) = true)
    (kk : ∀ a' s' b, Bd (ka, i) K e 0 s' (.slice (some ⟨b, 0, none⟩) 0 0) [] → Tr No s s' → En D n a' ((dd, .slice (some ⟨b, 0, none⟩) 0 0) :: L) → GD P ops bm ka R hs rs (i :: fs) a' s' Q) : GD P ops bm ka (i :: R) hs rs fs a s Q := by
  refine dn (T := fun b => .slice (some ⟨b, 0, none⟩) 0 0) (z := .cells #[] e) E ho (by intro c h; cases h) (fun w => ?_) rfl hn hg hb fun a' v s' ⟨b, hv, h2, h3⟩ tr E => ?_
  · simp only [execOp]
    refine run_v' _ ?_
    simp [Instr.buildSlice, Sem.run_bind, run_underlying hT, Result.andThen, hs', newRow, newObj, Sem.run, Instr.fill, Array.range_zero']
  · subst hv
    exact kk _ _ _ (Own.bd (cells := #[]) ⟨h2, h3⟩ (Nat.zero_le _) rfl rfl rfl) tr E
end
theorem At.el13OpV {s : St} {b o : Nat} {q : OpV} (h : At kOpV s ⟨b, o, none⟩ q) : ∃ w1 w2, s.w.cell? ⟨b, o, none⟩ = some (.int .u8 q.Kind) ∧ s.w.cell? ⟨b, o + 1, none⟩ = some (.int .i64 q.F.Kind) ∧ s.w.cell? ⟨b, o + 2, none⟩ = some w1 ∧ s.w.cell? ⟨b, o + 3, none⟩ = some w2 ∧ s.w.cell? ⟨b, o + 4, none⟩ = some (.int .i64 q.I) ∧
    s.w.cell? ⟨b, o + 5, none⟩ = some (.int .u64 ((q.S[0]?).getD 0)) ∧ s.w.cell? ⟨b, o + 6, none⟩ = some (.int .u64 ((q.S[1]?).getD 0)) ∧ s.w.cell? ⟨b, o + 7, none⟩ = some (.int .u64 ((q.S[2]?).getD 0)) ∧ s.w.cell? ⟨b, o + 8, none⟩ = some (.int .u64 ((q.S[3]?).getD 0)) ∧
    s.w.cell? ⟨b, o + 9, none⟩ = some (.int .u64 ((q.S[4]?).getD 0)) ∧ s.w.cell? ⟨b, o + 10, none⟩ = some (.int .u64 ((q.S[5]?).getD 0)) ∧ s.w.cell? ⟨b, o + 11, none⟩ = some (.int .u64 ((q.S[6]?).getD 0)) ∧ s.w.cell? ⟨b, o + 12, none⟩ = some (.int .u64 ((q.S[7]?).getD 0)) ∧ Sl kU s w1 q.F.Words ∧ Sl kBool s w2 q.Keep := by
  obtain ⟨_, _, _, cs, ⟨w1, w2, h8, rfl, h1, h2⟩, hc⟩ := h
  have hS : ∀ k, k < 8 → s.w.cell? ⟨b, o + (5 + k), none⟩ = some (.int .u64 ((q.S[k]?).getD 0)) := fun k hk => by
    have hk2 : k < q.S.length := by omega
    refine hc (5 + k) _ ?_
    rw [List.getElem?_append_right (by simp)]
    simp [hk2]
  exact ⟨w1, w2, hc 0 _ rfl, hc 1 _ rfl, hc 2 _ rfl, hc 3 _ rfl, hc 4 _ rfl, hS 0 (by decide), hS 1 (by decide), hS 2 (by decide), hS 3 (by decide), hS 4 (by decide), hS 5 (by decide), hS 6 (by decide), hS 7 (by decide), h1, h2⟩
theorem part_get {cs : Array Value} {l : List Value} {j : Nat} {u : Value} (o : Nat) (h : (cs.toList.drop o).take l.length = l) (hj : l[j]? = some u) : cs[o + j]? = some u := by
  have hlt := (List.getElem?_eq_some_iff.1 hj).1
  rw [← h, List.getElem?_take, if_pos hlt, List.getElem?_drop] at hj
  simpa using hj
end Go.Proofs.YtdkfdmalbbfbmaaGreat
