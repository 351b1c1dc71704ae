/- Devices: what a disk.Disk is; its plain functions. -/
import Derived.Test.YtdkfdmalbbfbmaaC1
namespace Go.Proofs.Ytdkfdmalbbfbmaa
open Go Go.Maps
set_option maxRecDepth 4000

abbrev kA8 : Kd Sec := kArr 8 (Value.int .u64) (fun _ => rfl)
def Z8 : Sec := List.replicate 8 0

section
variable {s s' : St} {k κ : Tg} {mb : Nat} {wr : List (Option Sec)} {ρ : Operand → Value} {d : Option Nat} {g : Option (Nat × Bool)} {t : Nat} {pos : String} {af : Array Edge} {x y z : Operand} {i : Int} {xs : Sec}

theorem wAt_none {n : Nat} {i : Int} : wAt (List.replicate n none) i = none := by
  unfold wAt
  split
  · rw [List.getElem?_replicate]; split <;> rfl
  · rfl
theorem MapA.made (s : St) (κ : Tg) {n : Nat} (hn : n ≤ 4096) : MapA κ (s.new (.map #[] 0) κ) s.w.heap.size (List.replicate n none) := by
  refine ⟨by simp [St.new], by simpa using hn, .map [], (World.ownsMap_made s.w _ _ _).mono (Nat.zero_le _), ⟨fun i => ?_, fun i xs h => ?_⟩⟩
  · rw [wAt_none]; rfl
  · rw [wAt_none] at h; cases h
theorem o_mk (κ : Tg) {n : Nat} (hn : n ≤ 4096) {T : TypeId} : Hv Try.prog ⟨d, .makeMap T none, t, pos, af, g⟩ ρ s fun v s' => ∃ mb, v = .map (some mb) ∧ MapA κ s' mb (List.replicate n none) ∧ Tr No s s' :=
  hvo (s.new (.map #[] 0) κ) (OpTo_value (by intro c h; cases h) (by
    simp only [execOp, Option.map_none]
    exact run_v' (v := .map (some s.w.heap.size)) _ rfl)) ⟨_, rfl, MapA.made s κ hn, Tr.new s _ κ⟩

/-- What is there, or zeros. -/
theorem run_lk (h : MapA k s mb wr) (h0 : 0 ≤ i) (h1 : i < wr.length) :
    (Instr.lookup 67 (.map (some mb)) (.int .i64 i) true).run Try.prog s.w = .ok (.tuple #[eA .u64 ((wAt wr i).getD Z8), .bool (wAt wr i).isSome]) s.w ∧
    (Instr.lookup 67 (.map (some mb)) (.int .i64 i) false).run Try.prog s.w = .ok (eA .u64 ((wAt wr i).getD Z8)) s.w := by
  obtain ⟨_, hl, D, hown, hR⟩ := h
  have hkey := key64 h0 (show i < 4096 by omega)
  have hz : (zeroValue 38).run Try.prog s.w = .ok (eA .u64 Z8) s.w := Try.zeroValue38 s.w
  have hzd := rA_e (xs := Z8) rfl
  have key : ∀ v ps, rA v = some (D.atKey (.int .i64 i) (dA Z8), ps) → v = eA .u64 ((wAt wr i).getD Z8) := by
    intro v ps hv
    obtain ⟨ys, rfl, hy, hd⟩ := rA_inv hv
    cases hw : wAt wr i with
    | none =>
      have h2 := hR.hs i
      rw [hw] at h2
      rw [atKey_of_not_has h2] at hd
      rw [← dA_inj hd]; rfl
    | some xs =>
      rw [(hR.val i xs hw).2] at hd
      rw [← dA_inj hd]; rfl
  obtain ⟨v, ps, hr, hv⟩ := hown.look_ok keyed Try.underlying67 hz hzd hkey
  obtain ⟨v', ps', hr', hv'⟩ := hown.lookup keyed Try.underlying67 hz hzd hkey
  rw [hR.hs i] at hr
  rw [key v ps hv] at hr
  rw [key v' ps' hv'] at hr'
  exact ⟨hr, hr'⟩
theorem o_lk (h : MapA k s mb wr) (hx : ρ x = .map (some mb)) (hy : ρ y = .int .i64 i) (h0 : 0 ≤ i) (h1 : i < wr.length) :
    OpTo Try.prog ⟨d, .lookup 67 x y true, t, pos, af, g⟩ ρ s.w (.tuple #[eA .u64 ((wAt wr i).getD Z8), .bool (wAt wr i).isSome]) s.w :=
  OpTo_value (by intro c h; cases h) (by simp only [execOp, hx, hy]; exact run_v _ (run_lk h h0 h1).1)
theorem o_lk1 (h : MapA k s mb wr) (hx : ρ x = .map (some mb)) (hy : ρ y = .int .i64 i) (h0 : 0 ≤ i) (h1 : i < wr.length) :
    OpTo Try.prog ⟨d, .lookup 67 x y false, t, pos, af, g⟩ ρ s.w (eA .u64 ((wAt wr i).getD Z8)) s.w :=
  OpTo_value (by intro c h; cases h) (by simp only [execOp, hx, hy]; exact run_v _ (run_lk h h0 h1).2)

theorem wAt_set {i : Int} (h0 : 0 ≤ i) (h1 : i < wr.length) (o : Option Sec) (j : Int) : wAt (wr.set i.toNat o) j = if j = i then o else wAt wr j := by
  unfold wAt
  by_cases hj : j = i
  · subst hj
    rw [if_pos h0, if_pos rfl, List.getElem?_set_self (by omega)]
    rfl
  · rw [if_neg hj]
    by_cases hj0 : 0 ≤ j
    · rw [if_pos hj0, if_pos hj0, List.getElem?_set_ne (by omega)]
    · rw [if_neg hj0, if_neg hj0]

/-- One sector is written. -/
theorem o_up (h : MapA κ s mb wr) (hx : ρ x = .map (some mb)) (hy : ρ y = .int .i64 i) (hz : ρ z = eA .u64 xs) (hl : xs.length = 8) (h0 : 0 ≤ i) (h1 : i < wr.length) :
    Hv Try.prog ⟨none, .mapUpdate 67 x y z, t, pos, af, g⟩ ρ s fun _ s' => MapA κ s' mb (wr.set i.toNat (some xs)) ∧ Tr (· = κ) s s' := by
  obtain ⟨htag, hlen, D, hown, hR⟩ := h
  have hkey := key64 h0 (show i < 4096 by omega)
  have hown := hR.tight hown
  obtain ⟨w', hr, ho', hg⟩ := hown.update keyed Try.underlying67 (Nat.lt_of_le_of_lt hlen (by decide)) hkey (rA_e hl)
  have htr : Tr (· = κ) s (s.ext' w' hg.size) := ⟨hg.os, hg.tape, hg.output, hg.size, fun b hb hm => ⟨hm, hg.block b hb (fun e => hm (by injection e with e; subst e; unfold St.M; rw [htag]; simp))⟩,
    fun b t hb hp => ⟨hb, hg.block b (s.ok b (by rw [hb]; simp)) (fun e => hp (by injection e with e; subst e; rw [htag] at hb; exact (Option.some.inj hb).symm))⟩⟩
  have hkl : WideAt.IsKeyLit (.int .i64 i) := by
    have := keyed.key hkey
    exact this
  have hR' : MapR (D.put (.int .i64 i) (dA xs)) (wr.set i.toNat (some xs)) := by
    refine ⟨fun j => ?_, fun j ys hj => ?_⟩
    · rw [wAt_set h0 h1]
      by_cases hj : j = i
      · subst hj; rw [if_pos rfl, has_put_same hown.isMap hkl]; rfl
      · rw [if_neg hj, has_put_other (by intro e; injection e with _ e; exact hj e), hR.hs]
    · rw [wAt_set h0 h1] at hj
      by_cases hji : j = i
      · subst hji
        rw [if_pos rfl] at hj
        injection hj with hj
        subst hj
        exact ⟨hl, fun zz => atKey_put_same hown.isMap hkl _ _⟩
      · rw [if_neg hji] at hj
        exact ⟨(hR.val j ys hj).1, fun zz => by rw [atKey_put_other (by intro e; injection e with _ e; exact hji e)]; exact (hR.val j ys hj).2 zz⟩
  have hown' : MapA κ (s.ext' w' hg.size) mb (wr.set i.toNat (some xs)) := ⟨htag, by simpa using hlen, _, (hR'.tight ho').mono (by simpa using hlen), hR'⟩
  refine hvo (v := undef) (s.ext' w' hg.size) (OpTo_skip (by intro c h; cases h) ?_) ⟨hown', htr⟩
  simp only [execOp, hx, hy, hz]
  exact run_u' _ hr
end
end Go.Proofs.Ytdkfdmalbbfbmaa
