/- The sum of words, by a closure; copies. -/
import Derived.Test.YtdkfdmalbbfbmaaD3
namespace Go.Proofs.Ytdkfdmalbbfbmaa
open Go
set_option maxRecDepth 4000

noncomputable def m_92 (x0 : List Int) : Option Int := m_98 x0
theorem ok_92 (s : St) {x0 : List Int} {w1 : Value} (h1 : Sl kU s w1 x0) {r0y : Int} (hm : m_92 x0 = some r0y) :
    Ok Try.prog 92 ([w1] : List Value).toArray s fun v s' => Tr No s s' ∧ v = .int .u32 r0y := by
  obtain ⟨k, hk⟩ := s.fresh
  refine ok_of (n := 5) _ Try.func92 rfl _ rfl rfl fun a E => ?_
  refine G_seq ?_
  refine G_region ?_
  obtain ⟨a1, c1, rfl⟩ := h1.isS
  refine sh E (o_box (E.ev rfl)) rfl rfl rfl ?_
  rintro a _ s1 ⟨b1, rfl, o1, t1⟩ E
  refine sd E (o_as (E.ev rfl)) rfl rfl rfl fun a E => ?_
  refine GL_nil ?_
  refine tgn ?_
  refine G_seq ?_
  refine G_region ?_
  refine sd E (o_mf (E.evs rfl)) rfl rfl rfl fun a E => ?_
  refine sh E (o_ok Try.call98 (E.evs rfl) (E.ev rfl) (ok_98 s1 (h1.tr t1) o1 hm)) rfl rfl rfl ?_
  rintro a _ s2 ⟨t2, rfl⟩ E
  refine sd E (o_as (E.ev rfl)) rfl rfl rfl fun a E => ?_
  refine GL_nil ?_
  refine tgn ?_
  refine G_ret ?_
  exact fin1 E rfl rfl ⟨t1.trans t2, rfl⟩

section
variable {P : Program} {s : St} {w : World} {ρ : Operand → Value} {d : Option Nat} {g : Option (Nat × Bool)} {t : Nat} {pos : String} {af : Array Edge} {x y : Operand} {T T' e : Nat} {ao : Option Addr} {m c : Nat}
theorem run_eqnil (hT : P.underlying T = some (.slice e)) : (Op.equal T (.slice ao m c) (.slice none 0 0)).run P w = .ok ao.isNone w := by
  obtain ⟨q, hq⟩ : ∃ q, Op.maxDepth = q + 1 := ⟨9999, rfl⟩
  unfold Op.equal
  rw [hq]
  unfold Op.equalIn
  simp only [Sem.run_bind, run_underlying hT, Result.andThen]
  cases ao <;> rfl
theorem o_eqnil (hT : P.underlying T = some (.slice e)) (hx : ρ x = .slice ao m c) (hy : ρ y = .slice none 0 0) : OpTo P ⟨d, .binOp .eql T x y T', t, pos, af, g⟩ ρ w (.bool ao.isNone) w :=
  OpTo_value (by intro c h; cases h) (by
    simp only [execOp, hx, hy]
    refine run_v _ ?_
    simp [eqGuard, binOp, run_eqnil hT, Sem.run_bind, Result.andThen])
end
theorem Sl.none {α : Type} {K : Kd α} {s : St} {xs : List α} {m c : Nat} (h : Sl K s (.slice none m c) xs) : xs = [] := by
  obtain ⟨a, c', e, _, _, h⟩ := h
  injection e with e1 e2 e3
  rcases h with h | ⟨b, o, cs, h, _⟩
  · exact h
  · rw [h] at e1; cases e1

noncomputable def m_39 (x0 : List Int) : Option (List Int) := ap [] x0
theorem ok_39 (s : St) {x0 : List Int} {w1 : Value} (h1 : Sl kU s w1 x0) {r0y : List Int} (hm : m_39 x0 = some r0y) :
    Ok Try.prog 39 ([w1] : List Value).toArray s fun v s' => Tr No s s' ∧ ∃ w2, v = w2 ∧ Sl kU s' w2 r0y := by
  unfold m_39 at hm
  obtain ⟨k, hk⟩ := s.fresh
  refine ok_of (n := 8) _ Try.func39 rfl _ rfl rfl fun a E => ?_
  obtain ⟨hlen, rfl⟩ := ap_some hm
  obtain ⟨a1, c1, rfl⟩ := h1.isS
  refine G_seq ?_
  refine G_region ?_
  refine sd E (o_as (E.ev rfl)) rfl rfl rfl fun a E => ?_
  refine GL_nil ?_
  refine tgn ?_
  refine G_seq ?_
  refine G_seq ?_
  refine G_region ?_
  refine sd E (o_mv (E.ev rfl)) rfl rfl rfl fun a E => ?_
  refine sd E (o_eqnil Try.underlying30 (E.ev rfl) (E.ev rfl)) rfl rfl rfl fun a E => ?_
  refine GL_nil ?_
  refine tgn ?_
  refine G_cond (E.ev rfl) (fun ht => ?_) (fun ht => ?_)
  · cases a1 with
    | some a1 => cases ht
    | none =>
      obtain rfl := h1.none
      refine G_seq ?_
      refine G_region ?_
      refine sd E (o_as (E.ev rfl)) rfl rfl rfl fun a E => ?_
      refine GL_nil ?_
      refine tgn ?_
      refine G_ret ?_
      refine tgr ?_
      exact fin1 E rfl rfl ⟨Tr.refl _ _, _, rfl, Sl.nil⟩
  · refine G_skip ?_
    refine tgn ?_
    refine G_seq ?_
    refine G_region ?_
    refine sh E (o_bs0 (k, 1) (K := kU) (B := 0) Try.underlying30 Try.sizeOf37 (Nat.zero_le _)) rfl rfl rfl ?_
    rintro a w2 s1 ⟨h2, t1⟩ E
    refine sd E (o_mv (E.ev rfl)) rfl rfl rfl fun a E => ?_
    refine sh E (o_app Try.underlying30 Try.type37 rfl rfl rfl rfl rfl rfl h2 (h1.tr t1).rd (E.ev rfl) (E.ev rfl) hlen (Nat.zero_le _)) rfl rfl rfl ?_
    rintro a w3 s2 ⟨h3, t2⟩ E
    refine sd E (o_as (E.ev rfl)) rfl rfl rfl fun a E => ?_
    refine GL_nil ?_
    refine tgn ?_
    refine G_ret ?_
    obtain ⟨s3, e3, h4, t3⟩ := h3.fz
    rw [e3]
    exact fin1 E rfl rfl ⟨(((Tr.refl No s).stepN t1).step hk t2 (by intro t h; subst h; exact .inr (Nat.le_refl _))).step hk t3 (by intro t h; subst h; exact .inr (Nat.le_refl _)), _, rfl, h4⟩

noncomputable def m_55 (x0 : List Frame) : Option (List Frame) := ap [] x0
theorem ok_55 (s : St) (tr : Tg) {x0 : List Frame} {w1 : Value} (h1 : Sl kFr s w1 x0) {r0y : List Frame} (hm : m_55 x0 = some r0y) :
    Ok Try.prog 55 ([w1] : List Value).toArray s fun v s' => Tr No s s' ∧ Bd tr kFr 32 0 s' v r0y := by
  unfold m_55 at hm
  obtain ⟨k, hk⟩ := s.fresh
  refine ok_of (n := 8) _ Try.func55 rfl _ rfl rfl fun a E => ?_
  obtain ⟨hlen, rfl⟩ := ap_some hm
  obtain ⟨a1, c1, rfl⟩ := h1.isS
  refine G_seq ?_
  refine G_region ?_
  refine sd E (o_as (E.ev rfl)) rfl rfl rfl fun a E => ?_
  refine GL_nil ?_
  refine tgn ?_
  refine G_seq ?_
  refine G_seq ?_
  refine G_region ?_
  refine sd E (o_mv (E.ev rfl)) rfl rfl rfl fun a E => ?_
  refine sd E (o_eqnil Try.underlying22 (E.ev rfl) (E.ev rfl)) rfl rfl rfl fun a E => ?_
  refine GL_nil ?_
  refine tgn ?_
  refine G_cond (E.ev rfl) (fun ht => ?_) (fun ht => ?_)
  · cases a1 with
    | some a1 => cases ht
    | none =>
      obtain rfl := h1.none
      refine G_seq ?_
      refine G_region ?_
      refine sd E (o_as (E.ev rfl)) rfl rfl rfl fun a E => ?_
      refine GL_nil ?_
      refine tgn ?_
      refine G_ret ?_
      refine tgr ?_
      exact fin1 E rfl rfl ⟨Tr.refl _ _, Bd.nil⟩
  · refine G_skip ?_
    refine tgn ?_
    refine G_seq ?_
    refine G_region ?_
    refine sh E (o_bs0 (k, 1) (K := kFr) (B := 0) Try.underlying22 Try.sizeOf32 (Nat.zero_le _)) rfl rfl rfl ?_
    rintro a w2 s1 ⟨h2, t1⟩ E
    refine sd E (o_mv (E.ev rfl)) rfl rfl rfl fun a E => ?_
    refine sh E (o_app Try.underlying22 Try.type32 rfl rfl rfl rfl rfl rfl h2 (h1.tr t1).rd (E.ev rfl) (E.ev rfl) hlen (Nat.zero_le _)) rfl rfl rfl ?_
    rintro a w3 s2 ⟨h3, t2⟩ E
    refine sd E (o_as (E.ev rfl)) rfl rfl rfl fun a E => ?_
    refine GL_nil ?_
    refine tgn ?_
    refine G_ret ?_
    obtain ⟨s3, e3, h4, t3⟩ := h3.rt tr
    rw [e3]
    exact fin1 E rfl rfl ⟨(((Tr.refl No s).stepN t1).step hk t2 (by intro t h; subst h; exact .inr (Nat.le_refl _))).step hk t3 (by intro t h; subst h; exact .inr (Nat.le_refl _)), h4⟩
end Go.Proofs.Ytdkfdmalbbfbmaa
