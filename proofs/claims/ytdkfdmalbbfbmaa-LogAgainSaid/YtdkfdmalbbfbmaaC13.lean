/- Copies; what a log is; its plain functions. -/
import Derived.Test.YtdkfdmalbbfbmaaC12
import Derived.Test.YtdkfdmalbbfbmaaD7
namespace Go.Proofs.Ytdkfdmalbbfbmaa
open Go Go.Maps
set_option maxRecDepth 4000

section
variable {P : Program} {s : St} {κ : Tg} {ρ : Operand → Value} {d : Option Nat} {g : Option (Nat × Bool)} {t : Nat} {pos : String} {af : Array Edge} {x y : Operand} {T T' e b m : Nat} {k : IntKind} {u : Value} {xs ys : List Int}
/-- A copy over an array of one's own, from its head on. -/
theorem o_cpy (hT : P.underlying T = some (.slice e)) (hi : (P.info? e).map (·.size) = some 1) (ho : Own κ s b (cA k xs) T') (hl : xs.length = m) (hu : Rd (kInt k) s u ys) (hx : ρ x = .slice (some ⟨b, 0, none⟩) m m) (hy : ρ y = u) :
    Hv P ⟨d, .call ⟨.builtin .copy, #[x, y], #[T, T]⟩, t, pos, af, g⟩ ρ s fun v s' => v = .int .i64 (min ys.length m : Nat) ∧ Own κ s' b (cA k (cpy xs 0 ys)) T' ∧ Tr (· = κ) s s' := by
  obtain ⟨a, c, cs, rfl, hcap, he, hn, hs⟩ := hu
  have hcs := he.ints_eq
  subst hcs
  have run1 : ∀ v w', (Builtin.copy_ #[T, T] t #[.slice (some ⟨b, 0, none⟩) m m, .slice a ys.length c]).run P s.w = .ok v w' →
      (execOp ρ ⟨d, .call ⟨.builtin .copy, #[x, y], #[T, T]⟩, t, pos, af, g⟩).run P s.w = .ok (.value v) w' := by
    intro v w' hr
    simp only [execOp, resolve, Sem.run_bind, Sem.run_pure, Result.andThen, invoke, builtin]
    simp [hx, hy, hr, Sem.run_bind, Result.andThen]
  cases a with
  | none =>
    obtain ⟨rfl, rfl⟩ := hn rfl
    have hr := run_copy_nil (P := P) s.w T T t e ⟨b, 0, none⟩ m m hT (by rw [hi]; rfl)
    refine hvo s (OpTo_value (by intro c h; cases h) (run1 _ _ hr)) ⟨by simp [goInt], by simpa [cpy] using ho, Tr.refl _ _⟩
  | some a =>
    have hc2 := (hs a rfl).2
    have hsrc : ∀ j v, ((ys.take m).map (Value.int k))[j]? = some v → s.w.cell? (a.add j) = some v := fun j v hv => hc2 j v (by
      rw [List.getElem?_map, List.getElem?_take] at hv
      split at hv
      · rw [List.getElem?_map]; exact hv
      · simp at hv)
    have hlen : ((ys.take m).map (Value.int k)).length = min ys.length m := by simp [Nat.min_comm]
    have hr := run_copy_row (P := P) s.w T T t e b 0 m m a ys.length c (cA k xs) T' ((ys.take m).map (Value.int k)) hT hi ho.2 hlen hsrc (by rw [hlen, cA_size, hl]; omega) (by intro v hv; obtain ⟨q, _, rfl⟩ := List.mem_map.1 hv; rfl)
    rw [hlen] at hr
    have hcells : ((cA k xs).toList.take 0 ++ (ys.take m).map (Value.int k) ++ (cA k xs).toList.drop (0 + min ys.length m)).toArray = cA k (cpy xs 0 ys) := by
      unfold cA cpy
      simp [hl]
    rw [hcells] at hr
    exact hvo (s.row b (cA k (cpy xs 0 ys))) (OpTo_value (by intro c h; cases h) (run1 _ _ hr)) ⟨rfl, ho.row _, Tr.row ho.1 _⟩
end

structure LogM where
  from_ : Int
  sectors : Int
  epoch : Int
  words : List Int
  frames : List Frame
/-- At b lies k's log, on the device at bd. -/
def LogAt (k bd : Nat) (s : St) (b : Nat) (L : LogM) : Prop := ∃ wv fv, Own (k, 0) s b #[.pointer (some ⟨bd, 0, none⟩), .int .i64 L.from_, .int .i64 L.sectors, .int .i64 L.epoch, wv, fv] 73 ∧
  Ap (k, 1) kU 37 0 s wv L.words ∧ Bd (k, 2) kFr 32 0 s fv L.frames
theorem LogAt.tr {k bd : Nat} {s s' : St} {b : Nat} {L : LogM} {p : Tg → Prop} (h : LogAt k bd s b L) (t : Tr p s s') (hp : ∀ i, ¬ p (k, i)) : LogAt k bd s' b L := by
  obtain ⟨wv, fv, h1, h2, h3⟩ := h
  exact ⟨wv, fv, h1.tr t (hp 0), h2.tr t (hp 1), h3.tr t (hp 2)⟩
theorem LogAt.trN {k bd : Nat} {s s' : St} {b : Nat} {L : LogM} (h : LogAt k bd s b L) (t : Tr No s s') : LogAt k bd s' b L := h.tr t fun _ h => h
theorem LogAt.tag {k bd : Nat} {s : St} {b : Nat} {L : LogM} (h : LogAt k bd s b L) : s.tag b = some (k, 0) := let ⟨_, _, h1, _⟩ := h; h1.1

theorem ok_13 (s : St) {k bd b : Nat} {L : LogM} (hd : LogAt k bd s b L) :
    Ok Try.prog 13 ([.pointer (some ⟨b, 0, none⟩)] : List Value).toArray s fun v s' => Tr No s s' ∧ v = .int .i64 (IntKind.wrap .i64 (IntKind.wrap .i64 (L.sectors * 8) - (L.words.length : Int))) := by
  obtain ⟨wv, fv, h1, h2, h3⟩ := hd
  refine ok_of (n := 16) _ Try.func13 rfl _ rfl rfl fun a E => ?_
  refine G_seq ?_
  refine G_region ?_
  refine sd E (o_as (E.ev rfl)) rfl rfl rfl fun a E => ?_
  refine GL_nil ?_
  refine tgn ?_
  refine G_seq ?_
  refine G_seq ?_
  refine G_region ?_
  refine sd E (o_mv (E.ev rfl)) rfl rfl rfl fun a E => ?_
  refine sd E (o_eqp Try.underlying26 (E.ev rfl) (E.ev rfl)) rfl rfl rfl fun a E => ?_
  refine GL_nil ?_
  refine tgn ?_
  refine G_cond (t := false) (E.ev rfl) nofun (fun _ => ?_)
  refine G_skip ?_
  refine tgn ?_
  refine G_seq ?_
  refine G_drw k (by rfl) [0, 1, 2, 3, 4, 5, 6, 7, 8, 9, 10, 11] (by kernel_rfl) ?_
  intro s1 t1
  have h1 := h1.trN t1
  have h2 := h2.trN t1
  refine dp E rfl (fun w => o_mv (E.ev rfl)) rfl rfl rfl fun a E => ?_
  refine dp E rfl (fun w => o_nc (E.ev rfl)) rfl rfl rfl fun a E => ?_
  refine dp E rfl (fun w => o_fa Try.underlying73 rfl Try.sizeOf3 (E.ev rfl)) rfl rfl rfl fun a E => ?_
  refine dr E rfl (fun s' t => o_ld Try.isAgg3 (E.ev rfl) (((h1.trN t).cell _).trans rfl)) rfl rfl rfl rfl fun a E => ?_
  refine dp E rfl (fun w => o_bi (E.ev rfl) (E.ev rfl) rfl) rfl rfl rfl fun a E => ?_
  refine dp E rfl (fun w => o_mv (E.ev rfl)) rfl rfl rfl fun a E => ?_
  refine dp E rfl (fun w => o_nc (E.ev rfl)) rfl rfl rfl fun a E => ?_
  refine dp E rfl (fun w => o_fa Try.underlying73 rfl Try.sizeOf30 (E.ev rfl)) rfl rfl rfl fun a E => ?_
  refine dr E rfl (fun s' t => o_ld Try.isAgg30 (E.ev rfl) (((h1.trN t).cell _).trans rfl)) rfl rfl rfl rfl fun a E => ?_
  refine dp E rfl (fun w => o_lenS (xs := L.words) Try.underlying30 (E.ev rfl) h2.isS) rfl rfl rfl fun a E => ?_
  refine dp E rfl (fun w => o_bi (E.ev rfl) (E.ev rfl) rfl) rfl rfl rfl fun a E => ?_
  refine dp E rfl (fun w => o_as (E.ev rfl)) rfl rfl rfl fun a E => ?_
  refine gd_nil ?_
  refine tgn ?_
  refine G_ret ?_
  exact fin1 E rfl rfl ⟨t1, rfl⟩

theorem ok_31 (s : St) {k bd b : Nat} {L : LogM} (hd : LogAt k bd s b L) :
    Ok Try.prog 31 ([.pointer (some ⟨b, 0, none⟩)] : List Value).toArray s fun v s' => Tr No s s' ∧ v = .int .i64 (L.words.length : Int) := by
  obtain ⟨wv, fv, h1, h2, h3⟩ := hd
  refine ok_of (n := 10) _ Try.func31 rfl _ rfl rfl fun a E => ?_
  refine G_seq ?_
  refine G_region ?_
  refine sd E (o_as (E.ev rfl)) rfl rfl rfl fun a E => ?_
  refine GL_nil ?_
  refine tgn ?_
  refine G_seq ?_
  refine G_seq ?_
  refine G_region ?_
  refine sd E (o_mv (E.ev rfl)) rfl rfl rfl fun a E => ?_
  refine sd E (o_eqp Try.underlying26 (E.ev rfl) (E.ev rfl)) rfl rfl rfl fun a E => ?_
  refine GL_nil ?_
  refine tgn ?_
  refine G_cond (t := false) (E.ev rfl) nofun (fun _ => ?_)
  refine G_skip ?_
  refine tgn ?_
  refine G_seq ?_
  refine G_region ?_
  refine sd E (o_mv (E.ev rfl)) rfl rfl rfl fun a E => ?_
  refine sd E (o_nc (E.ev rfl)) rfl rfl rfl fun a E => ?_
  refine sd E (o_fa Try.underlying73 rfl Try.sizeOf30 (E.ev rfl)) rfl rfl rfl fun a E => ?_
  refine sd E (o_ld Try.isAgg30 (E.ev rfl) ((h1.cell _).trans rfl)) rfl rfl rfl fun a E => ?_
  refine sd E (o_lenS (xs := L.words) Try.underlying30 (E.ev rfl) h2.isS) rfl rfl rfl fun a E => ?_
  refine sd E (o_as (E.ev rfl)) rfl rfl rfl fun a E => ?_
  refine GL_nil ?_
  refine tgn ?_
  refine G_ret ?_
  exact fin1 E rfl rfl ⟨Tr.refl _ _, rfl⟩
end Go.Proofs.Ytdkfdmalbbfbmaa
