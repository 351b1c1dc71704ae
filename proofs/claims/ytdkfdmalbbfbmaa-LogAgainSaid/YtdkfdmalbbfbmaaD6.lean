/- Models and walks, printed by a program of ours. -/
import Derived.Test.YtdkfdmalbbfbmaaD5
namespace Go.Proofs.Ytdkfdmalbbfbmaa
open Go
set_option maxRecDepth 4000
-- gimmal/frames.stream$1
noncomputable def m_80_1b {σ : Type} (c : σ → (Int × Frame) → Option σ) (x0 : Int) (x1 : List Int) : (Int × Int × (σ)) → Option (Lo (Int × Int × (σ)) (Sum (Int × Int × (σ)) (σ))) := fun (x6, x7, x8) => ob (sl x1 x6 (x1.length : Int)) fun x9 => ob (m_81 x0 x7 x9) fun (y1, y2, y3) => ob (bif !y3 then (some (true, x8)) else (ob (c x8 (IntKind.wrap .i64 (x6 + y2), y1)) fun x11 => some (false, x11))) fun (t6, x10) => bif t6 then (some (.inr (.inr x10))) else (some (.inl (IntKind.wrap .i64 (x6 + y2), IntKind.wrap .i64 (x7 + 1), x10)))
noncomputable def m_80_1k {σ : Type} (c : σ → (Int × Frame) → Option σ) : Sum (Int × Int × (σ)) (σ) → Option (σ)
  | .inl (x12, x13, x14) => some x14
  | .inr y => some y
noncomputable def m_80 {σ : Type} (c : σ → (Int × Frame) → Option σ) (x0 : Int) (x1 : List Int) (u0 : σ) : Option σ :=
  ob (loopO (m_80_1b c x0 x1) (0, 0, u0)) (m_80_1k c)
theorem ok_80 {σ : Type} (s : St) {b1 : Nat} {x0 : Int} {b2 : Nat} {x1 : List Int} (o1 : Stay s b1 #[.int .i64 x0]) {w1 : Value} (h1 : Sl kU s w1 x1) (o2 : Stay s b2 #[w1]) (c : σ → (Int × Frame) → Option σ) (yv : Value) (J' : σ → St → Prop) (q' : Tg → Prop) (hl : ∀ k, (∀ b t, s.tag b = some t → t.1 < k) → ∀ st s s', J' st s → Tr (Rt k) s s' → J' st s')
    (hy : ∀ st z0 z1 st' s w2, Sl kU s w2 z1.Words → J' st s → c st (z0, z1) = some st' → CallV Try.prog yv [.int .i64 z0, .agg #[.int .i64 z1.Kind, w2]] s fun v s' => v = .bool true ∧ J' st' s' ∧ Tr q' s s') {u0 u1y : σ} (hj0 : J' u0 s) (hm : m_80 c x0 x1 u0 = some u1y) :
    Ok Try.prog 80 ([yv, .pointer (some ⟨b1, 0, none⟩), .pointer (some ⟨b2, 0, none⟩)] : List Value).toArray s fun _ s' => J' u1y s' ∧ Tr q' s s' := by
  unfold m_80 at hm
  obtain ⟨k, hk⟩ := s.fresh
  have hL : ∀ st s s', J' st s → Tr (Rt k) s s' → J' st s' := hl k hk
  refine ok_of (n := 35) _ Try.func80 rfl _ rfl rfl fun a E => ?_
  refine G_seq ?_
  refine G_region ?_
  refine sd E (o_as (E.ev rfl)) rfl rfl rfl fun a E => ?_
  refine GL_nil ?_
  refine tgn ?_
  refine G_seq ?_
  refine G_region ?_
  refine sd E (o_as (E.ev rfl)) rfl rfl rfl fun a E => ?_
  refine GL_nil ?_
  refine tgn ?_
  obtain ⟨r1, hl1, hm⟩ := ob_some hm
  refine G_mid1 (fun a' w' => ∃ x3 x4 x5 s', m_80_1k c (.inl (x3, x4, x5)) = some u1y ∧ w' = s'.w ∧ Tr (Or q' (Rt k)) s s' ∧ J' x5 s' ∧ En [] 35 a' [(4, .int .i64 x3), (5, .int .i64 x4), (0, yv), (1, .pointer (some ⟨b1, 0, none⟩)), (2, .pointer (some ⟨b2, 0, none⟩))]) ?_ ?_
  · refine G_block ?_
    refine G_lp hl1 (fun st a' w' => ∃ x3 x4 x5 s', st = (x3, x4, x5) ∧ w' = s'.w ∧ Tr (Or q' (Rt k)) s s' ∧ J' x5 s' ∧ En [] 35 a' [(4, .int .i64 x3), (5, .int .i64 x4), (0, yv), (1, .pointer (some ⟨b1, 0, none⟩)), (2, .pointer (some ⟨b2, 0, none⟩))]) ⟨_, _, _, _, rfl, rfl, (Tr.refl _ _), hj0, (((((E.nil.ad E rfl rfl).ad E rfl rfl).ad E rfl rfl).ad E rfl rfl).ad E rfl rfl)⟩ ?_
    rintro _ a _ x ⟨x6, x7, x8, s1, rfl, rfl, t1, hj1, E⟩ hf1
    dsimp only [m_80_1b] at hf1
    refine G_seq ?_
    refine G_block ?_
    refine G_seq ?_
    refine G_drw k (by rfl) [0, 1, 2, 3, 4, 5, 6, 7, 8, 9, 10, 11, 12, 13] (by kernel_rfl) ?_
    intro s2 t2
    refine dr E rfl (fun s' t => (o_ld Try.isAgg3 (E.ev rfl) (((((o1.tr t1).tr t2).tr t).cell _).trans rfl))) rfl rfl rfl rfl fun a E => ?_
    refine dp E rfl (fun w => (o_mv (E.ev rfl))) rfl rfl rfl fun a E => ?_
    refine dr E rfl (fun s' t => (o_ld Try.isAgg30 (E.ev rfl) (((((o2.tr t1).tr t2).tr t).cell _).trans rfl))) rfl rfl rfl rfl fun a E => ?_
    refine dp E rfl (fun w => (o_mv (E.ev rfl))) rfl rfl rfl fun a E => ?_
    obtain ⟨x9, hx1, hf1⟩ := ob_some hf1
    obtain ⟨w3, g1, h2⟩ := ((h1.tr t1).tr t2).sl hx1
    refine dp E rfl (fun w => (o_slL Try.underlying30 Try.sizeOf37 g1 (E.ev rfl) (E.ev rfl))) rfl rfl rfl fun a E => ?_
    obtain ⟨⟨y1, y2, y3⟩, hx2, hf1⟩ := ob_some hf1
    refine df E rfl (fun s' t => hv_swap (o_ok Try.call81 (E.evs rfl) (E.ev rfl) (ok_81 _ (x0 := x0) (x1 := x7) (x2 := x9) (h2.tr t) hx2))) rfl rfl rfl rfl ?_
    rintro a _ s3 ⟨w4, rfl, h3⟩ t3 E
    refine dp E rfl (fun w => (o_mv (E.ev rfl))) rfl rfl rfl fun a E => ?_
    refine dp E rfl (fun w => (o_ext (v := .agg #[.int .i64 y1.Kind, w4]) (E.ev rfl) rfl)) rfl rfl rfl fun a E => ?_
    refine dp E rfl (fun w => (o_ext (v := .int .i64 y2) (E.ev rfl) rfl)) rfl rfl rfl fun a E => ?_
    refine dp E rfl (fun w => (o_ext (v := .bool y3) (E.ev rfl) rfl)) rfl rfl rfl fun a E => ?_
    refine da E rfl rfl Try.zeroValue32 rfl rfl rfl rfl ?_
    rintro a _ s4 ⟨b3, rfl, o3⟩ t4 E
    obtain ⟨a1, c1, rfl⟩ := (h3.tr t4).isS
    refine dlN E rfl (o_st (v := .agg #[.int .i64 y1.Kind, (.slice a1 y1.Words.length c1)]) Try.sizeOf32 o3 (E.ev rfl) (E.ev rfl) (Nat.le_of_ble_eq_true rfl) (by intro u hu; simp [Value.cells] at hu; (try rcases hu with hu | hu) <;> subst hu <;> rfl) rfl) rfl rfl rfl ?_
    rintro _ s5 ⟨o4, t5⟩
    refine dp E rfl (fun w => (o_as (E.ev rfl))) rfl rfl rfl fun a E => ?_
    refine dp E rfl (fun w => (o_as (E.ev rfl))) rfl rfl rfl fun a E => ?_
    refine gd_nil ?_
    refine tgn ?_
    refine G_seq ?_
    refine G_seq ?_
    obtain ⟨⟨t6, x10⟩, hc1, hf1⟩ := ob_some hf1
    refine G_regm (fun a' w' => ∃ s', w' = s'.w ∧ Tr (Or q' (Rt k)) s5 s' ∧ J' x10 s' ∧ En [] 35 a' [(31, .bool t6), (0, yv), (1, .pointer (some ⟨b1, 0, none⟩)), (2, .pointer (some ⟨b2, 0, none⟩)), (4, .int .i64 x6), (5, .int .i64 x7), (6, .pointer (some ⟨b3, 0, none⟩)), (7, .int .i64 y2), (8, .bool y3)]) ?_ ?_
    · refine sd E (o_mv (E.ev rfl)) rfl rfl rfl fun a E => ?_
      refine sd E (o_not (E.ev rfl)) rfl rfl rfl fun a E => ?_
      refine sd E (o_mv (E.ev rfl)) rfl rfl rfl fun a E => ?_
      refine bcase (E.ev (x := .tmp 23) rfl) (fun ht => ?_) (fun ht => ?_)
      · have hc1 := cT ht hc1
        rw [ht] at E
        refine sk E rfl rfl rfl fun a E => ?_
        refine sk E rfl rfl rfl fun a E => ?_
        refine sk E rfl rfl rfl fun a E => ?_
        refine sk E rfl rfl rfl fun a E => ?_
        refine sk E rfl rfl rfl fun a E => ?_
        refine sk E rfl rfl rfl fun a E => ?_
        refine sk E rfl rfl rfl fun a E => ?_
        refine sd E (o_pickT (E.ev rfl) (E.ev rfl)) rfl rfl rfl fun a E => ?_
        cases hc1
        exact GL_nil ⟨_, rfl, (Tr.refl _ _), (hL _ _ _ (hL _ _ _ (hL _ _ _ (hL _ _ _ hj1 t2.no) t3.no) t4.no) (t5.mono (by intro t h; subst h; rfl))), (((((((((E.nil.ad E rfl rfl).ad E rfl rfl).ad E rfl rfl).ad E rfl rfl).ad E rfl rfl).ad E rfl rfl).ad E rfl rfl).ad E rfl rfl).ad E rfl rfl)⟩
      · have hc1 := cF ht hc1
        rw [ht] at E
        refine sd E (o_mv (E.ev rfl)) rfl rfl rfl fun a E => ?_
        refine sd E (o_mv (E.ev rfl)) rfl rfl rfl fun a E => ?_
        refine sd E (o_mv (E.ev rfl)) rfl rfl rfl fun a E => ?_
        refine sd E (o_bi (E.ev rfl) (E.ev rfl) rfl) rfl rfl rfl fun a E => ?_
        refine sd E (o_ldc (cs := #[.int .i64 y1.Kind, (.slice a1 y1.Words.length c1)]) Try.isAgg32 Try.sizeOf32 (E.ev rfl) o4.cell) rfl rfl rfl fun a E => ?_
        obtain ⟨x11, hx3, hc1⟩ := ob_some hc1
        refine sh E (hy _ _ _ _ _ _ ((h3.tr t4).tr t5) (hL _ _ _ (hL _ _ _ (hL _ _ _ (hL _ _ _ hj1 t2.no) t3.no) t4.no) (t5.mono (by intro t h; subst h; rfl))) hx3 _ _ _ _ _ _ _ _ _ (E.ev rfl) (E.evs rfl)) rfl rfl rfl ?_
        rintro a _ s6 ⟨rfl, hj2, t7⟩ E
        refine sd E (o_not (E.ev rfl)) rfl rfl rfl fun a E => ?_
        refine sd E (o_pickF (E.ev rfl) (E.ev rfl)) rfl rfl rfl fun a E => ?_
        cases hc1
        exact GL_nil ⟨_, rfl, (t7.mono fun _ h => .inl h), hj2, (((((((((E.nil.ad E rfl rfl).ad E rfl rfl).ad E rfl rfl).ad E rfl rfl).ad E rfl rfl).ad E rfl rfl).ad E rfl rfl).ad E rfl rfl).ad E rfl rfl)⟩
    rintro a _ ⟨s7, rfl, t8, hj3, E⟩
    refine tgn ?_
    refine G_cond (E.ev rfl) (fun ht => ?_) (fun ht => ?_)
    · have hf1 := cT ht hf1
      refine G_ret ?_
      refine tgr ?_
      refine ebr ?_
      refine tgr ?_
      obtain rfl := Option.some.inj hf1
      refine lpr fun hr => ?_
      subst hr
      dsimp only [m_80_1k] at hm
      refine ebr ?_
      refine ctr ?_
      cases hm
      exact fin0 E rfl ⟨hj3, (((((((Tr.refl q' s).step hk t1 (fun t h => h.elim .inl fun h => .inr (Nat.le_of_eq (Eq.symm h)))).stepN t2).stepN t3).stepN t4).step hk t5 (by intro t h; subst h; exact .inr (Nat.le_refl _))).step hk t8 (fun t h => h.elim .inl fun h => .inr (Nat.le_of_eq (Eq.symm h))))⟩
    · have hf1 := cF ht hf1
      refine G_skip ?_
      refine tgn ?_
      refine G_region ?_
      refine sd E (o_mv (E.ev rfl)) rfl rfl rfl fun a E => ?_
      refine sd E (o_mv (E.ev rfl)) rfl rfl rfl fun a E => ?_
      refine sd E (o_bi (E.ev rfl) (E.ev rfl) rfl) rfl rfl rfl fun a E => ?_
      refine sd E (o_as (E.ev rfl)) rfl rfl rfl fun a E => ?_
      refine GL_nil ?_
      refine ebn ?_
      refine tgn ?_
      refine G_region ?_
      refine sd E (o_mv (E.ev rfl)) rfl rfl rfl fun a E => ?_
      refine sd E (o_bi (E.ev rfl) (E.ev rfl) rfl) rfl rfl rfl fun a E => ?_
      refine sd E (o_as (E.ev rfl)) rfl rfl rfl fun a E => ?_
      refine GL_nil ?_
      obtain rfl := Option.some.inj hf1
      exact lpn ⟨_, _, _, _, rfl, rfl, (((((t1.trans t2.no).trans t3.no).trans t4.no).trans (t5.mono (by intro t h; subst h; exact .inr rfl))).trans t8), hj3, (((((E.nil.ad E rfl rfl).ad E rfl rfl).ad E rfl rfl).ad E rfl rfl).ad E rfl rfl)⟩
  · rintro a _ ⟨x12, x13, x14, s8, hm, rfl, t9, hj4, E⟩
    dsimp only [m_80_1k] at hm
    cases hm
    exact fin0 E rfl ⟨hj4, ((Tr.refl q' s).step hk t9 (fun t h => h.elim .inl fun h => .inr (Nat.le_of_eq (Eq.symm h))))⟩

end Go.Proofs.Ytdkfdmalbbfbmaa
