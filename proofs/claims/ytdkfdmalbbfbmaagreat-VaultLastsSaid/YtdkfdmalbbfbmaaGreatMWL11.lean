/- Models and walks, printed by a program of ours. -/
import Derived.Test.YtdkfdmalbbfbmaaGreatMWL10
import Derived.Test.YtdkfdmalbbfbmaaGreatMWL7
/- Models and walks, printed by a program of ours. -/
namespace Go.Proofs.YtdkfdmalbbfbmaaGreat
open Go
set_option maxRecDepth 4000
-- gimmal/frames.stream$1
noncomputable def m_80_1b {σ : Type} (c : σ → (Int × Frame) → Option σ) (x0 : Int) (x1 : List Int) : (Int × Int × (σ)) → Option (Lo (Int × Int × (σ)) (Sum (Int × Int × (σ)) (σ))) := fun (x6, x7, x8) => ob (sl x1 x6 (x1.length : Int)) fun x9 => ob (m_81 x0 x7 x9) fun (y1, y2, y3) => ob (bif !y3 then (some (true, x8)) else (ob (c x8 (IntKind.wrap .i64 (x6 + y2), y1)) fun x11 => some (false, x11))) fun (t6, x10) => bif t6 then (some (.inr (.inr x10))) else (some (.inl (IntKind.wrap .i64 (x6 + y2), IntKind.wrap .i64 (x7 + 1), x10)))
noncomputable def m_80_1k {σ : Type} (c : σ → (Int × Frame) → Option σ) : Sum (Int × Int × (σ)) (σ) → Option (σ)
  | .inl (x12, x13, x14) => some x14
  | .inr y => some y
noncomputable def m_80 {σ : Type} (c : σ → (Int × Frame) → Option σ) (x0 : Int) (x1 : List Int) (u0 : σ) : Option σ :=
  ob (loopO (m_80_1b c x0 x1) (0, 0, u0)) (m_80_1k c)
theorem ok_80 {σ : Type} (s : St) {b1 : Nat} {x0 : Int} {b2 : Nat} {x1 : List Int} (o1 : Stay s b1 #[.int .i64 x0]) {w1 : Value} (h1 : Sl kU s w1 x1) (o2 : Stay s b2 #[w1]) (c : σ → (Int × Frame) → Option σ) (yv : Value) (J' : σ → St → Prop) (q' : Tg → Prop) (hl : ∀ k, (∀ b t, s.tag b = some t → t.1 < k) → ∀ st s s', J' st s → Tr (Rt k) s s' → J' st s')
    (hy : ∀ st z0 z1 st' s w2, Sl kU s w2 z1.Words → J' st s → c st (z0, z1) = some st' → CallV Tryz.prog yv [.int .i64 z0, .agg #[.int .i64 z1.Kind, w2]] s fun v s' => v = .bool true ∧ J' st' s' ∧ Tr q' s s') {u0 u1y : σ} (hj0 : J' u0 s) (hm : m_80 c x0 x1 u0 = some u1y) :
    Ok Tryz.prog 88 ([yv, .pointer (some ⟨b1, 0, none⟩), .pointer (some ⟨b2, 0, none⟩)] : List Value).toArray s fun _ s' => J' u1y s' ∧ Tr q' s s' := by
  unfold m_80 at hm
  obtain ⟨k, hk⟩ := s.fresh
  have hL : ∀ st s s', J' st s → Tr (Rt k) s s' → J' st s' := hl k hk
  refine ok_of (n := 35) _ Tryz.func88 rfl _ rfl rfl fun a E => ?_
  refine G_seq ?_
  refine G_region ?_
  refine sd E (o_as (E.ev rfl)) rfl rfl rfl fun a E => ?_
  refine GL_nil ?_
  refine tgn ?_
  refine G_seq ?_
  refine G_region ?_
  refine sd E (o_as (E.ev rfl)) rfl rfl rfl fun a E => ?_
  refine GL_nil ?_
  refine tgn ?_
  obtain ⟨r1, hl1, hm⟩ := ob_some hm
  refine G_mid1 (fun a' w' => ∃ x3 x4 x5 s', m_80_1k c (.inl (x3, x4, x5)) = some u1y ∧ w' = s'.w ∧ Tr (Or q' (Rt k)) s s' ∧ J' x5 s' ∧ En [] 35 a' [(4, .int .i64 x3), (5, .int .i64 x4), (0, yv), (1, .pointer (some ⟨b1, 0, none⟩)), (2, .pointer (some ⟨b2, 0, none⟩))]) ?_ ?_
  · refine G_block ?_
    refine G_lp hl1 (fun st a' w' => ∃ x3 x4 x5 s', st = (x3, x4, x5) ∧ w' = s'.w ∧ Tr (Or q' (Rt k)) s s' ∧ J' x5 s' ∧ En [] 35 a' [(4, .int .i64 x3), (5, .int .i64 x4), (0, yv), (1, .pointer (some ⟨b1, 0, none⟩)), (2, .pointer (some ⟨b2, 0, none⟩))]) ⟨_, _, _, _, rfl, rfl, (Tr.refl _ _), hj0, (((((E.nil.ad E rfl rfl).ad E rfl rfl).ad E rfl rfl).ad E rfl rfl).ad E rfl rfl)⟩ ?_
    rintro _ a _ x ⟨x6, x7, x8, s1, rfl, rfl, t1, hj1, E⟩ hf1
    dsimp only [m_80_1b] at hf1
    refine G_seq ?_
    refine G_block ?_
    refine G_seq ?_
    refine G_drw k (by rfl) [0, 1, 2, 3, 4, 5, 6, 7, 8, 9, 10, 11, 12, 13] (by kernel_rfl) ?_
    intro s2 t2
    refine dr E rfl (fun s' t => (o_ld Tryz.isAgg3 (E.ev rfl) (((((o1.tr t1).tr t2).tr t).cell _).trans rfl))) rfl rfl rfl rfl fun a E => ?_
    refine dp E rfl (fun w => (o_mv (E.ev rfl))) rfl rfl rfl fun a E => ?_
    refine dr E rfl (fun s' t => (o_ld Tryz.isAgg36 (E.ev rfl) (((((o2.tr t1).tr t2).tr t).cell _).trans rfl))) rfl rfl rfl rfl fun a E => ?_
    refine dp E rfl (fun w => (o_mv (E.ev rfl))) rfl rfl rfl fun a E => ?_
    obtain ⟨x9, hx1, hf1⟩ := ob_some hf1
    obtain ⟨w3, g1, h2⟩ := ((h1.tr t1).tr t2).sl hx1
    refine dp E rfl (fun w => (o_slL Tryz.underlying36 Tryz.sizeOf39 g1 (E.ev rfl) (E.ev rfl))) rfl rfl rfl fun a E => ?_
    obtain ⟨⟨y1, y2, y3⟩, hx2, hf1⟩ := ob_some hf1
    refine df E rfl (fun s' t => hv_swap (o_ok Tryz.call89 (E.evs rfl) (E.ev rfl) (ok_81 _ (x0 := x0) (x1 := x7) (x2 := x9) (h2.tr t) hx2))) rfl rfl rfl rfl ?_
    rintro a _ s3 ⟨w4, rfl, h3⟩ t3 E
    refine dp E rfl (fun w => (o_mv (E.ev rfl))) rfl rfl rfl fun a E => ?_
    refine dp E rfl (fun w => (o_ext (v := .agg #[.int .i64 y1.Kind, w4]) (E.ev rfl) rfl)) rfl rfl rfl fun a E => ?_
    refine dp E rfl (fun w => (o_ext (v := .int .i64 y2) (E.ev rfl) rfl)) rfl rfl rfl fun a E => ?_
    refine dp E rfl (fun w => (o_ext (v := .bool y3) (E.ev rfl) rfl)) rfl rfl rfl fun a E => ?_
    refine da E rfl rfl Tryz.zeroValue38 rfl rfl rfl rfl ?_
    rintro a _ s4 ⟨b3, rfl, o3⟩ t4 E
    obtain ⟨a1, c1, rfl⟩ := (h3.tr t4).isS
    refine dlN E rfl (o_st (v := .agg #[.int .i64 y1.Kind, (.slice a1 y1.Words.length c1)]) Tryz.sizeOf38 o3 (E.ev rfl) (E.ev rfl) (Nat.le_of_ble_eq_true rfl) (by intro u hu; simp [Value.cells] at hu; (try rcases hu with hu | hu) <;> subst hu <;> rfl) rfl) rfl rfl rfl ?_
    rintro _ s5 ⟨o4, t5⟩
    refine dp E rfl (fun w => (o_as (E.ev rfl))) rfl rfl rfl fun a E => ?_
    refine dp E rfl (fun w => (o_as (E.ev rfl))) rfl rfl rfl fun a E => ?_
    refine gd_nil ?_
    refine tgn ?_
    refine G_seq ?_
    refine G_seq ?_
    obtain ⟨⟨t6, x10⟩, hc1, hf1⟩ := ob_some hf1
    refine G_regm (fun a' w' => ∃ s', w' = s'.w ∧ Tr (Or q' (Rt k)) s5 s' ∧ J' x10 s' ∧ En [] 35 a' [(31, .bool t6), (0, yv), (1, .pointer (some ⟨b1, 0, none⟩)), (2, .pointer (some ⟨b2, 0, none⟩)), (4, .int .i64 x6), (5, .int .i64 x7), (6, .pointer (some ⟨b3, 0, none⟩)), (7, .int .i64 y2), (8, .bool y3)]) ?_ ?_
    · refine sd E (o_mv (E.ev rfl)) rfl rfl rfl fun a E => ?_
      refine sd E (o_not (E.ev rfl)) rfl rfl rfl fun a E => ?_
      refine sd E (o_mv (E.ev rfl)) rfl rfl rfl fun a E => ?_
      refine bcase (E.ev (x := .tmp 23) rfl) (fun ht => ?_) (fun ht => ?_)
      · have hc1 := cT ht hc1
        rw [ht] at E
        refine sk E rfl rfl rfl fun a E => ?_
        refine sk E rfl rfl rfl fun a E => ?_
        refine sk E rfl rfl rfl fun a E => ?_
        refine sk E rfl rfl rfl fun a E => ?_
        refine sk E rfl rfl rfl fun a E => ?_
        refine sk E rfl rfl rfl fun a E => ?_
        refine sk E rfl rfl rfl fun a E => ?_
        refine sd E (o_pickT (E.ev rfl) (E.ev rfl)) rfl rfl rfl fun a E => ?_
        cases hc1
        exact GL_nil ⟨_, rfl, (Tr.refl _ _), (hL _ _ _ (hL _ _ _ (hL _ _ _ (hL _ _ _ hj1 t2.no) t3.no) t4.no) (t5.mono (by intro t h; subst h; rfl))), (((((((((E.nil.ad E rfl rfl).ad E rfl rfl).ad E rfl rfl).ad E rfl rfl).ad E rfl rfl).ad E rfl rfl).ad E rfl rfl).ad E rfl rfl).ad E rfl rfl)⟩
      · have hc1 := cF ht hc1
        rw [ht] at E
        refine sd E (o_mv (E.ev rfl)) rfl rfl rfl fun a E => ?_
        refine sd E (o_mv (E.ev rfl)) rfl rfl rfl fun a E => ?_
        refine sd E (o_mv (E.ev rfl)) rfl rfl rfl fun a E => ?_
        refine sd E (o_bi (E.ev rfl) (E.ev rfl) rfl) rfl rfl rfl fun a E => ?_
        refine sd E (o_ldc (cs := #[.int .i64 y1.Kind, (.slice a1 y1.Words.length c1)]) Tryz.isAgg38 Tryz.sizeOf38 (E.ev rfl) o4.cell) rfl rfl rfl fun a E => ?_
        obtain ⟨x11, hx3, hc1⟩ := ob_some hc1
        refine sh E (hy _ _ _ _ _ _ ((h3.tr t4).tr t5) (hL _ _ _ (hL _ _ _ (hL _ _ _ (hL _ _ _ hj1 t2.no) t3.no) t4.no) (t5.mono (by intro t h; subst h; rfl))) hx3 _ _ _ _ _ _ _ _ _ (E.ev rfl) (E.evs rfl)) rfl rfl rfl ?_
        rintro a _ s6 ⟨rfl, hj2, t7⟩ E
        refine sd E (o_not (E.ev rfl)) rfl rfl rfl fun a E => ?_
        refine sd E (o_pickF (E.ev rfl) (E.ev rfl)) rfl rfl rfl fun a E => ?_
        cases hc1
        exact GL_nil ⟨_, rfl, (t7.mono fun _ h => .inl h), hj2, (((((((((E.nil.ad E rfl rfl).ad E rfl rfl).ad E rfl rfl).ad E rfl rfl).ad E rfl rfl).ad E rfl rfl).ad E rfl rfl).ad E rfl rfl).ad E rfl rfl)⟩
    rintro a _ ⟨s7, rfl, t8, hj3, E⟩
    refine tgn ?_
    refine G_cond (E.ev rfl) (fun ht => ?_) (fun ht => ?_)
    · have hf1 := cT ht hf1
      refine G_ret ?_
      refine tgr ?_
      refine ebr ?_
      refine tgr ?_
      obtain rfl := Option.some.inj hf1
      refine lpr fun hr => ?_
      subst hr
      dsimp only [m_80_1k] at hm
      refine ebr ?_
      refine ctr ?_
      cases hm
      exact fin0 E rfl ⟨hj3, (((((((Tr.refl q' s).step hk t1 (fun t h => h.elim .inl fun h => .inr (Nat.le_of_eq (Eq.symm h)))).stepN t2).stepN t3).stepN t4).step hk t5 (by intro t h; subst h; exact .inr (Nat.le_refl _))).step hk t8 (fun t h => h.elim .inl fun h => .inr (Nat.le_of_eq (Eq.symm h))))⟩
    · have hf1 := cF ht hf1
      refine G_skip ?_
      refine tgn ?_
      refine G_region ?_
      refine sd E (o_mv (E.ev rfl)) rfl rfl rfl fun a E => ?_
      refine sd E (o_mv (E.ev rfl)) rfl rfl rfl fun a E => ?_
      refine sd E (o_bi (E.ev rfl) (E.ev rfl) rfl) rfl rfl rfl fun a E => ?_
      refine sd E (o_as (E.ev rfl)) rfl rfl rfl fun a E => ?_
      refine GL_nil ?_
      refine ebn ?_
      refine tgn ?_
      refine G_region ?_
      refine sd E (o_mv (E.ev rfl)) rfl rfl rfl fun a E => ?_
      refine sd E (o_bi (E.ev rfl) (E.ev rfl) rfl) rfl rfl rfl fun a E => ?_
      refine sd E (o_as (E.ev rfl)) rfl rfl rfl fun a E => ?_
      refine GL_nil ?_
      obtain rfl := Option.some.inj hf1
      exact lpn ⟨_, _, _, _, rfl, rfl, (((((t1.trans t2.no).trans t3.no).trans t4.no).trans (t5.mono (by intro t h; subst h; exact .inr rfl))).trans t8), hj3, (((((E.nil.ad E rfl rfl).ad E rfl rfl).ad E rfl rfl).ad E rfl rfl).ad E rfl rfl)⟩
  · rintro a _ ⟨x12, x13, x14, s8, hm, rfl, t9, hj4, E⟩
    dsimp only [m_80_1k] at hm
    cases hm
    exact fin0 E rfl ⟨hj4, ((Tr.refl q' s).step hk t9 (fun t h => h.elim .inl fun h => .inr (Nat.le_of_eq (Eq.symm h))))⟩

end Go.Proofs.YtdkfdmalbbfbmaaGreat

/- All frames of a stream. -/
namespace Go.Proofs.YtdkfdmalbbfbmaaGreat
open Go
set_option maxRecDepth 4000

theorem ok_63 (s : St) {x0 : Int} {x1 : List Int} {w1 : Value} (h1 : Sl kU s w1 x1) :
    Ok Tryz.prog 74 ([.int .i64 x0, w1] : List Value).toArray s fun v s' => Tr No s s' ∧ ∃ b1 b2 w2, v = .func (.func 88) #[] #[.pointer (some ⟨b1, 0, none⟩), .pointer (some ⟨b2, 0, none⟩)] ∧ Stay s' b1 #[.int .i64 x0] ∧ Stay s' b2 #[w2] ∧ Sl kU s' w2 x1 := by
  refine ok_of (n := 6) _ Tryz.func74 rfl _ rfl rfl fun a E => ?_
  refine G_seq ?_
  refine G_region ?_
  obtain ⟨a1, c1, rfl⟩ := h1.isS
  refine sh E (o_box (E.ev rfl)) rfl rfl rfl ?_
  rintro a _ s1 ⟨b1, rfl, o1, t1⟩ E
  refine sh E (o_box (E.ev rfl)) rfl rfl rfl ?_
  rintro a _ s2 ⟨b2, rfl, o2, t2⟩ E
  refine sd E (o_as (E.ev rfl)) rfl rfl rfl fun a E => ?_
  refine GL_nil ?_
  refine tgn ?_
  refine G_seq ?_
  refine G_region ?_
  refine sd E (o_mf (E.evs rfl)) rfl rfl rfl fun a E => ?_
  refine sd E (o_as (E.ev rfl)) rfl rfl rfl fun a E => ?_
  refine GL_nil ?_
  refine tgn ?_
  refine G_ret ?_
  exact fin1 E rfl rfl ⟨t1.trans t2, b1, b2, _, rfl, o1.tr t2, o2, (h1.tr t1).tr t2⟩

/-- A frame behind the others. -/
noncomputable def c34 (st : List Frame × Int) (x : Int × Frame) : Option (List Frame × Int) := ob (ap st.1 [x.2]) fun l => some (l, x.1)
noncomputable def m_34 (x0 : Int) (x1 : List Int) : Option (List Frame × Int) := ob (m_80 c34 x0 x1 ([], 0)) fun r => some r

theorem ok_34 (s : St) (tr : Tg) {x0 : Int} {x1 : List Int} {w1 : Value} (h1 : Sl kU s w1 x1) {r0y : List Frame} {r1y : Int} (hm : m_34 x0 x1 = some (r0y, r1y)) :
    Ok Tryz.prog 55 ([.int .i64 x0, w1] : List Value).toArray s fun v s' => Tr No s s' ∧ ∃ w2, v = .tuple #[w2, .int .i64 r1y] ∧ Bd tr kFr 38 0 s' w2 r0y := by
  unfold m_34 at hm
  obtain ⟨k, hk⟩ := s.fresh
  refine ok_ofD (n := 22) _ Tryz.func55 rfl _ rfl rfl fun a E => ?_
  refine G_seq ?_
  refine G_region ?_
  refine sd E (o_as (E.ev rfl)) rfl rfl rfl fun a E => ?_
  refine sd E (o_as (E.ev rfl)) rfl rfl rfl fun a E => ?_
  refine GL_nil ?_
  refine tgn ?_
  refine G_seq ?_
  refine G_region ?_
  refine sh E (o_al (k, 1) Tryz.zeroValue43) rfl rfl rfl ?_
  rintro a _ s1 ⟨b6, rfl, o1, t1⟩ E
  refine GL_nil ?_
  refine tgn ?_
  refine G_seq ?_
  refine G_region ?_
  refine sh E (o_al (k, 3) Tryz.zeroValue3) rfl rfl rfl ?_
  rintro a _ s2 ⟨b7, rfl, o2, t2⟩ E
  refine shN E (o_st (v := .int .i64 0) Tryz.sizeOf3 o2 (E.ev rfl) (E.ev rfl) (Nat.le_of_ble_eq_true rfl) (by intro u hu; simp [Value.cells] at hu; subst hu; rfl) rfl) rfl rfl ?_
  rintro _ s3 ⟨o3, t3⟩
  refine GL_nil ?_
  refine tgn ?_
  refine G_seq ?_
  refine G_seq ?_
  refine G_region ?_
  refine sd E (o_mv (E.ev rfl)) rfl rfl rfl fun a E => ?_
  refine sd E (o_mv (E.ev rfl)) rfl rfl rfl fun a E => ?_
  refine sh E (o_ok Tryz.call74 (E.evs rfl) (E.ev rfl) (ok_63 s3 (((h1.tr t1).tr t2).tr t3))) rfl rfl rfl ?_
  rintro a _ s4 ⟨t4, p1, p2, w2, rfl, q1, q2, h2⟩ E
  refine GL_nil ?_
  refine tgn ?_
  refine G_block ?_
  obtain ⟨⟨l1, e1⟩, hx2, hm⟩ := ob_some hm
  have T4 : Tr No s s4 := (((Tr.refl No s).stepN t1).stepN t2).step hk t3 (by intro t h; subst h; exact .inr (Nat.le_refl _)) |>.stepN t4
  have o14 : Own (k, 1) s4 b6 #[.slice none 0 0] 43 := ((o1.trN t2).tr t3 (nt_snd rfl)).trN t4
  have o34 : Own (k, 3) s4 b7 #[.int .i64 0] 3 := o3.trN t4
  refine G_range (α := Int × Frame × Value) (E.ev (x := .tmp 12) rfl) Tryz.call88 (k + 1) k (by omega) (fun (st : List Frame × Int) s' => ∃ w, Own (k, 1) s' b6 #[w] 43 ∧ Bd (k, 2) kFr 38 0 s' w st.1 ∧ Own (k, 3) s' b7 #[.int .i64 st.2] 3)
    (fun st x => c34 st (x.1, x.2.1)) (fun x => [.int .i64 x.1, .agg #[.int .i64 x.2.1.Kind, x.2.2]]) (fun x s => Sl kU s x.2.2 x.2.1.Words) (fun x s s' p h t => h.tr t) (Rt k)
    (fun i h => by have h : k + 1 = k := h; omega) ?_ ⟨b6, 1, o14.1⟩ ([], 0) (l1, e1) ⟨_, o14, Bd.nil, o34⟩ (fun _ => rfl) ?_ ?_ ?_
  · rintro k' hk' st s s' ⟨w, h1, h2, h3⟩ t
    exact ⟨w, h1.tr t (nr (Ne.symm hk')), h2.tr t (nr (Ne.symm hk')), h3.tr t (nr (Ne.symm hk'))⟩
  · intro yv J' q' s6 t6 hl hy hj
    exact ok_80 s6 (q1.tr t6) (h2.tr t6) (q2.tr t6) c34 yv J' q' hl (fun st z0 z1 st' s w2 hs hj hc => hy st (z0, z1, w2) st' s hs hj hc) hj hx2
  · rintro l st ⟨z0, z1, w3⟩ st' s6 t6 hpr ⟨w, g1, g2, g3⟩ hc
    have E1 := E.round2 (p := 13) (p' := 14) (v := .int .i64 z0) (v' := .agg #[.int .i64 z1.Kind, w3]) rfl rfl
    have hpr : Sl kU s6 w3 z1.Words := hpr
    obtain ⟨a3, c3, rfl⟩ := hpr.isS
    refine G_seq ?_
    refine G_region ?_
    refine sd E1 (o_as (E1.ev rfl)) rfl rfl rfl fun a E => ?_
    refine GL_nil ?_
    refine tgn ?_
    refine G_region ?_
    refine sh E (o_al (k, 4) Tryz.zeroValue38) rfl rfl rfl ?_
    rintro a _ s7 ⟨b9, rfl, o9, t7⟩ E
    refine shN E (o_st (v := .agg #[.int .i64 z1.Kind, .slice a3 z1.Words.length c3]) Tryz.sizeOf38 o9 (E.ev rfl) (E.ev rfl) (Nat.le_of_ble_eq_true rfl) (by intro u hu; simp [Value.cells] at hu; (try rcases hu with hu | hu) <;> subst hu <;> rfl) rfl) rfl rfl ?_
    rintro _ s8 ⟨o10, t8⟩
    refine GL_nil ?_
    refine ctn ?_
    refine ⟨s8, rfl, t7.no.trans (t8.mono (by intro t h; subst h; rfl)), fun s9 t9 => ?_⟩
    have hkk : k ≠ k + 1 := by omega
    have g1 := ((g1.trN t7).tr t8 (nt_snd rfl)).tr t9 (nr hkk)
    have g2 := ((g2.trN t7).tr t8 (nt_snd rfl)).tr t9 (nr hkk)
    have g3 := ((g3.trN t7).tr t8 (nt_snd rfl)).tr t9 (nr hkk)
    have o10 := o10.tr t9 (nr hkk)
    have hpr := ((hpr.tr t7).tr t8).tr t9
    obtain ⟨l2, hl2, hc⟩ := ob_some hc
    obtain rfl := Option.some.inj hc
    obtain ⟨hlen, hap⟩ := ap_some hl2
    refine G_block ?_
    refine G_region ?_
    refine sd E (o_ld Tryz.isAgg43 (E.ev rfl) ((g1.cell _).trans rfl)) rfl rfl rfl fun a E => ?_
    refine sd E (o_ldc (cs := #[.int .i64 z1.Kind, .slice a3 z1.Words.length c3]) Tryz.isAgg38 Tryz.sizeOf38 (E.ev rfl) o10.cell) rfl rfl rfl fun a E => ?_
    refine sh E (o_bs Tryz.underlying43 Tryz.sizeOf38 Tryz.zeroValue38 (qs := #[(0, .agg #[.int .i64 z1.Kind, .slice a3 z1.Words.length c3])]) (cells := #[.int .i64 z1.Kind, .slice a3 z1.Words.length c3]) (by simp only [List.map_toArray, List.map_cons, List.map_nil, E.ev (x := .tmp 16) rfl]) rfl rfl (by kernel_rfl)) rfl rfl rfl ?_
    rintro a _ s10 ⟨b11, rfl, o11, t10⟩ E
    have h11 := o11.sl (K := kFr) (xs := [z1]) ⟨_, _, rfl, ⟨_, rfl, hpr.tr t10⟩, rfl⟩ rfl
    refine sh E (o_app Tryz.underlying43 Tryz.type38 rfl rfl rfl rfl rfl rfl (g2.trN t10) h11.rd (E.ev rfl) (E.ev rfl) hlen (Nat.zero_le _)) rfl rfl rfl ?_
    rintro a w5 s11 ⟨h12, t11⟩ E
    refine sd E (o_mv (E.ev rfl)) rfl rfl rfl fun a E => ?_
    rw [hap] at h12
    obtain ⟨a5, c5, rfl⟩ := h12.isS
    refine shN E (o_st (v := .slice a5 l2.length c5) Tryz.sizeOf43 ((g1.trN t10).tr t11 (nt_snd rfl)) (E.ev rfl) (E.ev rfl) (Nat.le_of_ble_eq_true rfl) (by intro u hu; simp [Value.cells] at hu; subst hu; rfl) rfl) rfl rfl ?_
    rintro _ s12 ⟨o12, t12⟩
    refine shN E (o_st (v := .int .i64 z0) Tryz.sizeOf3 (((g3.trN t10).tr t11 (nt_snd rfl)).tr t12 (nt_snd rfl)) (E.ev rfl) (E.ev rfl) (Nat.le_of_ble_eq_true rfl) (by intro u hu; simp [Value.cells] at hu; subst hu; rfl) rfl) rfl rfl ?_
    rintro _ s13 ⟨o13, t13⟩
    refine GL_nil ?_
    refine ebn ?_
    exact ⟨rfl, s13, rfl, ⟨_, o12.tr t13 (nt_snd rfl), (h12.tr t12 (nt_snd rfl)).tr t13 (nt_snd rfl), o13⟩,
      ((t10.no.trans (t11.mono (by intro t h; subst h; rfl))).trans (t12.mono (by intro t h; subst h; rfl))).trans (t13.mono (by intro t h; subst h; rfl))⟩
  · rintro D' s6 ⟨w, g1, g2, g3⟩ t6 hD
    have E : En [{ target := .collected D', args := #[] }] 22 { a with defers := { target := .collected D', args := #[] } :: a.defers } _ := ⟨E.size, by simp [E.defs], E.get⟩
    refine ebn ?_
    refine tgn ?_
    refine G_seq ?_
    refine G_drw k (by rfl) [0, 1, 2, 3] (by kernel_rfl) ?_
    intro s7 t7
    have g1 := g1.trN t7
    have g2 := g2.trN t7
    have g3 := g3.trN t7
    refine dr E rfl (fun s' t => o_ld Tryz.isAgg43 (E.ev rfl) (((g1.trN t).cell _).trans rfl)) rfl rfl rfl rfl fun a E => ?_
    refine dr E rfl (fun s' t => o_ld Tryz.isAgg3 (E.ev rfl) (((g3.trN t).cell _).trans rfl)) rfl rfl rfl rfl fun a E => ?_
    refine dp E rfl (fun w => o_as (E.ev rfl)) rfl rfl rfl fun a E => ?_
    refine dp E rfl (fun w => o_as (E.ev rfl)) rfl rfl rfl fun a E => ?_
    refine gd_nil ?_
    refine tgn ?_
    refine G_ret ?_
    cases hm
    have T6 : Tr No s s7 := (T4.step hk t6 (fun t h => .inr (h.elim (fun h => Nat.le_of_eq (Eq.symm h)) (fun h => by rw [show t.1 = k + 1 from h]; omega)))).stepN t7
    refine finD E (hD.trN t7) fun s' t => ?_
    have hkk : k ≠ k + 1 := by omega
    obtain ⟨s8, e8, g4, t8⟩ := (g2.tr t (nt_fst hkk)).rt tr
    exact ⟨_, s8, e8, res2 E rfl rfl rfl, (T6.step hk t (by intro t h; subst h; exact .inr (Nat.le_succ _))).step hk t8 (by intro t h; subst h; exact .inr (Nat.le_refl _)), _, rfl, g4⟩
end Go.Proofs.YtdkfdmalbbfbmaaGreat

/- Copies; what a log is; its plain functions. -/
namespace Go.Proofs.YtdkfdmalbbfbmaaGreat
open Go Go.Maps
set_option maxRecDepth 4000

section
variable {P : Program} {s : St} {κ : Tg} {ρ : Operand → Value} {d : Option Nat} {g : Option (Nat × Bool)} {t : Nat} {pos : String} {af : Array Edge} {x y : Operand} {T T' e b m : Nat} {k : IntKind} {u : Value} {xs ys : List Int}
/-- A copy over an array of one's own, from its head on. -/
theorem o_cpy (hT : P.underlying T = some (.slice e)) (hi : (P.info? e).map (·.size) = some 1) (ho : Own κ s b (cA k xs) T') (hl : xs.length = m) (hu : Rd (kInt k) s u ys) (hx : ρ x = .slice (some ⟨b, 0, none⟩) m m) (hy : ρ y = u) :
    Hv P ⟨d, .call ⟨.builtin .copy, #[x, y], #[T, T]⟩, t, pos, af, g⟩ ρ s fun v s' => v = .int .i64 (min ys.length m : Nat) ∧ Own κ s' b (cA k (cpy xs 0 ys)) T' ∧ Tr (· = κ) s s' := by
  obtain ⟨a, c, cs, rfl, hcap, he, hn, hs⟩ := hu
  have hcs := he.ints_eq
  subst hcs
  have run1 : ∀ v w', (Builtin.copy_ #[T, T] t #[.slice (some ⟨b, 0, none⟩) m m, .slice a ys.length c]).run P s.w = .ok v w' →
      (execOp ρ ⟨d, .call ⟨.builtin .copy, #[x, y], #[T, T]⟩, t, pos, af, g⟩).run P s.w = .ok (.value v) w' := by
    intro v w' hr
    simp only [execOp, resolve, Sem.run_bind, Sem.run_pure, Result.andThen, invoke, builtin]
    simp [hx, hy, hr, Sem.run_bind, Result.andThen]
  cases a with
  | none =>
    obtain ⟨rfl, rfl⟩ := hn rfl
    have hr := run_copy_nil (P := P) s.w T T t e ⟨b, 0, none⟩ m m hT (by rw [hi]; rfl)
    refine hvo s (OpTo_value (by intro c h; cases h) (run1 _ _ hr)) ⟨by simp [goInt], by simpa [cpy] using ho, Tr.refl _ _⟩
  | some a =>
    have hc2 := (hs a rfl).2
    have hsrc : ∀ j v, ((ys.take m).map (Value.int k))[j]? = some v → s.w.cell? (a.add j) = some v := fun j v hv => hc2 j v (by
      rw [List.getElem?_map, List.getElem?_take] at hv
      split at hv
      · rw [List.getElem?_map]; exact hv
      · simp at hv)
    have hlen : ((ys.take m).map (Value.int k)).length = min ys.length m := by simp [Nat.min_comm]
    have hr := run_copy_row (P := P) s.w T T t e b 0 m m a ys.length c (cA k xs) T' ((ys.take m).map (Value.int k)) hT hi ho.2 hlen hsrc (by rw [hlen, cA_size, hl]; omega) (by intro v hv; obtain ⟨q, _, rfl⟩ := List.mem_map.1 hv; rfl)
    rw [hlen] at hr
    have hcells : ((cA k xs).toList.take 0 ++ (ys.take m).map (Value.int k) ++ (cA k xs).toList.drop (0 + min ys.length m)).toArray = cA k (cpy xs 0 ys) := by
      unfold cA cpy
      simp [hl]
    rw [hcells] at hr
    exact hvo (s.row b (cA k (cpy xs 0 ys))) (OpTo_value (by intro c h; cases h) (run1 _ _ hr)) ⟨rfl, ho.row _, Tr.row ho.1 _⟩
end

structure LogM where
  from_ : Int
  sectors : Int
  epoch : Int
  words : List Int
  frames : List Frame
/-- At b lies k's log, on the device at bd. -/
def LogAt (k bd : Nat) (s : St) (b : Nat) (L : LogM) : Prop := ∃ wv fv, Own (k, 0) s b #[.pointer (some ⟨bd, 0, none⟩), .int .i64 L.from_, .int .i64 L.sectors, .int .i64 L.epoch, wv, fv] 112 ∧
  Ap (k, 1) kU 39 0 s wv L.words ∧ Bd (k, 2) kFr 38 0 s fv L.frames
theorem LogAt.tr {k bd : Nat} {s s' : St} {b : Nat} {L : LogM} {p : Tg → Prop} (h : LogAt k bd s b L) (t : Tr p s s') (hp : ∀ i, ¬ p (k, i)) : LogAt k bd s' b L := by
  obtain ⟨wv, fv, h1, h2, h3⟩ := h
  exact ⟨wv, fv, h1.tr t (hp 0), h2.tr t (hp 1), h3.tr t (hp 2)⟩
theorem LogAt.trN {k bd : Nat} {s s' : St} {b : Nat} {L : LogM} (h : LogAt k bd s b L) (t : Tr No s s') : LogAt k bd s' b L := h.tr t fun _ h => h
theorem LogAt.tag {k bd : Nat} {s : St} {b : Nat} {L : LogM} (h : LogAt k bd s b L) : s.tag b = some (k, 0) := let ⟨_, _, h1, _⟩ := h; h1.1

theorem ok_13 (s : St) {k bd b : Nat} {L : LogM} (hd : LogAt k bd s b L) :
    Ok Tryz.prog 49 ([.pointer (some ⟨b, 0, none⟩)] : List Value).toArray s fun v s' => Tr No s s' ∧ v = .int .i64 (IntKind.wrap .i64 (IntKind.wrap .i64 (L.sectors * 8) - (L.words.length : Int))) := by
  obtain ⟨wv, fv, h1, h2, h3⟩ := hd
  refine ok_of (n := 16) _ Tryz.func49 rfl _ rfl rfl fun a E => ?_
  refine G_seq ?_
  refine G_region ?_
  refine sd E (o_as (E.ev rfl)) rfl rfl rfl fun a E => ?_
  refine GL_nil ?_
  refine tgn ?_
  refine G_seq ?_
  refine G_seq ?_
  refine G_region ?_
  refine sd E (o_mv (E.ev rfl)) rfl rfl rfl fun a E => ?_
  refine sd E (o_eqp Tryz.underlying66 (E.ev rfl) (E.ev rfl)) rfl rfl rfl fun a E => ?_
  refine GL_nil ?_
  refine tgn ?_
  refine G_cond (t := false) (E.ev rfl) nofun (fun _ => ?_)
  refine G_skip ?_
  refine tgn ?_
  refine G_seq ?_
  refine G_drw k (by rfl) [0, 1, 2, 3, 4, 5, 6, 7, 8, 9, 10, 11] (by kernel_rfl) ?_
  intro s1 t1
  have h1 := h1.trN t1
  have h2 := h2.trN t1
  refine dp E rfl (fun w => o_mv (E.ev rfl)) rfl rfl rfl fun a E => ?_
  refine dp E rfl (fun w => o_nc (E.ev rfl)) rfl rfl rfl fun a E => ?_
  refine dp E rfl (fun w => o_fa Tryz.underlying112 rfl Tryz.sizeOf3 (E.ev rfl)) rfl rfl rfl fun a E => ?_
  refine dr E rfl (fun s' t => o_ld Tryz.isAgg3 (E.ev rfl) (((h1.trN t).cell _).trans rfl)) rfl rfl rfl rfl fun a E => ?_
  refine dp E rfl (fun w => o_bi (E.ev rfl) (E.ev rfl) rfl) rfl rfl rfl fun a E => ?_
  refine dp E rfl (fun w => o_mv (E.ev rfl)) rfl rfl rfl fun a E => ?_
  refine dp E rfl (fun w => o_nc (E.ev rfl)) rfl rfl rfl fun a E => ?_
  refine dp E rfl (fun w => o_fa Tryz.underlying112 rfl Tryz.sizeOf36 (E.ev rfl)) rfl rfl rfl fun a E => ?_
  refine dr E rfl (fun s' t => o_ld Tryz.isAgg36 (E.ev rfl) (((h1.trN t).cell _).trans rfl)) rfl rfl rfl rfl fun a E => ?_
  refine dp E rfl (fun w => o_lenS (xs := L.words) Tryz.underlying36 (E.ev rfl) h2.isS) rfl rfl rfl fun a E => ?_
  refine dp E rfl (fun w => o_bi (E.ev rfl) (E.ev rfl) rfl) rfl rfl rfl fun a E => ?_
  refine dp E rfl (fun w => o_as (E.ev rfl)) rfl rfl rfl fun a E => ?_
  refine gd_nil ?_
  refine tgn ?_
  refine G_ret ?_
  exact fin1 E rfl rfl ⟨t1, rfl⟩

end Go.Proofs.YtdkfdmalbbfbmaaGreat

/- A sector of a log. -/
namespace Go.Proofs.YtdkfdmalbbfbmaaGreat
open Go Go.Maps
set_option maxRecDepth 4000

noncomputable def m_64 (L : LogM) (i : Int) : Option Sec :=
  bif decide (IntKind.wrap .i64 (i * 8) < (L.words.length : Int)) then ob (sl L.words (IntKind.wrap .i64 (i * 8)) L.words.length) fun ys => some (cpy Z8 0 ys) else some Z8
theorem ok_64 (s : St) {k bd b : Nat} {L : LogM} (hd : LogAt k bd s b L) {i : Int} {xs : Sec} (hm : m_64 L i = some xs) :
    Ok Tryz.prog 85 ([.pointer (some ⟨b, 0, none⟩), .int .i64 i] : List Value).toArray s fun v s' => Tr No s s' ∧ v = eA .u64 xs ∧ xs.length = 8 := by
  unfold m_64 at hm
  obtain ⟨κ, hk⟩ := s.fresh
  have hkk : k < κ := hk _ _ hd.tag
  obtain ⟨wv, fv, h1, h2, h3⟩ := hd
  refine ok_of (n := 25) _ Tryz.func85 rfl _ rfl rfl fun a E => ?_
  refine G_seq ?_
  refine G_region ?_
  refine sh E (o_ala (κ, 1) .u64 8 Tryz.zeroValue40 rfl) rfl rfl rfl ?_
  rintro a _ s1 ⟨b1, rfl, o1, t1⟩ E
  refine GL_nil ?_
  refine tgn ?_
  refine G_seq ?_
  refine G_region ?_
  refine sh E (o_ala (κ, 2) .u64 8 Tryz.zeroValue40 rfl) rfl rfl rfl ?_
  rintro a _ s2 ⟨b2, rfl, o2, t2⟩ E
  have o1 := o1.trN t2
  have h1 := (h1.trN t1).trN t2
  have h2 := (h2.trN t1).trN t2
  refine GL_nil ?_
  refine tgn ?_
  refine G_seq ?_
  refine G_seq ?_
  refine G_region ?_
  refine sd E (o_mv (E.ev rfl)) rfl rfl rfl fun a E => ?_
  refine sd E (o_bi (E.ev rfl) (E.ev rfl) rfl) rfl rfl rfl fun a E => ?_
  refine sd E (o_as (E.ev rfl)) rfl rfl rfl fun a E => ?_
  refine GL_nil ?_
  refine tgn ?_
  refine G_seq ?_
  refine G_region ?_
  refine sd E (o_mv (E.ev rfl)) rfl rfl rfl fun a E => ?_
  refine sd E (o_mv (E.ev rfl)) rfl rfl rfl fun a E => ?_
  refine sd E (o_nc (E.ev rfl)) rfl rfl rfl fun a E => ?_
  refine sd E (o_fa Tryz.underlying112 rfl Tryz.sizeOf36 (E.ev rfl)) rfl rfl rfl fun a E => ?_
  refine sd E (o_ld Tryz.isAgg36 (E.ev rfl) ((h1.cell _).trans rfl)) rfl rfl rfl fun a E => ?_
  refine sd E (o_lenS (xs := L.words) Tryz.underlying36 (E.ev rfl) h2.isS) rfl rfl rfl fun a E => ?_
  refine sd E (o_bi (E.ev rfl) (E.ev rfl) rfl) rfl rfl rfl fun a E => ?_
  refine GL_nil ?_
  refine tgn ?_
  have T2 : Tr No s s2 := t1.trans t2
  refine G_cond (E.ev rfl) (fun ht => ?_) (fun ht => ?_)
  · have hm := cT ht hm
    obtain ⟨ys, hy, hm⟩ := ob_some hm
    obtain rfl := Option.some.inj hm
    refine G_drw κ (by rfl) [0, 1, 2, 3, 4, 5, 6, 7] (by kernel_rfl) ?_
    intro s3 t3
    have o1 := o1.trN t3
    have o2 := o2.trN t3
    have h1 := h1.trN t3
    have h2 := h2.trN t3
    obtain ⟨u, hu, hur⟩ := h2.rd.from hy Tryz.sizeOf39 Tryz.underlying36
    refine dp E rfl (fun w => o_slS' Tryz.underlying40 Tryz.sizeOf39 (E.ev rfl)) rfl rfl rfl fun a E => ?_
    refine dp E rfl (fun w => o_mv (E.ev rfl)) rfl rfl rfl fun a E => ?_
    refine dp E rfl (fun w => o_nc (E.ev rfl)) rfl rfl rfl fun a E => ?_
    refine dp E rfl (fun w => o_fa Tryz.underlying112 rfl Tryz.sizeOf36 (E.ev rfl)) rfl rfl rfl fun a E => ?_
    refine dr E rfl (fun s' t => o_ld Tryz.isAgg36 (E.ev rfl) (((h1.trN t).cell _).trans rfl)) rfl rfl rfl rfl fun a E => ?_
    refine dp E rfl (fun w => o_mv (E.ev rfl)) rfl rfl rfl fun a E => ?_
    refine dp E rfl (fun w => hu w _ _ _ _ _ _ _ _ (E.ev rfl) (E.ev rfl)) rfl rfl rfl fun a E => ?_
    refine dl E rfl (o_cpy Tryz.underlying36 rfl o2 (List.length_replicate ..) hur (E.ev rfl) (E.ev rfl)) rfl rfl rfl rfl ?_
    rintro a _ s4 ⟨rfl, o3, t4⟩ E
    have o1 := o1.tr t4 (nt_snd rfl)
    have hl : (cpy Z8 0 ys).length = 8 := cpy_len (Nat.zero_le _)
    refine gd_nil ?_
    refine tgn ?_
    refine G_seq ?_
    refine G_region ?_
    refine sd E (o_ldA Tryz.isAgg40 Tryz.sizeOf40 (E.ev rfl) hl o3.cell) rfl rfl rfl fun a E => ?_
    refine shN E (o_stA Tryz.sizeOf40 o1 (E.ev rfl) (E.ev rfl) (List.length_replicate ..) hl) rfl rfl ?_
    rintro _ s5 ⟨o5, t5⟩
    refine GL_nil ?_
    refine tgn ?_
    refine G_ret ?_
    exact fin1 E rfl (rv_cellA rfl Tryz.isAgg40 Tryz.sizeOf40 hl o5.cell) ⟨((T2.stepN t3).step hk t4 (by intro t h; subst h; exact .inr (Nat.le_refl _))).step hk t5 (by intro t h; subst h; exact .inr (Nat.le_refl _)), rfl, hl⟩
  · have hm := cF ht hm
    obtain rfl := Option.some.inj hm
    refine G_skip ?_
    refine tgn ?_
    refine G_seq ?_
    refine G_region ?_
    refine sd E (o_ldA Tryz.isAgg40 Tryz.sizeOf40 (E.ev rfl) (List.length_replicate ..) o2.cell) rfl rfl rfl fun a E => ?_
    refine shN E (o_stA Tryz.sizeOf40 o1 (E.ev rfl) (E.ev rfl) (List.length_replicate ..) (List.length_replicate ..)) rfl rfl ?_
    rintro _ s5 ⟨o5, t5⟩
    refine GL_nil ?_
    refine tgn ?_
    refine G_ret ?_
    exact fin1 E rfl (rv_cellA rfl Tryz.isAgg40 Tryz.sizeOf40 (List.length_replicate ..) o5.cell) ⟨T2.step hk t5 (by intro t h; subst h; exact .inr (Nat.le_refl _)), rfl, rfl⟩
end Go.Proofs.YtdkfdmalbbfbmaaGreat

/- The sectors of a log are written. -/
namespace Go.Proofs.YtdkfdmalbbfbmaaGreat
open Go Go.Maps
set_option maxRecDepth 4000

noncomputable def m_40b (L : LogM) (last : Int) : Int × Disk → Option (Lo (Int × Disk) Disk) := fun (i, D) =>
  bif decide (i ≤ last) then ob (m_64 L i) fun xs => ob (m_60 D (IntKind.wrap .i64 (L.from_ + i)) xs) fun (D', _) => some (.inl (IntKind.wrap .i64 (i + 1), D')) else some (.inr D)
noncomputable def m_40 (L : LogM) (D : Disk) (at_ : Int) : Option Disk :=
  loopO (m_40b L (IntKind.wrap .i64 (Int.tdiv (IntKind.wrap .i64 ((L.words.length : Int) - 1)) 8))) (IntKind.wrap .i64 (Int.tdiv at_ 8), D)
theorem ok_40 (s : St) {k kd bd b : Nat} {L : LogM} {D D' : Disk} (hne : k ≠ kd) (hd : LogAt k bd s b L) (hD : DiskAt kd s bd D) {at_ : Int} (hm : m_40 L D at_ = some D') :
    Ok Tryz.prog 70 ([.pointer (some ⟨b, 0, none⟩), .int .i64 at_] : List Value).toArray s fun _ s' => LogAt k bd s' b L ∧ DiskAt kd s' bd D' ∧ Tr (Rt kd) s s' := by
  unfold m_40 at hm
  refine ok_of (n := 36) _ Tryz.func70 rfl _ rfl rfl fun a E => ?_
  refine G_seq ?_
  refine G_drw k (by rfl) [0, 1, 2, 3, 4, 5, 6, 7, 8, 9, 10] (by kernel_rfl) ?_
  intro s1 t1
  have hd := hd.trN t1
  have hD := hD.trN t1
  obtain ⟨wv, fv, h1, h2, h3⟩ := hd
  refine dp E rfl (fun w => o_mv (E.ev rfl)) rfl rfl rfl fun a E => ?_
  refine dp E rfl (fun w => o_quo (E.ev rfl) (E.ev rfl) rfl) rfl rfl rfl fun a E => ?_
  refine dp E rfl (fun w => o_mv (E.ev rfl)) rfl rfl rfl fun a E => ?_
  refine dp E rfl (fun w => o_nc (E.ev rfl)) rfl rfl rfl fun a E => ?_
  refine dp E rfl (fun w => o_fa Tryz.underlying112 rfl Tryz.sizeOf36 (E.ev rfl)) rfl rfl rfl fun a E => ?_
  refine dr E rfl (fun s' t => o_ld Tryz.isAgg36 (E.ev rfl) (((h1.trN t).cell _).trans rfl)) rfl rfl rfl rfl fun a E => ?_
  refine dp E rfl (fun w => o_lenS (xs := L.words) Tryz.underlying36 (E.ev rfl) h2.isS) rfl rfl rfl fun a E => ?_
  refine dp E rfl (fun w => o_bi (E.ev rfl) (E.ev rfl) rfl) rfl rfl rfl fun a E => ?_
  refine dp E rfl (fun w => o_quo (E.ev rfl) (E.ev rfl) rfl) rfl rfl rfl fun a E => ?_
  refine dp E rfl (fun w => o_as (E.ev rfl)) rfl rfl rfl fun a E => ?_
  refine dp E rfl (fun w => o_as (E.ev rfl)) rfl rfl rfl fun a E => ?_
  refine gd_nil ?_
  refine tgn ?_
  refine G_seq ?_
  refine G_region ?_
  refine sd E (o_mv (E.ev rfl)) rfl rfl rfl fun a E => ?_
  refine sd E (o_as (E.ev rfl)) rfl rfl rfl fun a E => ?_
  refine GL_nil ?_
  refine tgn ?_
  refine G_block ?_
  refine G_lp hm (fun st a' w' => ∃ i D s', st = (i, D) ∧ w' = s'.w ∧ Tr (Rt kd) s1 s' ∧ DiskAt kd s' bd D ∧ En [] 36 a' [(0, .pointer (some ⟨b, 0, none⟩)), (5, .int .i64 (IntKind.wrap .i64 (Int.tdiv (IntKind.wrap .i64 ((L.words.length : Int) - 1)) 8))), (6, .int .i64 i)])
    ⟨_, _, _, rfl, rfl, Tr.refl _ _, hD, (((E.nil.ad E rfl rfl).ad E rfl rfl).ad E rfl rfl)⟩ ?_
  rintro _ a _ x ⟨i, D2, s2, rfl, rfl, t2, hD, E⟩ hf
  dsimp only [m_40b] at hf
  have h1 := h1.tr t2 (nr hne)
  have h2 := h2.tr t2 (nr hne)
  have h3 := h3.tr t2 (nr hne)
  refine G_seq ?_
  refine G_seq ?_
  refine G_region ?_
  refine sd E (o_mv (E.ev rfl)) rfl rfl rfl fun a E => ?_
  refine sd E (o_mv (E.ev rfl)) rfl rfl rfl fun a E => ?_
  refine sd E (o_bi (E.ev rfl) (E.ev rfl) rfl) rfl rfl rfl fun a E => ?_
  refine GL_nil ?_
  refine tgn ?_
  refine G_cond (E.ev rfl) (fun ht => ?_) (fun ht => ?_)
  · have hf := cT ht hf
    obtain ⟨xs, hx, hf⟩ := ob_some hf
    obtain ⟨⟨D3, e⟩, hw, hf⟩ := ob_some hf
    obtain rfl := Option.some.inj hf
    refine G_skip ?_
    refine tgn ?_
    refine G_seq ?_
    refine G_block ?_
    refine G_drw k (by rfl) [0, 1, 2, 3, 4, 5, 6, 7, 8, 9, 10, 11, 12, 13] (by kernel_rfl) ?_
    intro s3 t3
    have h1 := h1.trN t3
    have h2 := h2.trN t3
    have h3 := h3.trN t3
    have hD := hD.trN t3
    refine dp E rfl (fun w => o_mv (E.ev rfl)) rfl rfl rfl fun a E => ?_
    refine dp E rfl (fun w => o_nc (E.ev rfl)) rfl rfl rfl fun a E => ?_
    refine dp E rfl (fun w => o_fa Tryz.underlying112 rfl Tryz.sizeOf25 (E.ev rfl)) rfl rfl rfl fun a E => ?_
    refine dr E rfl (fun s' t => o_ld Tryz.isAgg25 (E.ev rfl) (((h1.trN t).cell _).trans rfl)) rfl rfl rfl rfl fun a E => ?_
    refine dp E rfl (fun w => o_mv (E.ev rfl)) rfl rfl rfl fun a E => ?_
    refine dp E rfl (fun w => o_nc (E.ev rfl)) rfl rfl rfl fun a E => ?_
    refine dp E rfl (fun w => o_fa Tryz.underlying112 rfl Tryz.sizeOf3 (E.ev rfl)) rfl rfl rfl fun a E => ?_
    refine dr E rfl (fun s' t => o_ld Tryz.isAgg3 (E.ev rfl) (((h1.trN t).cell _).trans rfl)) rfl rfl rfl rfl fun a E => ?_
    refine dp E rfl (fun w => o_mv (E.ev rfl)) rfl rfl rfl fun a E => ?_
    refine dp E rfl (fun w => o_bi (E.ev rfl) (E.ev rfl) rfl) rfl rfl rfl fun a E => ?_
    refine dp E rfl (fun w => o_mv (E.ev rfl)) rfl rfl rfl fun a E => ?_
    refine dp E rfl (fun w => o_mv (E.ev rfl)) rfl rfl rfl fun a E => ?_
    refine dh E rfl (o_ok Tryz.call85 (E.evs rfl) (E.ev rfl) (ok_64 s3 ⟨wv, fv, h1, h2, h3⟩ hx)) (fun _ _ h => h.1) rfl rfl rfl rfl ?_
    rintro a _ s4 ⟨t4, rfl, hl8⟩ E
    have hD := hD.trN t4
    refine dl E rfl (o_ok Tryz.call36 (E.evs rfl) (E.ev rfl) (ok_60 s4 hD hl8 hw)) rfl rfl rfl rfl ?_
    rintro a _ s5 ⟨hD, t5, rfl⟩ E
    refine gd_nil ?_
    refine ebn ?_
    refine tgn ?_
    refine G_region ?_
    refine sd E (o_mv (E.ev rfl)) rfl rfl rfl fun a E => ?_
    refine sd E (o_bi (E.ev rfl) (E.ev rfl) rfl) rfl rfl rfl fun a E => ?_
    refine sd E (o_as (E.ev rfl)) rfl rfl rfl fun a E => ?_
    refine GL_nil ?_
    exact lpn ⟨_, _, s5, rfl, rfl, ((t2.trans t3.no).trans t4.no).trans t5, hD, (((E.nil.ad E rfl rfl).ad E rfl rfl).ad E rfl rfl)⟩
  · have hf := cF ht hf
    obtain rfl := Option.some.inj hf
    refine G_exit ?_
    refine tge ?_
    refine lpe fun hr => ?_
    cases hr
    refine ebk ?_
    exact fin0 E rfl ⟨⟨wv, fv, h1, h2, h3⟩, hD, t1.no.trans t2⟩
end Go.Proofs.YtdkfdmalbbfbmaaGreat
