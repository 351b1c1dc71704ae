/- Models and walks, printed by a program of ours. -/
import Derived.Test.YtdkfdmalbbfbmaaGreatMWL22
/- Models and walks, printed by a program of ours. -/
namespace Go.Proofs.YtdkfdmalbbfbmaaGreat
open Go Go.Maps
set_option maxRecDepth 4000
set_option maxHeartbeats 1000000
-- gimmal/frames.Stream$1

noncomputable def m_76 (x0 : Frame) : Option Bool :=
  ob (m_36 x0) fun y1 => some (!y1)
theorem ok_76 (s : St) {x0 : Frame} {w1 : Value} (h1 : Sl kU s w1 x0.Words) {r0y : Bool} (hm : m_76 x0 = some r0y) :
    Ok Tryz.prog 60 ([.agg #[.int .i64 x0.Kind, w1]] : List Value).toArray s fun v s' => Tr No s s' ∧ v = .bool r0y := by
  unfold m_76 at hm
  obtain ⟨κ, hκ⟩ := s.fresh
  refine ok_of (n := 6) _ Tryz.func60 rfl _ rfl rfl fun a E => ?_
  refine G_seq ?_
  refine G_region ?_
  obtain ⟨a1, c1, rfl⟩ := h1.isS
  refine sh E (o_box (E.ev rfl)) rfl rfl rfl ?_
  rintro a _ s1 ⟨b1, rfl, o1, t1⟩ E
  refine sd E (o_as (E.ev rfl)) rfl rfl rfl fun a E => ?_
  refine GL_nil ?_
  refine tgn ?_
  refine G_seq ?_
  refine G_region ?_
  refine sd E (o_ldc (cs := #[.int .i64 x0.Kind, (.slice a1 x0.Words.length c1)]) Tryz.isAgg38 Tryz.sizeOf38 (E.ev rfl) o1.cell) rfl rfl rfl fun a E => ?_
  have f1 := h1.tr t1
  obtain ⟨y1, hx1, hm⟩ := ob_some hm
  refine sh E (o_ok Tryz.call61 (E.evs rfl) (E.ev rfl) (ok_36 _ (x0 := x0) f1 hx1)) rfl rfl rfl ?_
  rintro a _ s2 ⟨t2, rfl⟩ E
  refine sd E (o_not (E.ev rfl)) rfl rfl rfl fun a E => ?_
  refine sd E (o_as (E.ev rfl)) rfl rfl rfl fun a E => ?_
  refine GL_nil ?_
  refine tgn ?_
  refine G_ret ?_
  cases hm
  have T1 : Tr (Fz κ []) s s2 := (t1.no.trans t2.no)
  exact fin1 E rfl rfl ⟨(Tr.fin0 hκ T1), rfl⟩

-- slices.IndexFunc[[]gimmal/api.Frame,gimmal/api.Frame]
noncomputable def m_88_1b (x0 : List Frame) : (Int × Int) → Option (Lo (Int × Int) (Sum (Int × Int) Int)) := fun (x5, x6) => bif decide (x6 < (x0.length : Int)) then (ob (gt x0 x6) fun x7 => ob (m_76 x7) fun y1 => bif y1 then (some (.inr (.inr x6))) else (some (.inl (x5, IntKind.wrap .i64 (x6 + 1))))) else (some (.inr (.inl (x5, x6))))
noncomputable def m_88_1k : Sum (Int × Int) Int → Option Int
  | .inl (x8, x9) => some (-1)
  | .inr y => some y
noncomputable def m_88 (x0 : List Frame) : Option Int :=
  ob (loopO (m_88_1b x0) (0, 0)) (m_88_1k)
theorem ok_88 (s : St) {x0 : List Frame} {w1 : Value} (h1 : Sl kFr s w1 x0) {r0y : Int} (hm : m_88 x0 = some r0y) :
    Ok Tryz.prog 79 ([w1, .func (.func 60) #[] #[]] : List Value).toArray s fun v s' => Tr No s s' ∧ v = .int .i64 r0y := by
  unfold m_88 at hm
  obtain ⟨κ, hκ⟩ := s.fresh
  refine ok_of (n := 19) _ Tryz.func79 rfl _ rfl rfl fun a E => ?_
  refine G_seq ?_
  refine G_region ?_
  refine sd E (o_as (E.ev rfl)) rfl rfl rfl fun a E => ?_
  refine GL_nil ?_
  refine tgn ?_
  refine G_seq ?_
  refine G_seq ?_
  refine G_region ?_
  refine sd E (o_mv (E.ev rfl)) rfl rfl rfl fun a E => ?_
  refine sd E (o_lenS (xs := x0) Tryz.underlying43 (E.ev rfl) h1.isS) rfl rfl rfl fun a E => ?_
  refine sd E (o_mv (E.ev rfl)) rfl rfl rfl fun a E => ?_
  refine GL_nil ?_
  refine tgn ?_
  obtain ⟨r1, hl1, hm⟩ := ob_some hm
  refine G_mid1 (fun a' w' => ∃ x3 x4 s', m_88_1k (.inl (x3, x4)) = some r0y ∧ w' = s'.w ∧ Tr (Fz κ []) s s' ∧ En [] 19 a' [(4, .int .i64 x3), (8, .int .i64 x4), (0, w1), (1, .func (.func 60) #[] #[]), (7, .int .i64 (x0.length : Int))]) ?_ ?_
  · refine G_block ?_
    refine G_lp hl1 (fun st a' w' => ∃ x3 x4 s', st = (x3, x4) ∧ w' = s'.w ∧ Tr (Fz κ []) s s' ∧ En [] 19 a' [(4, .int .i64 x3), (8, .int .i64 x4), (0, w1), (1, .func (.func 60) #[] #[]), (7, .int .i64 (x0.length : Int))]) ⟨_, _, _, rfl, rfl, (Tr.refl _ _), (((((E.nil.ad E rfl rfl).ad E rfl rfl).ad E rfl rfl).ad E rfl rfl).ad E rfl rfl)⟩ ?_
    rintro _ a _ x ⟨x5, x6, s1, rfl, rfl, t1, E⟩ hf1
    dsimp only [m_88_1b] at hf1
    refine G_seq ?_
    refine G_region ?_
    refine sd E (o_bi (E.ev rfl) (E.ev rfl) rfl) rfl rfl rfl fun a E => ?_
    refine GL_nil ?_
    refine tgn ?_
    refine G_seq ?_
    refine G_cond (E.ev rfl) (fun ht => ?_) (fun ht => ?_)
    · have hf1 := cT ht hf1
      refine G_skip ?_
      refine tgn ?_
      refine G_seq ?_
      refine G_block ?_
      refine G_seq ?_
      refine G_region ?_
      refine sd E (o_mv (E.ev rfl)) rfl rfl rfl fun a E => ?_
      refine sd E (o_as (E.ev rfl)) rfl rfl rfl fun a E => ?_
      refine GL_nil ?_
      refine tgn ?_
      refine G_seq ?_
      refine G_region ?_
      refine sd E (o_mv (E.ev rfl)) rfl rfl rfl fun a E => ?_
      refine sd E (o_mv (E.ev rfl)) rfl rfl rfl fun a E => ?_
      refine sd E (o_mv (E.ev rfl)) rfl rfl rfl fun a E => ?_
      obtain ⟨x7, hx1, hf1⟩ := ob_some hf1
      have f1 := h1.tr t1
      obtain ⟨b1, p1, g1, h2⟩ := f1.gt hx1
      refine sd E (o_ixg Tryz.underlying43 Tryz.sizeOf38 g1 (E.ev rfl) (E.ev rfl)) rfl rfl rfl fun a E => ?_
      obtain ⟨w2, e1, e2, h3⟩ := h2.fr
      refine sd E (o_ld2 Tryz.isAgg38 Tryz.sizeOf38 (E.ev rfl) e1 e2) rfl rfl rfl fun a E => ?_
      obtain ⟨a1, c1, rfl⟩ := h3.isS
      obtain ⟨y1, hx2, hf1⟩ := ob_some hf1
      refine sh E (o_okv Tryz.call60 (E.ev rfl) (E.evs rfl) (ok_76 _ (x0 := x7) h3 hx2)) rfl rfl rfl ?_
      rintro a _ s2 ⟨t2, rfl⟩ E
      refine GL_nil ?_
      refine tgn ?_
      refine G_cond (E.ev rfl) (fun ht => ?_) (fun ht => ?_)
      · have hf1 := cT ht hf1
        refine G_seq ?_
        refine G_region ?_
        refine sd E (o_mv (E.ev rfl)) rfl rfl rfl fun a E => ?_
        refine sd E (o_as (E.ev rfl)) rfl rfl rfl fun a E => ?_
        refine GL_nil ?_
        refine tgn ?_
        refine G_ret ?_
        refine ebr ?_
        refine tgr ?_
        obtain rfl := Option.some.inj hf1
        refine lpr fun hr => ?_
        subst hr
        dsimp only [m_88_1k] at hm
        refine ebr ?_
        refine ctr ?_
        refine tgr ?_
        cases hm
        have T1 : Tr (Fz κ []) s s2 := (t1.trans t2.no)
        exact fin1 E rfl rfl ⟨(Tr.fin0 hκ T1), rfl⟩
      · have hf1 := cF ht hf1
        refine G_skip ?_
        refine ebn ?_
        refine tgn ?_
        refine G_region ?_
        refine sd E (o_bi (E.ev rfl) (E.ev rfl) rfl) rfl rfl rfl fun a E => ?_
        refine sd E (o_mv (E.ev rfl)) rfl rfl rfl fun a E => ?_
        refine GL_nil ?_
        obtain rfl := Option.some.inj hf1
        have T2 : Tr (Fz κ []) s s2 := (t1.trans t2.no)
        exact lpn ⟨_, _, _, rfl, rfl, T2, (((((E.nil.ad E rfl rfl).ad E rfl rfl).ad E rfl rfl).ad E rfl rfl).ad E rfl rfl)⟩
    · have hf1 := cF ht hf1
      refine G_exit ?_
      refine tge ?_
      obtain rfl := Option.some.inj hf1
      refine lpe fun hr => ?_
      subst hr
      refine ebk ?_
      refine ctn ?_
      exact ⟨_, _, _, hm, rfl, t1, (((((E.nil.ad E rfl rfl).ad E rfl rfl).ad E rfl rfl).ad E rfl rfl).ad E rfl rfl)⟩
  · rintro a _ ⟨x8, x9, s3, hm, rfl, t3, E⟩
    dsimp only [m_88_1k] at hm
    refine tgn ?_
    refine G_seq ?_
    refine G_region ?_
    refine sd E (o_as (E.ev rfl)) rfl rfl rfl fun a E => ?_
    refine GL_nil ?_
    refine tgn ?_
    refine G_ret ?_
    cases hm
    have T3 : Tr (Fz κ []) s s3 := t3
    exact fin1 E rfl rfl ⟨(Tr.fin0 hκ T3), rfl⟩

-- slices.ContainsFunc[[]gimmal/api.Frame,gimmal/api.Frame]

noncomputable def m_77 (x0 : List Frame) : Option Bool :=
  ob (m_88 x0) fun y1 => some (decide (y1 ≥ 0))
theorem ok_77 (s : St) {x0 : List Frame} {w1 : Value} (h1 : Sl kFr s w1 x0) {r0y : Bool} (hm : m_77 x0 = some r0y) :
    Ok Tryz.prog 63 ([w1, .func (.func 60) #[] #[]] : List Value).toArray s fun v s' => Tr No s s' ∧ v = .bool r0y := by
  unfold m_77 at hm
  obtain ⟨κ, hκ⟩ := s.fresh
  refine ok_of (n := 9) _ Tryz.func63 rfl _ rfl rfl fun a E => ?_
  refine G_seq ?_
  refine G_region ?_
  refine sd E (o_as (E.ev rfl)) rfl rfl rfl fun a E => ?_
  refine GL_nil ?_
  refine tgn ?_
  refine G_seq ?_
  refine G_region ?_
  refine sd E (o_mv (E.ev rfl)) rfl rfl rfl fun a E => ?_
  refine sd E (o_mv (E.ev rfl)) rfl rfl rfl fun a E => ?_
  obtain ⟨y1, hx1, hm⟩ := ob_some hm
  refine sh E (o_ok Tryz.call79 (E.evs rfl) (E.ev rfl) (ok_88 _ (x0 := x0) h1 hx1)) rfl rfl rfl ?_
  rintro a _ s1 ⟨t1, rfl⟩ E
  refine sd E (o_bi (E.ev rfl) (E.ev rfl) rfl) rfl rfl rfl fun a E => ?_
  refine sd E (o_as (E.ev rfl)) rfl rfl rfl fun a E => ?_
  refine GL_nil ?_
  refine tgn ?_
  refine G_ret ?_
  cases hm
  have T1 : Tr (Fz κ []) s s1 := t1.no
  exact fin1 E rfl rfl ⟨(Tr.fin0 hκ T1), rfl⟩

-- gimmal/frames.Stream
noncomputable def m_56_1b (x0 : Int) (x1 : List Frame) : ((List Int) × Int) → Option (Lo ((List Int) × Int) ((List Int) × Int)) := fun (x5, x6) => bif decide (x6 < (x1.length : Int)) then (ob (gt x1 x6) fun x7 => ob (m_38 x0 x6 x7) fun y3 => ob (ap x5 y3) fun x8 => some (.inl (x8, IntKind.wrap .i64 (x6 + 1)))) else (some (.inr (x5, x6)))
noncomputable def m_56_1k : ((List Int) × Int) → Option (List Int) := fun (x9, x10) => some x9
noncomputable def m_56 (x0 : Int) (x1 : List Frame) : Option (List Int) :=
  ob (ob (m_66 x0) fun y1 => bif !y1 then (some true) else (ob (m_77 x1) fun y2 => some y2)) fun t1 => bif t1 then (some []) else (ob (loopO (m_56_1b x0 x1) ([], 0)) (m_56_1k))
theorem ok_56 (s : St) {x0 : Int} {x1 : List Frame} {w1 : Value} (h1 : Sl kFr s w1 x1) {r0y : List Int} (hm : m_56 x0 x1 = some r0y) :
    Ok Tryz.prog 32 ([.int .i64 x0, w1] : List Value).toArray s fun v s' => Tr No s s' ∧ ∃ w2, v = w2 ∧ Sl kU s' w2 r0y := by
  unfold m_56 at hm
  obtain ⟨κ, hκ⟩ := s.fresh
  refine ok_of (n := 32) _ Tryz.func32 rfl _ rfl rfl fun a E => ?_
  refine G_seq ?_
  refine G_region ?_
  refine sd E (o_as (E.ev rfl)) rfl rfl rfl fun a E => ?_
  refine GL_nil ?_
  refine tgn ?_
  refine G_seq ?_
  refine G_region ?_
  refine sd E (o_as (E.ev rfl)) rfl rfl rfl fun a E => ?_
  refine GL_nil ?_
  refine tgn ?_
  refine G_seq ?_
  refine G_seq ?_
  obtain ⟨t1, hc1, hm⟩ := ob_some hm
  refine G_regm (fun a' w' => ∃ s', w' = s'.w ∧ Tr No s s' ∧ En [] 32 a' [(16, .bool t1), (0, .int .i64 x0), (1, w1), (4, (.slice none 0 0))]) ?_ ?_
  · refine sd E (o_mv (E.ev rfl)) rfl rfl rfl fun a E => ?_
    obtain ⟨y1, hx1, hc1⟩ := ob_some hc1
    refine sh E (o_ok Tryz.call62 (E.evs rfl) (E.ev rfl) (ok_66 _ (x0 := x0) hx1)) rfl rfl rfl ?_
    rintro a _ s1 ⟨t2, rfl⟩ E
    refine sd E (o_not (E.ev rfl)) rfl rfl rfl fun a E => ?_
    refine sd E (o_mv (E.ev rfl)) rfl rfl rfl fun a E => ?_
    refine bcase (E.ev (x := .tmp 12) rfl) (fun ht => ?_) (fun ht => ?_)
    · have hc1 := cT ht hc1
      rw [ht] at E
      refine sk E rfl rfl rfl fun a E => ?_
      refine sk E rfl rfl rfl fun a E => ?_
      refine sk E rfl rfl rfl fun a E => ?_
      refine sd E (o_pickT (E.ev rfl) (E.ev rfl)) rfl rfl rfl fun a E => ?_
      obtain rfl := Option.some.inj hc1
      exact GL_nil ⟨_, rfl, t2, ((((E.nil.ad E rfl rfl).ad E rfl rfl).ad E rfl rfl).ad E rfl rfl)⟩
    · have hc1 := cF ht hc1
      rw [ht] at E
      refine sd E (o_mv (E.ev rfl)) rfl rfl rfl fun a E => ?_
      refine sd E (o_mv (E.ev rfl)) rfl rfl rfl fun a E => ?_
      have f1 := h1.tr t2
      obtain ⟨y2, hx2, hc1⟩ := ob_some hc1
      refine sh E (o_ok Tryz.call63 (E.evs rfl) (E.ev rfl) (ok_77 _ (x0 := x1) f1 hx2)) rfl rfl rfl ?_
      rintro a _ s2 ⟨t3, rfl⟩ E
      refine sd E (o_pickF (E.ev rfl) (E.ev rfl)) rfl rfl rfl fun a E => ?_
      obtain rfl := Option.some.inj hc1
      exact GL_nil ⟨_, rfl, (t2.trans t3), ((((E.nil.ad E rfl rfl).ad E rfl rfl).ad E rfl rfl).ad E rfl rfl)⟩
  rintro a _ ⟨s3, rfl, t4, E⟩
  refine tgn ?_
  refine G_cond (E.ev rfl) (fun ht => ?_) (fun ht => ?_)
  · have hm := cT ht hm
    refine G_seq ?_
    refine G_region ?_
    refine sd E (o_as (E.ev rfl)) rfl rfl rfl fun a E => ?_
    refine GL_nil ?_
    refine tgn ?_
    refine G_ret ?_
    refine tgr ?_
    cases hm
    have T1 : Tr (Fz κ []) s s3 := t4.no
    exact fin1 E rfl rfl ⟨(Tr.fin0 hκ T1), _, rfl, Sl.nil⟩
  · have hm := cF ht hm
    refine G_skip ?_
    refine tgn ?_
    refine G_seq ?_
    refine G_region ?_
    refine sd E (o_as (E.ev rfl)) rfl rfl rfl fun a E => ?_
    refine GL_nil ?_
    refine tgn ?_
    refine G_seq ?_
    refine G_seq ?_
    refine G_region ?_
    refine sd E (o_mv (E.ev rfl)) rfl rfl rfl fun a E => ?_
    have f2 := h1.tr t4
    refine sd E (o_lenS (xs := x1) Tryz.underlying43 (E.ev rfl) f2.isS) rfl rfl rfl fun a E => ?_
    refine sd E (o_mv (E.ev rfl)) rfl rfl rfl fun a E => ?_
    refine GL_nil ?_
    refine tgn ?_
    obtain ⟨r1, hl1, hm⟩ := ob_some hm
    refine G_mid1 (fun a' w' => ∃ x3 x4 s' w3, m_56_1k (x3, x4) = some r0y ∧ w' = s'.w ∧ Tr (Fz κ []) s3 s' ∧ Bd ((κ + 0), 1001) kU 39 0 s' w3 x3 ∧ En [] 32 a' [(6, w3), (19, .int .i64 x4), (0, .int .i64 x0), (4, (.slice none 0 0)), (17, w1), (18, .int .i64 (x1.length : Int))]) ?_ ?_
    · refine G_block ?_
      refine G_lp hl1 (fun st a' w' => ∃ x3 x4 s' w3, st = (x3, x4) ∧ w' = s'.w ∧ Tr (Fz κ []) s3 s' ∧ Bd ((κ + 0), 1001) kU 39 0 s' w3 x3 ∧ En [] 32 a' [(6, w3), (19, .int .i64 x4), (0, .int .i64 x0), (4, (.slice none 0 0)), (17, w1), (18, .int .i64 (x1.length : Int))]) ⟨_, _, _, _, rfl, rfl, (Tr.refl _ _), Bd.nil, ((((((E.nil.ad E rfl rfl).ad E rfl rfl).ad E rfl rfl).ad E rfl rfl).ad E rfl rfl).ad E rfl rfl)⟩ ?_
      rintro _ a _ x ⟨x5, x6, s4, w4, rfl, rfl, t5, h2, E⟩ hf1
      dsimp only [m_56_1b] at hf1
      refine G_seq ?_
      refine G_region ?_
      refine sd E (o_bi (E.ev rfl) (E.ev rfl) rfl) rfl rfl rfl fun a E => ?_
      refine GL_nil ?_
      refine tgn ?_
      refine G_seq ?_
      refine G_cond (E.ev rfl) (fun ht => ?_) (fun ht => ?_)
      · have hf1 := cT ht hf1
        refine G_skip ?_
        refine tgn ?_
        refine G_seq ?_
        refine G_block ?_
        refine G_seq ?_
        refine G_region ?_
        refine sd E (o_mv (E.ev rfl)) rfl rfl rfl fun a E => ?_
        obtain ⟨x7, hx3, hf1⟩ := ob_some hf1
        have f3 := f2.tr t5
        obtain ⟨b1, p1, g1, h3⟩ := f3.gt hx3
        refine sd E (o_ixg Tryz.underlying43 Tryz.sizeOf38 g1 (E.ev rfl) (E.ev rfl)) rfl rfl rfl fun a E => ?_
        obtain ⟨w5, e1, e2, h4⟩ := h3.fr
        refine sd E (o_ld2 Tryz.isAgg38 Tryz.sizeOf38 (E.ev rfl) e1 e2) rfl rfl rfl fun a E => ?_
        refine sh E (o_al ((κ + 0), 1002) Tryz.zeroValue38) rfl rfl rfl ?_
        rintro a _ s5 ⟨b2, rfl, o1, t6⟩ E
        refine sd E (o_as (E.ev rfl)) rfl rfl rfl fun a E => ?_
        have f4 := h4.tr t6
        obtain ⟨a1, c1, rfl⟩ := f4.isS
        refine shN E (o_st (o := 0) (cs' := #[.int .i64 x7.Kind, (.slice a1 x7.Words.length c1)]) (v := .agg #[.int .i64 x7.Kind, (.slice a1 x7.Words.length c1)]) Tryz.sizeOf38 o1 (E.ev rfl) (E.ev rfl) (Nat.le_of_ble_eq_true rfl) (one_cells rfl) rfl) rfl rfl ?_
        rintro _ s6 ⟨o2, t7⟩
        refine GL_nil ?_
        refine tgn ?_
        refine G_region ?_
        refine sd E (o_mv (E.ev rfl)) rfl rfl rfl fun a E => ?_
        refine sd E (o_mv (E.ev rfl)) rfl rfl rfl fun a E => ?_
        refine sd E (o_mv (E.ev rfl)) rfl rfl rfl fun a E => ?_
        refine sd E (o_ldc (cs := #[.int .i64 x7.Kind, (.slice a1 x7.Words.length c1)]) Tryz.isAgg38 Tryz.sizeOf38 (E.ev rfl) o2.cell) rfl rfl rfl fun a E => ?_
        have f5 := f4.tr t7
        obtain ⟨y3, hx4, hf1⟩ := ob_some hf1
        refine sh E (o_ok Tryz.call64 (E.evs rfl) (E.ev rfl) (ok_38 _ (x0 := x0) (x1 := x6) (x2 := x7) f5 hx4)) rfl rfl rfl ?_
        rintro a w6 s7 ⟨t8, _, rfl, h5⟩ E
        obtain ⟨x8, hx5, hf1⟩ := ob_some hf1
        obtain ⟨hx5, hz1⟩ := ap_some hx5
        have f6 := ((h2.trN t6).tr t7 (nt_snd rfl)).trN t8
        refine sh E (o_app Tryz.underlying36 Tryz.type39 rfl rfl rfl rfl rfl rfl f6 h5.rd (E.ev rfl) (E.ev rfl) hx5 (Nat.zero_le _)) rfl rfl rfl ?_
        rintro a w7 s8 ⟨h6, t9⟩ E
        rw [hz1] at h6
        refine sd E (o_as (E.ev rfl)) rfl rfl rfl fun a E => ?_
        refine GL_nil ?_
        refine ebn ?_
        refine tgn ?_
        refine G_region ?_
        refine sd E (o_bi (E.ev rfl) (E.ev rfl) rfl) rfl rfl rfl fun a E => ?_
        refine sd E (o_mv (E.ev rfl)) rfl rfl rfl fun a E => ?_
        refine GL_nil ?_
        obtain rfl := Option.some.inj hf1
        have T2 : Tr (Fz κ []) s3 s8 := ((((t5.trans t6.no).trans (Tr.ft Fz.f t7)).trans t8.no).trans (Tr.ft Fz.f t9))
        exact lpn ⟨_, _, _, _, rfl, rfl, T2, h6, ((((((E.nil.ad E rfl rfl).ad E rfl rfl).ad E rfl rfl).ad E rfl rfl).ad E rfl rfl).ad E rfl rfl)⟩
      · have hf1 := cF ht hf1
        refine G_exit ?_
        refine tge ?_
        obtain rfl := Option.some.inj hf1
        refine lpe fun hr => ?_
        subst hr
        refine ebk ?_
        refine ctn ?_
        exact ⟨_, _, _, _, hm, rfl, t5, h2, ((((((E.nil.ad E rfl rfl).ad E rfl rfl).ad E rfl rfl).ad E rfl rfl).ad E rfl rfl).ad E rfl rfl)⟩
    · rintro a _ ⟨x9, x10, s9, w8, hm, rfl, t10, h7, E⟩
      dsimp only [m_56_1k] at hm
      refine tgn ?_
      refine G_seq ?_
      refine G_region ?_
      refine sd E (o_mv (E.ev rfl)) rfl rfl rfl fun a E => ?_
      refine sd E (o_as (E.ev rfl)) rfl rfl rfl fun a E => ?_
      refine GL_nil ?_
      refine tgn ?_
      refine G_ret ?_
      cases hm
      obtain ⟨s10, e3, h8, t11⟩ := h7.fz
      rw [e3]
      have T3 : Tr (Fz κ []) s s10 := ((t4.no.trans t10).trans (Tr.ft Fz.f t11))
      exact fin1 E rfl rfl ⟨(Tr.fin0 hκ T3), _, rfl, h8⟩

end Go.Proofs.YtdkfdmalbbfbmaaGreat
