/- Models and walks, printed by a program of ours. -/
import Derived.Test.YtdkfdmalbbfbmaaGreatMWL5
/- Models and walks, printed by a program of ours. -/
namespace Go.Proofs.YtdkfdmalbbfbmaaGreat
open Go
set_option maxRecDepth 4000
-- gimmal/frames.May

noncomputable def m_36 (x0 : Frame) : Option Bool :=
  ob (bif decide (x0.Kind ≥ 1) then (bif decide (x0.Kind ≤ 255) then (some (decide ((x0.Words.length : Int) ≤ 2000))) else (some false)) else (some false)) fun t2 => some t2
theorem ok_36 (s : St) {x0 : Frame} {w1 : Value} (h1 : Sl kU s w1 x0.Words) {r0y : Bool} (hm : m_36 x0 = some r0y) :
    Ok Tryz.prog 61 ([.agg #[.int .i64 x0.Kind, w1]] : List Value).toArray s fun v s' => Tr No s s' ∧ v = .bool r0y := by
  unfold m_36 at hm
  obtain ⟨k, hk⟩ := s.fresh
  refine ok_of (n := 17) _ Tryz.func61 rfl _ rfl rfl fun a E => ?_
  refine G_seq ?_
  refine G_region ?_
  obtain ⟨a1, c1, rfl⟩ := h1.isS
  refine sh E (o_box (E.ev rfl)) rfl rfl rfl ?_
  rintro a _ s1 ⟨b1, rfl, o1, t1⟩ E
  refine sd E (o_as (E.ev rfl)) rfl rfl rfl fun a E => ?_
  refine GL_nil ?_
  refine tgn ?_
  refine G_seq ?_
  obtain ⟨t2, hc1, hm⟩ := ob_some hm
  refine G_regm (fun a' w' => ∃ s', w' = s'.w ∧ Tr No s1 s' ∧ En [] 17 a' [(2, .bool t2), (0, .agg #[.int .i64 x0.Kind, (.slice a1 x0.Words.length c1)]), (1, .pointer (some ⟨b1, 0, none⟩))]) ?_ ?_
  · refine sd E (o_fa Tryz.underlying38 rfl Tryz.sizeOf3 (E.ev rfl)) rfl rfl rfl fun a E => ?_
    refine sd E (o_ld Tryz.isAgg3 (E.ev rfl) ((o1.cell _).trans rfl)) rfl rfl rfl fun a E => ?_
    refine sd E (o_bi (E.ev rfl) (E.ev rfl) rfl) rfl rfl rfl fun a E => ?_
    refine sd E (o_mv (E.ev rfl)) rfl rfl rfl fun a E => ?_
    refine bcase (E.ev (x := .tmp 6) rfl) (fun ht => ?_) (fun ht => ?_)
    · have hc1 := cT ht hc1
      rw [ht] at E
      refine sd E (o_fa Tryz.underlying38 rfl Tryz.sizeOf3 (E.ev rfl)) rfl rfl rfl fun a E => ?_
      refine sd E (o_ld Tryz.isAgg3 (E.ev rfl) ((o1.cell _).trans rfl)) rfl rfl rfl fun a E => ?_
      refine sd E (o_bi (E.ev rfl) (E.ev rfl) rfl) rfl rfl rfl fun a E => ?_
      refine sd E (o_pickT (E.ev rfl) (E.ev rfl)) rfl rfl rfl fun a E => ?_
      refine sd E (o_mv (E.ev rfl)) rfl rfl rfl fun a E => ?_
      refine bcase (E.ev (x := .tmp 11) rfl) (fun ht => ?_) (fun ht => ?_)
      · have hc1 := cT ht hc1
        rw [ht] at E
        refine sd E (o_fa Tryz.underlying38 rfl Tryz.sizeOf36 (E.ev rfl)) rfl rfl rfl fun a E => ?_
        refine sd E (o_ld Tryz.isAgg36 (E.ev rfl) ((o1.cell _).trans rfl)) rfl rfl rfl fun a E => ?_
        refine sd E (o_lenS (xs := x0.Words) Tryz.underlying36 (E.ev rfl) (h1.tr t1).isS) rfl rfl rfl fun a E => ?_
        refine sd E (o_bi (E.ev rfl) (E.ev rfl) rfl) rfl rfl rfl fun a E => ?_
        refine sd E (o_pickT (E.ev rfl) (E.ev rfl)) rfl rfl rfl fun a E => ?_
        refine sd E (o_as (E.ev rfl)) rfl rfl rfl fun a E => ?_
        obtain rfl := Option.some.inj hc1
        exact GL_nil ⟨_, rfl, (Tr.refl _ _), (((E.nil.ad E rfl rfl).ad E rfl rfl).ad E rfl rfl)⟩
      · have hc1 := cF ht hc1
        rw [ht] at E
        refine sk E rfl rfl rfl fun a E => ?_
        refine sk E rfl rfl rfl fun a E => ?_
        refine sk E rfl rfl rfl fun a E => ?_
        refine sk E rfl rfl rfl fun a E => ?_
        refine sd E (o_pickF (E.ev rfl) (E.ev rfl)) rfl rfl rfl fun a E => ?_
        refine sd E (o_as (E.ev rfl)) rfl rfl rfl fun a E => ?_
        obtain rfl := Option.some.inj hc1
        exact GL_nil ⟨_, rfl, (Tr.refl _ _), (((E.nil.ad E rfl rfl).ad E rfl rfl).ad E rfl rfl)⟩
    · have hc1 := cF ht hc1
      rw [ht] at E
      refine sk E rfl rfl rfl fun a E => ?_
      refine sk E rfl rfl rfl fun a E => ?_
      refine sk E rfl rfl rfl fun a E => ?_
      refine sd E (o_pickF (E.ev rfl) (E.ev rfl)) rfl rfl rfl fun a E => ?_
      refine sd E (o_mv (E.ev rfl)) rfl rfl rfl fun a E => ?_
      refine sk E rfl rfl rfl fun a E => ?_
      refine sk E rfl rfl rfl fun a E => ?_
      refine sk E rfl rfl rfl fun a E => ?_
      refine sk E rfl rfl rfl fun a E => ?_
      refine sd E (o_pickF (E.ev rfl) (E.ev rfl)) rfl rfl rfl fun a E => ?_
      refine sd E (o_as (E.ev rfl)) rfl rfl rfl fun a E => ?_
      obtain rfl := Option.some.inj hc1
      exact GL_nil ⟨_, rfl, (Tr.refl _ _), (((E.nil.ad E rfl rfl).ad E rfl rfl).ad E rfl rfl)⟩
  rintro a _ ⟨s2, rfl, t3, E⟩
  refine tgn ?_
  refine G_ret ?_
  cases hm
  exact fin1 E rfl rfl ⟨(((Tr.refl No s).stepN t1).stepN t3), rfl⟩

-- gimmal/gimmalref06.Number

noncomputable def m_68 (x0 : Int) : Option Bool :=
  ob (bif decide (x0 ≥ 0) then (some (decide (x0 < 4294967296))) else (some false)) fun t1 => some t1
theorem ok_68 (s : St) {x0 : Int}  {r0y : Bool} (hm : m_68 x0 = some r0y) :
    Ok Tryz.prog 78 ([.int .i64 x0] : List Value).toArray s fun v s' => Tr No s s' ∧ v = .bool r0y := by
  unfold m_68 at hm
  obtain ⟨k, hk⟩ := s.fresh
  refine ok_of (n := 9) _ Tryz.func78 rfl _ rfl rfl fun a E => ?_
  refine G_seq ?_
  refine G_region ?_
  refine sd E (o_as (E.ev rfl)) rfl rfl rfl fun a E => ?_
  refine GL_nil ?_
  refine tgn ?_
  refine G_seq ?_
  obtain ⟨t1, hc1, hm⟩ := ob_some hm
  refine G_regm (fun a' w' => ∃ s', w' = s'.w ∧ Tr No s s' ∧ En [] 9 a' [(2, .bool t1), (0, .int .i64 x0)]) ?_ ?_
  · refine sd E (o_mv (E.ev rfl)) rfl rfl rfl fun a E => ?_
    refine sd E (o_bi (E.ev rfl) (E.ev rfl) rfl) rfl rfl rfl fun a E => ?_
    refine sd E (o_mv (E.ev rfl)) rfl rfl rfl fun a E => ?_
    refine bcase (E.ev (x := .tmp 5) rfl) (fun ht => ?_) (fun ht => ?_)
    · have hc1 := cT ht hc1
      rw [ht] at E
      refine sd E (o_mv (E.ev rfl)) rfl rfl rfl fun a E => ?_
      refine sd E (o_bi (E.ev rfl) (E.ev rfl) rfl) rfl rfl rfl fun a E => ?_
      refine sd E (o_pickT (E.ev rfl) (E.ev rfl)) rfl rfl rfl fun a E => ?_
      refine sd E (o_as (E.ev rfl)) rfl rfl rfl fun a E => ?_
      obtain rfl := Option.some.inj hc1
      exact GL_nil ⟨_, rfl, (Tr.refl _ _), ((E.nil.ad E rfl rfl).ad E rfl rfl)⟩
    · have hc1 := cF ht hc1
      rw [ht] at E
      refine sk E rfl rfl rfl fun a E => ?_
      refine sk E rfl rfl rfl fun a E => ?_
      refine sd E (o_pickF (E.ev rfl) (E.ev rfl)) rfl rfl rfl fun a E => ?_
      refine sd E (o_as (E.ev rfl)) rfl rfl rfl fun a E => ?_
      obtain rfl := Option.some.inj hc1
      exact GL_nil ⟨_, rfl, (Tr.refl _ _), ((E.nil.ad E rfl rfl).ad E rfl rfl)⟩
  rintro a _ ⟨s1, rfl, t2, E⟩
  refine tgn ?_
  refine G_ret ?_
  cases hm
  exact fin1 E rfl rfl ⟨((Tr.refl No s).stepN t2), rfl⟩

-- gimmal/gimmalref06.May

noncomputable def m_46 (x0 : Frame) : Option Bool :=
  ob (bif decide (x0.Kind > 0) then (bif decide (x0.Kind < 256) then (some (decide ((x0.Words.length : Int) < 2001))) else (some false)) else (some false)) fun t2 => some t2
theorem ok_46 (s : St) {x0 : Frame} {w1 : Value} (h1 : Sl kU s w1 x0.Words) {r0y : Bool} (hm : m_46 x0 = some r0y) :
    Ok Tryz.prog 42 ([.agg #[.int .i64 x0.Kind, w1]] : List Value).toArray s fun v s' => Tr No s s' ∧ v = .bool r0y := by
  unfold m_46 at hm
  obtain ⟨k, hk⟩ := s.fresh
  refine ok_of (n := 17) _ Tryz.func42 rfl _ rfl rfl fun a E => ?_
  refine G_seq ?_
  refine G_region ?_
  obtain ⟨a1, c1, rfl⟩ := h1.isS
  refine sh E (o_box (E.ev rfl)) rfl rfl rfl ?_
  rintro a _ s1 ⟨b1, rfl, o1, t1⟩ E
  refine sd E (o_as (E.ev rfl)) rfl rfl rfl fun a E => ?_
  refine GL_nil ?_
  refine tgn ?_
  refine G_seq ?_
  obtain ⟨t2, hc1, hm⟩ := ob_some hm
  refine G_regm (fun a' w' => ∃ s', w' = s'.w ∧ Tr No s1 s' ∧ En [] 17 a' [(2, .bool t2), (0, .agg #[.int .i64 x0.Kind, (.slice a1 x0.Words.length c1)]), (1, .pointer (some ⟨b1, 0, none⟩))]) ?_ ?_
  · refine sd E (o_fa Tryz.underlying38 rfl Tryz.sizeOf3 (E.ev rfl)) rfl rfl rfl fun a E => ?_
    refine sd E (o_ld Tryz.isAgg3 (E.ev rfl) ((o1.cell _).trans rfl)) rfl rfl rfl fun a E => ?_
    refine sd E (o_bi (E.ev rfl) (E.ev rfl) rfl) rfl rfl rfl fun a E => ?_
    refine sd E (o_mv (E.ev rfl)) rfl rfl rfl fun a E => ?_
    refine bcase (E.ev (x := .tmp 6) rfl) (fun ht => ?_) (fun ht => ?_)
    · have hc1 := cT ht hc1
      rw [ht] at E
      refine sd E (o_fa Tryz.underlying38 rfl Tryz.sizeOf3 (E.ev rfl)) rfl rfl rfl fun a E => ?_
      refine sd E (o_ld Tryz.isAgg3 (E.ev rfl) ((o1.cell _).trans rfl)) rfl rfl rfl fun a E => ?_
      refine sd E (o_bi (E.ev rfl) (E.ev rfl) rfl) rfl rfl rfl fun a E => ?_
      refine sd E (o_pickT (E.ev rfl) (E.ev rfl)) rfl rfl rfl fun a E => ?_
      refine sd E (o_mv (E.ev rfl)) rfl rfl rfl fun a E => ?_
      refine bcase (E.ev (x := .tmp 11) rfl) (fun ht => ?_) (fun ht => ?_)
      · have hc1 := cT ht hc1
        rw [ht] at E
        refine sd E (o_fa Tryz.underlying38 rfl Tryz.sizeOf36 (E.ev rfl)) rfl rfl rfl fun a E => ?_
        refine sd E (o_ld Tryz.isAgg36 (E.ev rfl) ((o1.cell _).trans rfl)) rfl rfl rfl fun a E => ?_
        refine sd E (o_lenS (xs := x0.Words) Tryz.underlying36 (E.ev rfl) (h1.tr t1).isS) rfl rfl rfl fun a E => ?_
        refine sd E (o_bi (E.ev rfl) (E.ev rfl) rfl) rfl rfl rfl fun a E => ?_
        refine sd E (o_pickT (E.ev rfl) (E.ev rfl)) rfl rfl rfl fun a E => ?_
        refine sd E (o_as (E.ev rfl)) rfl rfl rfl fun a E => ?_
        obtain rfl := Option.some.inj hc1
        exact GL_nil ⟨_, rfl, (Tr.refl _ _), (((E.nil.ad E rfl rfl).ad E rfl rfl).ad E rfl rfl)⟩
      · have hc1 := cF ht hc1
        rw [ht] at E
        refine sk E rfl rfl rfl fun a E => ?_
        refine sk E rfl rfl rfl fun a E => ?_
        refine sk E rfl rfl rfl fun a E => ?_
        refine sk E rfl rfl rfl fun a E => ?_
        refine sd E (o_pickF (E.ev rfl) (E.ev rfl)) rfl rfl rfl fun a E => ?_
        refine sd E (o_as (E.ev rfl)) rfl rfl rfl fun a E => ?_
        obtain rfl := Option.some.inj hc1
        exact GL_nil ⟨_, rfl, (Tr.refl _ _), (((E.nil.ad E rfl rfl).ad E rfl rfl).ad E rfl rfl)⟩
    · have hc1 := cF ht hc1
      rw [ht] at E
      refine sk E rfl rfl rfl fun a E => ?_
      refine sk E rfl rfl rfl fun a E => ?_
      refine sk E rfl rfl rfl fun a E => ?_
      refine sd E (o_pickF (E.ev rfl) (E.ev rfl)) rfl rfl rfl fun a E => ?_
      refine sd E (o_mv (E.ev rfl)) rfl rfl rfl fun a E => ?_
      refine sk E rfl rfl rfl fun a E => ?_
      refine sk E rfl rfl rfl fun a E => ?_
      refine sk E rfl rfl rfl fun a E => ?_
      refine sk E rfl rfl rfl fun a E => ?_
      refine sd E (o_pickF (E.ev rfl) (E.ev rfl)) rfl rfl rfl fun a E => ?_
      refine sd E (o_as (E.ev rfl)) rfl rfl rfl fun a E => ?_
      obtain rfl := Option.some.inj hc1
      exact GL_nil ⟨_, rfl, (Tr.refl _ _), (((E.nil.ad E rfl rfl).ad E rfl rfl).ad E rfl rfl)⟩
  rintro a _ ⟨s2, rfl, t3, E⟩
  refine tgn ?_
  refine G_ret ?_
  cases hm
  exact fin1 E rfl rfl ⟨(((Tr.refl No s).stepN t1).stepN t3), rfl⟩

-- gimmal/gimmalref02.Bytes
noncomputable def m_93_2b : (Int × Int) → Option (Lo (Int × Int) (Int × Int)) := fun (x9, x10) => bif decide (x10 < 8) then (bif (Int.tmod x9 2) == 1 then (some (.inl (IntKind.wrap .u32 (BitVec.ofInt (IntKind.bits .u32) (IntKind.wrap .u32 (Int.tdiv x9 2)) ^^^ BitVec.ofInt (IntKind.bits .u32) 2197175160).toNat, IntKind.wrap .i64 (x10 + 1)))) else (some (.inl (IntKind.wrap .u32 (Int.tdiv x9 2), IntKind.wrap .i64 (x10 + 1))))) else (some (.inr (x9, x10)))
noncomputable def m_93_2k (x5 : Int) : (Int × Int) → Option (Lo (Int × Int) (Int × Int)) := fun (x11, x12) => some (.inl (x11, IntKind.wrap .i64 (x5 + 1)))
noncomputable def m_93_1b (x0 : List Int) : (Int × Int) → Option (Lo (Int × Int) (Int × Int)) := fun (x4, x5) => bif decide (x5 < (x0.length : Int)) then (ob (gt x0 x5) fun x6 => ob (loopO (m_93_2b) (IntKind.wrap .u32 (BitVec.ofInt (IntKind.bits .u32) x4 ^^^ BitVec.ofInt (IntKind.bits .u32) (IntKind.wrap .u32 x6)).toNat, 0)) (m_93_2k x5)) else (some (.inr (x4, x5)))
noncomputable def m_93_1k : (Int × Int) → Option Int := fun (x13, x14) => some (IntKind.wrap .u32 (BitVec.ofInt (IntKind.bits .u32) x13 ^^^ BitVec.ofInt (IntKind.bits .u32) 4294967295).toNat)
noncomputable def m_93 (x0 : List Int) : Option Int :=
  ob (loopO (m_93_1b x0) (4294967295, 0)) (m_93_1k)
theorem ok_93 (s : St) {x0 : List Int} {w1 : Value} (h1 : Sl (kInt .u8) s w1 x0) {r0y : Int} (hm : m_93 x0 = some r0y) :
    Ok Tryz.prog 93 ([w1] : List Value).toArray s fun v s' => Tr No s s' ∧ v = .int .u32 r0y := by
  unfold m_93 at hm
  obtain ⟨k, hk⟩ := s.fresh
  refine ok_of (n := 33) _ Tryz.func93 rfl _ rfl rfl fun a E => ?_
  refine G_seq ?_
  refine G_region ?_
  refine sd E (o_as (E.ev rfl)) rfl rfl rfl fun a E => ?_
  refine GL_nil ?_
  refine tgn ?_
  refine G_seq ?_
  refine G_region ?_
  refine sd E (o_as (E.ev rfl)) rfl rfl rfl fun a E => ?_
  refine GL_nil ?_
  refine tgn ?_
  refine G_seq ?_
  refine G_seq ?_
  refine G_region ?_
  refine sd E (o_as (E.ev rfl)) rfl rfl rfl fun a E => ?_
  refine GL_nil ?_
  refine tgn ?_
  obtain ⟨r1, hl1, hm⟩ := ob_some hm
  refine G_mid1 (fun a' w' => ∃ x2 x3 s', m_93_1k (x2, x3) = some r0y ∧ w' = s'.w ∧ Tr (Rt k) s s' ∧ En [] 33 a' [(3, .int .u32 x2), (4, .int .i64 x3), (0, w1), (2, .int .u32 0)]) ?_ ?_
  · refine G_block ?_
    refine G_lp hl1 (fun st a' w' => ∃ x2 x3 s', st = (x2, x3) ∧ w' = s'.w ∧ Tr (Rt k) s s' ∧ En [] 33 a' [(3, .int .u32 x2), (4, .int .i64 x3), (0, w1), (2, .int .u32 0)]) ⟨_, _, _, rfl, rfl, (Tr.refl _ _), ((((E.nil.ad E rfl rfl).ad E rfl rfl).ad E rfl rfl).ad E rfl rfl)⟩ ?_
    rintro _ a _ x ⟨x4, x5, s1, rfl, rfl, t1, E⟩ hf1
    dsimp only [m_93_1b] at hf1
    refine G_seq ?_
    refine G_seq ?_
    refine G_region ?_
    refine sd E (o_mv (E.ev rfl)) rfl rfl rfl fun a E => ?_
    refine sd E (o_mv (E.ev rfl)) rfl rfl rfl fun a E => ?_
    refine sd E (o_lenS (xs := x0) Tryz.underlying136 (E.ev rfl) (h1.tr t1).isS) rfl rfl rfl fun a E => ?_
    refine sd E (o_bi (E.ev rfl) (E.ev rfl) rfl) rfl rfl rfl fun a E => ?_
    refine GL_nil ?_
    refine tgn ?_
    refine G_cond (E.ev rfl) (fun ht => ?_) (fun ht => ?_)
    · have hf1 := cT ht hf1
      refine G_skip ?_
      refine tgn ?_
      refine G_seq ?_
      refine G_block ?_
      refine G_seq ?_
      refine G_region ?_
      refine sd E (o_mv (E.ev rfl)) rfl rfl rfl fun a E => ?_
      refine sd E (o_mv (E.ev rfl)) rfl rfl rfl fun a E => ?_
      refine sd E (o_mv (E.ev rfl)) rfl rfl rfl fun a E => ?_
      obtain ⟨x6, hx1, hf1⟩ := ob_some hf1
      obtain ⟨b1, p1, g1, h2⟩ := (h1.tr t1).gt hx1
      refine sd E (o_ixg Tryz.underlying136 Tryz.sizeOf5 g1 (E.ev rfl) (E.ev rfl)) rfl rfl rfl fun a E => ?_
      refine sd E (o_ld Tryz.isAgg5 (E.ev rfl) h2.cell) rfl rfl rfl fun a E => ?_
      refine sd E (o_cv Tryz.underlying5 Tryz.underlying126 (E.ev rfl)) rfl rfl rfl fun a E => ?_
      refine sd E (o_bi (E.ev rfl) (E.ev rfl) rfl) rfl rfl rfl fun a E => ?_
      refine sd E (o_as (E.ev rfl)) rfl rfl rfl fun a E => ?_
      refine GL_nil ?_
      refine tgn ?_
      refine G_seq ?_
      refine G_region ?_
      refine sd E (o_as (E.ev rfl)) rfl rfl rfl fun a E => ?_
      refine GL_nil ?_
      refine tgn ?_
      obtain ⟨r2, hl2, hf1⟩ := ob_some hf1
      refine G_mid1 (fun a' w' => ∃ x7 x8 s', m_93_2k x5 (x7, x8) = some x ∧ w' = s'.w ∧ Tr (Rt k) s1 s' ∧ En [] 33 a' [(3, .int .u32 x7), (5, .int .i64 x8), (0, w1), (2, .int .u32 0), (4, .int .i64 x5), (9, .bool (decide (x5 < (x0.length : Int))))]) ?_ ?_
      · refine G_block ?_
        refine G_lp hl2 (fun st a' w' => ∃ x7 x8 s', st = (x7, x8) ∧ w' = s'.w ∧ Tr (Rt k) s1 s' ∧ En [] 33 a' [(3, .int .u32 x7), (5, .int .i64 x8), (0, w1), (2, .int .u32 0), (4, .int .i64 x5), (9, .bool (decide (x5 < (x0.length : Int))))]) ⟨_, _, _, rfl, rfl, (Tr.refl _ _), ((((((E.nil.ad E rfl rfl).ad E rfl rfl).ad E rfl rfl).ad E rfl rfl).ad E rfl rfl).ad E rfl rfl)⟩ ?_
        rintro _ a _ x ⟨x9, x10, s2, rfl, rfl, t2, E⟩ hf2
        dsimp only [m_93_2b] at hf2
        refine G_seq ?_
        refine G_seq ?_
        refine G_region ?_
        refine sd E (o_mv (E.ev rfl)) rfl rfl rfl fun a E => ?_
        refine sd E (o_bi (E.ev rfl) (E.ev rfl) rfl) rfl rfl rfl fun a E => ?_
        refine GL_nil ?_
        refine tgn ?_
        refine G_cond (E.ev rfl) (fun ht => ?_) (fun ht => ?_)
        · have hf2 := cT ht hf2
          refine G_skip ?_
          refine tgn ?_
          refine G_seq ?_
          refine G_block ?_
          refine G_seq ?_
          refine G_region ?_
          refine sd E (o_mv (E.ev rfl)) rfl rfl rfl fun a E => ?_
          refine sd E (o_rem (E.ev rfl) (E.ev rfl) rfl) rfl rfl rfl fun a E => ?_
          refine sd E (o_bi (E.ev rfl) (E.ev rfl) rfl) rfl rfl rfl fun a E => ?_
          refine GL_nil ?_
          refine tgn ?_
          refine G_cond (E.ev rfl) (fun ht => ?_) (fun ht => ?_)
          · have hf2 := cT ht hf2
            refine G_region ?_
            refine sd E (o_mv (E.ev rfl)) rfl rfl rfl fun a E => ?_
            refine sd E (o_quo (E.ev rfl) (E.ev rfl) rfl) rfl rfl rfl fun a E => ?_
            refine sd E (o_bi (E.ev rfl) (E.ev rfl) rfl) rfl rfl rfl fun a E => ?_
            refine sd E (o_as (E.ev rfl)) rfl rfl rfl fun a E => ?_
            refine GL_nil ?_
            refine ebn ?_
            refine tgn ?_
            refine G_region ?_
            refine sd E (o_mv (E.ev rfl)) rfl rfl rfl fun a E => ?_
            refine sd E (o_bi (E.ev rfl) (E.ev rfl) rfl) rfl rfl rfl fun a E => ?_
            refine sd E (o_as (E.ev rfl)) rfl rfl rfl fun a E => ?_
            refine GL_nil ?_
            obtain rfl := Option.some.inj hf2
            exact lpn ⟨_, _, _, rfl, rfl, t2, ((((((E.nil.ad E rfl rfl).ad E rfl rfl).ad E rfl rfl).ad E rfl rfl).ad E rfl rfl).ad E rfl rfl)⟩
          · have hf2 := cF ht hf2
            refine G_region ?_
            refine sd E (o_mv (E.ev rfl)) rfl rfl rfl fun a E => ?_
            refine sd E (o_quo (E.ev rfl) (E.ev rfl) rfl) rfl rfl rfl fun a E => ?_
            refine sd E (o_as (E.ev rfl)) rfl rfl rfl fun a E => ?_
            refine GL_nil ?_
            refine ebn ?_
            refine tgn ?_
            refine G_region ?_
            refine sd E (o_mv (E.ev rfl)) rfl rfl rfl fun a E => ?_
            refine sd E (o_bi (E.ev rfl) (E.ev rfl) rfl) rfl rfl rfl fun a E => ?_
            refine sd E (o_as (E.ev rfl)) rfl rfl rfl fun a E => ?_
            refine GL_nil ?_
            obtain rfl := Option.some.inj hf2
            exact lpn ⟨_, _, _, rfl, rfl, t2, ((((((E.nil.ad E rfl rfl).ad E rfl rfl).ad E rfl rfl).ad E rfl rfl).ad E rfl rfl).ad E rfl rfl)⟩
        · have hf2 := cF ht hf2
          refine G_exit ?_
          refine tge ?_
          obtain rfl := Option.some.inj hf2
          refine lpe fun hr => ?_
          subst hr
          refine ebk ?_
          refine ctn ?_
          exact ⟨_, _, _, hf1, rfl, t2, ((((((E.nil.ad E rfl rfl).ad E rfl rfl).ad E rfl rfl).ad E rfl rfl).ad E rfl rfl).ad E rfl rfl)⟩
      · rintro a _ ⟨x11, x12, s3, hf1, rfl, t3, E⟩
        dsimp only [m_93_2k] at hf1
        refine ebn ?_
        refine tgn ?_
        refine G_region ?_
        refine sd E (o_mv (E.ev rfl)) rfl rfl rfl fun a E => ?_
        refine sd E (o_bi (E.ev rfl) (E.ev rfl) rfl) rfl rfl rfl fun a E => ?_
        refine sd E (o_as (E.ev rfl)) rfl rfl rfl fun a E => ?_
        refine GL_nil ?_
        obtain rfl := Option.some.inj hf1
        exact lpn ⟨_, _, _, rfl, rfl, (t1.trans t3), ((((E.nil.ad E rfl rfl).ad E rfl rfl).ad E rfl rfl).ad E rfl rfl)⟩
    · have hf1 := cF ht hf1
      refine G_exit ?_
      refine tge ?_
      obtain rfl := Option.some.inj hf1
      refine lpe fun hr => ?_
      subst hr
      refine ebk ?_
      refine ctn ?_
      exact ⟨_, _, _, hm, rfl, t1, ((((E.nil.ad E rfl rfl).ad E rfl rfl).ad E rfl rfl).ad E rfl rfl)⟩
  · rintro a _ ⟨x13, x14, s4, hm, rfl, t4, E⟩
    dsimp only [m_93_1k] at hm
    refine tgn ?_
    refine G_seq ?_
    refine G_region ?_
    refine sd E (o_mv (E.ev rfl)) rfl rfl rfl fun a E => ?_
    refine sd E (o_bi (E.ev rfl) (E.ev rfl) rfl) rfl rfl rfl fun a E => ?_
    refine sd E (o_as (E.ev rfl)) rfl rfl rfl fun a E => ?_
    refine GL_nil ?_
    refine tgn ?_
    refine G_ret ?_
    cases hm
    exact fin1 E rfl rfl ⟨((Tr.refl No s).step hk t4 (fun t h => .inr (Nat.le_of_eq (Eq.symm h)))), rfl⟩

-- gimmal/gimmalref02.Of
noncomputable def m_83_2b : ((List Int) × Int × Int) → Option (Lo ((List Int) × Int × Int) ((List Int) × Int × Int)) := fun (x10, x11, x12) => bif decide (x12 < 8) then (ob (ap x10 [IntKind.wrap .u8 (Int.tmod x11 256)]) fun x13 => some (.inl (x13, IntKind.wrap .u64 (Int.tdiv x11 256), IntKind.wrap .i64 (x12 + 1)))) else (some (.inr (x10, x11, x12)))
noncomputable def m_83_2k (x5 : Int) : ((List Int) × Int × Int) → Option (Lo ((List Int) × Int) ((List Int) × Int)) := fun (x14, x15, x16) => some (.inl (x14, IntKind.wrap .i64 (x5 + 1)))
noncomputable def m_83_1b (x0 : List Int) : ((List Int) × Int) → Option (Lo ((List Int) × Int) ((List Int) × Int)) := fun (x4, x5) => bif decide (x5 < (x0.length : Int)) then (ob (gt x0 x5) fun x6 => ob (loopO (m_83_2b) (x4, x6, 0)) (m_83_2k x5)) else (some (.inr (x4, x5)))
noncomputable def m_83_1k : ((List Int) × Int) → Option Int := fun (x17, x18) => ob (m_93 x17) fun y1 => some y1
noncomputable def m_83 (x0 : List Int) : Option Int :=
  ob (loopO (m_83_1b x0) ([], 0)) (m_83_1k)
theorem ok_83 (s : St) {x0 : List Int} {w1 : Value} (h1 : Sl kU s w1 x0) {r0y : Int} (hm : m_83 x0 = some r0y) :
    Ok Tryz.prog 84 ([w1] : List Value).toArray s fun v s' => Tr No s s' ∧ v = .int .u32 r0y := by
  unfold m_83 at hm
  obtain ⟨k, hk⟩ := s.fresh
  refine ok_of (n := 31) _ Tryz.func84 rfl _ rfl rfl fun a E => ?_
  refine G_seq ?_
  refine G_region ?_
  refine sd E (o_as (E.ev rfl)) rfl rfl rfl fun a E => ?_
  refine GL_nil ?_
  refine tgn ?_
  refine G_seq ?_
  refine G_region ?_
  refine sd E (o_as (E.ev rfl)) rfl rfl rfl fun a E => ?_
  refine GL_nil ?_
  refine tgn ?_
  refine G_seq ?_
  refine G_seq ?_
  refine G_region ?_
  refine sd E (o_as (E.ev rfl)) rfl rfl rfl fun a E => ?_
  refine GL_nil ?_
  refine tgn ?_
  obtain ⟨r1, hl1, hm⟩ := ob_some hm
  refine G_mid1 (fun a' w' => ∃ x2 x3 s' w2, m_83_1k (x2, x3) = some r0y ∧ w' = s'.w ∧ Tr (Rt k) s s' ∧ Bd (k, 1001) (kInt .u8) 5 0 s' w2 x2 ∧ En [] 31 a' [(3, w2), (4, .int .i64 x3), (0, w1), (2, .int .u32 0)]) ?_ ?_
  · refine G_block ?_
    refine G_lp hl1 (fun st a' w' => ∃ x2 x3 s' w2, st = (x2, x3) ∧ w' = s'.w ∧ Tr (Rt k) s s' ∧ Bd (k, 1001) (kInt .u8) 5 0 s' w2 x2 ∧ En [] 31 a' [(3, w2), (4, .int .i64 x3), (0, w1), (2, .int .u32 0)]) ⟨_, _, _, _, rfl, rfl, (Tr.refl _ _), Bd.nil, ((((E.nil.ad E rfl rfl).ad E rfl rfl).ad E rfl rfl).ad E rfl rfl)⟩ ?_
    rintro _ a _ x ⟨x4, x5, s1, w3, rfl, rfl, t1, h2, E⟩ hf1
    dsimp only [m_83_1b] at hf1
    refine G_seq ?_
    refine G_seq ?_
    refine G_region ?_
    refine sd E (o_mv (E.ev rfl)) rfl rfl rfl fun a E => ?_
    refine sd E (o_mv (E.ev rfl)) rfl rfl rfl fun a E => ?_
    refine sd E (o_lenS (xs := x0) Tryz.underlying36 (E.ev rfl) (h1.tr t1).isS) rfl rfl rfl fun a E => ?_
    refine sd E (o_bi (E.ev rfl) (E.ev rfl) rfl) rfl rfl rfl fun a E => ?_
    refine GL_nil ?_
    refine tgn ?_
    refine G_cond (E.ev rfl) (fun ht => ?_) (fun ht => ?_)
    · have hf1 := cT ht hf1
      refine G_skip ?_
      refine tgn ?_
      refine G_seq ?_
      refine G_block ?_
      refine G_seq ?_
      refine G_region ?_
      refine sd E (o_mv (E.ev rfl)) rfl rfl rfl fun a E => ?_
      refine sd E (o_mv (E.ev rfl)) rfl rfl rfl fun a E => ?_
      obtain ⟨x6, hx1, hf1⟩ := ob_some hf1
      obtain ⟨b1, p1, g1, h3⟩ := (h1.tr t1).gt hx1
      refine sd E (o_ixg Tryz.underlying36 Tryz.sizeOf39 g1 (E.ev rfl) (E.ev rfl)) rfl rfl rfl fun a E => ?_
      refine sd E (o_ld Tryz.isAgg39 (E.ev rfl) h3.cell) rfl rfl rfl fun a E => ?_
      refine sd E (o_as (E.ev rfl)) rfl rfl rfl fun a E => ?_
      refine GL_nil ?_
      refine tgn ?_
      refine G_seq ?_
      refine G_region ?_
      refine sd E (o_as (E.ev rfl)) rfl rfl rfl fun a E => ?_
      refine GL_nil ?_
      refine tgn ?_
      obtain ⟨r2, hl2, hf1⟩ := ob_some hf1
      refine G_mid1 (fun a' w' => ∃ x7 x8 x9 s' w4, m_83_2k x5 (x7, x8, x9) = some x ∧ w' = s'.w ∧ Tr (Rt k) s1 s' ∧ Bd (k, 1001) (kInt .u8) 5 0 s' w4 x7 ∧ En [] 31 a' [(3, w4), (5, .int .u64 x8), (6, .int .i64 x9), (0, w1), (2, .int .u32 0), (4, .int .i64 x5), (10, .bool (decide (x5 < (x0.length : Int))))]) ?_ ?_
      · refine G_block ?_
        refine G_lp hl2 (fun st a' w' => ∃ x7 x8 x9 s' w4, st = (x7, x8, x9) ∧ w' = s'.w ∧ Tr (Rt k) s1 s' ∧ Bd (k, 1001) (kInt .u8) 5 0 s' w4 x7 ∧ En [] 31 a' [(3, w4), (5, .int .u64 x8), (6, .int .i64 x9), (0, w1), (2, .int .u32 0), (4, .int .i64 x5), (10, .bool (decide (x5 < (x0.length : Int))))]) ⟨_, _, _, _, _, rfl, rfl, (Tr.refl _ _), h2, (((((((E.nil.ad E rfl rfl).ad E rfl rfl).ad E rfl rfl).ad E rfl rfl).ad E rfl rfl).ad E rfl rfl).ad E rfl rfl)⟩ ?_
        rintro _ a _ x ⟨x10, x11, x12, s2, w5, rfl, rfl, t2, h4, E⟩ hf2
        dsimp only [m_83_2b] at hf2
        refine G_seq ?_
        refine G_seq ?_
        refine G_region ?_
        refine sd E (o_mv (E.ev rfl)) rfl rfl rfl fun a E => ?_
        refine sd E (o_bi (E.ev rfl) (E.ev rfl) rfl) rfl rfl rfl fun a E => ?_
        refine GL_nil ?_
        refine tgn ?_
        refine G_cond (E.ev rfl) (fun ht => ?_) (fun ht => ?_)
        · have hf2 := cT ht hf2
          refine G_skip ?_
          refine tgn ?_
          refine G_seq ?_
          refine G_block ?_
          refine G_seq ?_
          refine G_region ?_
          refine sd E (o_mv (E.ev rfl)) rfl rfl rfl fun a E => ?_
          refine sd E (o_mv (E.ev rfl)) rfl rfl rfl fun a E => ?_
          refine sd E (o_rem (E.ev rfl) (E.ev rfl) rfl) rfl rfl rfl fun a E => ?_
          refine sd E (o_cv Tryz.underlying39 Tryz.underlying5 (E.ev rfl)) rfl rfl rfl fun a E => ?_
          refine sh E (o_bs Tryz.underlying136 Tryz.sizeOf5 Tryz.zeroValue5 (qs := #[(0, .int .u8 (IntKind.wrap .u8 (Int.tmod x11 256)))]) (cells := #[.int .u8 (IntKind.wrap .u8 (Int.tmod x11 256))]) (by simp only [List.map_toArray, List.map_cons, List.map_nil, E.ev (x := .tmp 24) rfl]) rfl rfl (by kernel_rfl)) rfl rfl rfl ?_
          rintro a _ s3 ⟨b2, rfl, h5, t3⟩ E
          have h6 := h5.sl (K := (kInt .u8)) (xs := [IntKind.wrap .u8 (Int.tmod x11 256)]) ⟨_, _, rfl, rfl, rfl⟩ rfl
          obtain ⟨x13, hx2, hf2⟩ := ob_some hf2
          obtain ⟨hx2, hz⟩ := ap_some hx2
          refine sh E (o_app Tryz.underlying136 Tryz.type5 rfl rfl rfl rfl rfl rfl (h4.trN t3) h6.rd (E.ev rfl) (E.ev rfl) hx2 (Nat.zero_le _)) rfl rfl rfl ?_
          rintro a w6 s4 ⟨h7, t4⟩ E
          rw [hz] at h7
          refine sd E (o_as (E.ev rfl)) rfl rfl rfl fun a E => ?_
          refine GL_nil ?_
          refine tgn ?_
          refine G_region ?_
          refine sd E (o_mv (E.ev rfl)) rfl rfl rfl fun a E => ?_
          refine sd E (o_quo (E.ev rfl) (E.ev rfl) rfl) rfl rfl rfl fun a E => ?_
          refine sd E (o_as (E.ev rfl)) rfl rfl rfl fun a E => ?_
          refine GL_nil ?_
          refine ebn ?_
          refine tgn ?_
          refine G_region ?_
          refine sd E (o_mv (E.ev rfl)) rfl rfl rfl fun a E => ?_
          refine sd E (o_bi (E.ev rfl) (E.ev rfl) rfl) rfl rfl rfl fun a E => ?_
          refine sd E (o_as (E.ev rfl)) rfl rfl rfl fun a E => ?_
          refine GL_nil ?_
          obtain rfl := Option.some.inj hf2
          exact lpn ⟨_, _, _, _, _, rfl, rfl, ((t2.trans t3.no).trans (t4.mono (by intro t h; subst h; rfl))), h7, (((((((E.nil.ad E rfl rfl).ad E rfl rfl).ad E rfl rfl).ad E rfl rfl).ad E rfl rfl).ad E rfl rfl).ad E rfl rfl)⟩
        · have hf2 := cF ht hf2
          refine G_exit ?_
          refine tge ?_
          obtain rfl := Option.some.inj hf2
          refine lpe fun hr => ?_
          subst hr
          refine ebk ?_
          refine ctn ?_
          exact ⟨_, _, _, _, _, hf1, rfl, t2, h4, (((((((E.nil.ad E rfl rfl).ad E rfl rfl).ad E rfl rfl).ad E rfl rfl).ad E rfl rfl).ad E rfl rfl).ad E rfl rfl)⟩
      · rintro a _ ⟨x14, x15, x16, s5, w7, hf1, rfl, t5, h8, E⟩
        dsimp only [m_83_2k] at hf1
        refine ebn ?_
        refine tgn ?_
        refine G_region ?_
        refine sd E (o_mv (E.ev rfl)) rfl rfl rfl fun a E => ?_
        refine sd E (o_bi (E.ev rfl) (E.ev rfl) rfl) rfl rfl rfl fun a E => ?_
        refine sd E (o_as (E.ev rfl)) rfl rfl rfl fun a E => ?_
        refine GL_nil ?_
        obtain rfl := Option.some.inj hf1
        exact lpn ⟨_, _, _, _, rfl, rfl, (t1.trans t5), h8, ((((E.nil.ad E rfl rfl).ad E rfl rfl).ad E rfl rfl).ad E rfl rfl)⟩
    · have hf1 := cF ht hf1
      refine G_exit ?_
      refine tge ?_
      obtain rfl := Option.some.inj hf1
      refine lpe fun hr => ?_
      subst hr
      refine ebk ?_
      refine ctn ?_
      exact ⟨_, _, _, _, hm, rfl, t1, h2, ((((E.nil.ad E rfl rfl).ad E rfl rfl).ad E rfl rfl).ad E rfl rfl)⟩
  · rintro a _ ⟨x17, x18, s6, w8, hm, rfl, t6, h9, E⟩
    dsimp only [m_83_1k] at hm
    refine tgn ?_
    refine G_seq ?_
    refine G_region ?_
    refine sd E (o_mv (E.ev rfl)) rfl rfl rfl fun a E => ?_
    obtain ⟨s7, e1, h10, t7⟩ := h9.fz
    rw [e1]
    obtain ⟨y1, hx3, hm⟩ := ob_some hm
    refine sh E (o_ok Tryz.call93 (E.evs rfl) (E.ev rfl) (ok_93 _ (x0 := x17) h10 hx3)) rfl rfl rfl ?_
    rintro a _ s8 ⟨t8, rfl⟩ E
    refine sd E (o_as (E.ev rfl)) rfl rfl rfl fun a E => ?_
    refine GL_nil ?_
    refine tgn ?_
    refine G_ret ?_
    cases hm
    exact fin1 E rfl rfl ⟨((((Tr.refl No s).step hk t6 (fun t h => .inr (Nat.le_of_eq (Eq.symm h)))).step hk t7 (by intro t h; subst h; exact .inr (Nat.le_refl _))).stepN t8), rfl⟩

-- gimmal/gimmalref02.Mark

noncomputable def m_69 (x0 : Int) (x1 : Int) (x2 : List Int) : Option (Int × Bool) :=
  ob (bif decide (x0 < 0) then (some true) else (bif decide (x0 > 255) then (some true) else (bif decide (x1 < 0) then (some true) else (some (decide (x1 > 16777215)))))) fun t1 => bif t1 then (some (0, false)) else (ob (ap [IntKind.wrap .u64 x0, IntKind.wrap .u64 x1] x2) fun x4 => ob (m_83 x4) fun y1 => some (IntKind.wrap .u64 ((IntKind.wrap .u64 ((IntKind.wrap .u64 ((IntKind.wrap .u64 x0) * 72057594037927936)) + (IntKind.wrap .u64 ((IntKind.wrap .u64 x1) * 4294967296)))) + (IntKind.wrap .u64 y1)), true))
theorem ok_69 (s : St) {x0 : Int} {x1 : Int} {x2 : List Int} {w1 : Value} (h1 : Sl kU s w1 x2) {r0y : Int} {r1y : Bool} (hm : m_69 x0 x1 x2 = some (r0y, r1y)) :
    Ok Tryz.prog 68 ([.int .i64 x0, .int .i64 x1, w1] : List Value).toArray s fun v s' => Tr No s s' ∧ v = .tuple #[.int .u64 r0y, .bool r1y] := by
  unfold m_69 at hm
  obtain ⟨k, hk⟩ := s.fresh
  refine ok_of (n := 41) _ Tryz.func68 rfl _ rfl rfl fun a E => ?_
  refine G_seq ?_
  refine G_region ?_
  refine sd E (o_as (E.ev rfl)) rfl rfl rfl fun a E => ?_
  refine sd E (o_as (E.ev rfl)) rfl rfl rfl fun a E => ?_
  refine GL_nil ?_
  refine tgn ?_
  refine G_seq ?_
  refine G_seq ?_
  obtain ⟨t1, hc1, hm⟩ := ob_some hm
  refine G_regm (fun a' w' => ∃ s', w' = s'.w ∧ Tr No s s' ∧ En [] 41 a' [(22, .bool t1), (0, .int .i64 x0), (1, .int .i64 x1), (2, w1), (6, .int .u64 0), (7, .bool false)]) ?_ ?_
  · refine sd E (o_mv (E.ev rfl)) rfl rfl rfl fun a E => ?_
    refine sd E (o_bi (E.ev rfl) (E.ev rfl) rfl) rfl rfl rfl fun a E => ?_
    refine sd E (o_mv (E.ev rfl)) rfl rfl rfl fun a E => ?_
    refine bcase (E.ev (x := .tmp 11) rfl) (fun ht => ?_) (fun ht => ?_)
    · have hc1 := cT ht hc1
      rw [ht] at E
      refine sk E rfl rfl rfl fun a E => ?_
      refine sk E rfl rfl rfl fun a E => ?_
      refine sd E (o_pickT (E.ev rfl) (E.ev rfl)) rfl rfl rfl fun a E => ?_
      refine sd E (o_mv (E.ev rfl)) rfl rfl rfl fun a E => ?_
      refine sk E rfl rfl rfl fun a E => ?_
      refine sk E rfl rfl rfl fun a E => ?_
      refine sd E (o_pickT (E.ev rfl) (E.ev rfl)) rfl rfl rfl fun a E => ?_
      refine sd E (o_mv (E.ev rfl)) rfl rfl rfl fun a E => ?_
      refine sk E rfl rfl rfl fun a E => ?_
      refine sk E rfl rfl rfl fun a E => ?_
      refine sd E (o_pickT (E.ev rfl) (E.ev rfl)) rfl rfl rfl fun a E => ?_
      obtain rfl := Option.some.inj hc1
      exact GL_nil ⟨_, rfl, (Tr.refl _ _), ((((((E.nil.ad E rfl rfl).ad E rfl rfl).ad E rfl rfl).ad E rfl rfl).ad E rfl rfl).ad E rfl rfl)⟩
    · have hc1 := cF ht hc1
      rw [ht] at E
      refine sd E (o_mv (E.ev rfl)) rfl rfl rfl fun a E => ?_
      refine sd E (o_bi (E.ev rfl) (E.ev rfl) rfl) rfl rfl rfl fun a E => ?_
      refine sd E (o_pickF (E.ev rfl) (E.ev rfl)) rfl rfl rfl fun a E => ?_
      refine sd E (o_mv (E.ev rfl)) rfl rfl rfl fun a E => ?_
      refine bcase (E.ev (x := .tmp 15) rfl) (fun ht => ?_) (fun ht => ?_)
      · have hc1 := cT ht hc1
        rw [ht] at E
        refine sk E rfl rfl rfl fun a E => ?_
        refine sk E rfl rfl rfl fun a E => ?_
        refine sd E (o_pickT (E.ev rfl) (E.ev rfl)) rfl rfl rfl fun a E => ?_
        refine sd E (o_mv (E.ev rfl)) rfl rfl rfl fun a E => ?_
        refine sk E rfl rfl rfl fun a E => ?_
        refine sk E rfl rfl rfl fun a E => ?_
        refine sd E (o_pickT (E.ev rfl) (E.ev rfl)) rfl rfl rfl fun a E => ?_
        obtain rfl := Option.some.inj hc1
        exact GL_nil ⟨_, rfl, (Tr.refl _ _), ((((((E.nil.ad E rfl rfl).ad E rfl rfl).ad E rfl rfl).ad E rfl rfl).ad E rfl rfl).ad E rfl rfl)⟩
      · have hc1 := cF ht hc1
        rw [ht] at E
        refine sd E (o_mv (E.ev rfl)) rfl rfl rfl fun a E => ?_
        refine sd E (o_bi (E.ev rfl) (E.ev rfl) rfl) rfl rfl rfl fun a E => ?_
        refine sd E (o_pickF (E.ev rfl) (E.ev rfl)) rfl rfl rfl fun a E => ?_
        refine sd E (o_mv (E.ev rfl)) rfl rfl rfl fun a E => ?_
        refine bcase (E.ev (x := .tmp 19) rfl) (fun ht => ?_) (fun ht => ?_)
        · have hc1 := cT ht hc1
          rw [ht] at E
          refine sk E rfl rfl rfl fun a E => ?_
          refine sk E rfl rfl rfl fun a E => ?_
          refine sd E (o_pickT (E.ev rfl) (E.ev rfl)) rfl rfl rfl fun a E => ?_
          obtain rfl := Option.some.inj hc1
          exact GL_nil ⟨_, rfl, (Tr.refl _ _), ((((((E.nil.ad E rfl rfl).ad E rfl rfl).ad E rfl rfl).ad E rfl rfl).ad E rfl rfl).ad E rfl rfl)⟩
        · have hc1 := cF ht hc1
          rw [ht] at E
          refine sd E (o_mv (E.ev rfl)) rfl rfl rfl fun a E => ?_
          refine sd E (o_bi (E.ev rfl) (E.ev rfl) rfl) rfl rfl rfl fun a E => ?_
          refine sd E (o_pickF (E.ev rfl) (E.ev rfl)) rfl rfl rfl fun a E => ?_
          obtain rfl := Option.some.inj hc1
          exact GL_nil ⟨_, rfl, (Tr.refl _ _), ((((((E.nil.ad E rfl rfl).ad E rfl rfl).ad E rfl rfl).ad E rfl rfl).ad E rfl rfl).ad E rfl rfl)⟩
  rintro a _ ⟨s1, rfl, t2, E⟩
  refine tgn ?_
  refine G_cond (E.ev rfl) (fun ht => ?_) (fun ht => ?_)
  · have hm := cT ht hm
    refine G_seq ?_
    refine G_region ?_
    refine sd E (o_as (E.ev rfl)) rfl rfl rfl fun a E => ?_
    refine sd E (o_as (E.ev rfl)) rfl rfl rfl fun a E => ?_
    refine GL_nil ?_
    refine tgn ?_
    refine G_ret ?_
    refine tgr ?_
    cases hm
    exact fin2 E rfl rfl rfl ⟨((Tr.refl No s).stepN t2), rfl⟩
  · have hm := cF ht hm
    refine G_skip ?_
    refine tgn ?_
    refine G_seq ?_
    refine G_region ?_
    refine sd E (o_mv (E.ev rfl)) rfl rfl rfl fun a E => ?_
    refine sd E (o_cv Tryz.underlying3 Tryz.underlying39 (E.ev rfl)) rfl rfl rfl fun a E => ?_
    refine sd E (o_mv (E.ev rfl)) rfl rfl rfl fun a E => ?_
    refine sd E (o_cv Tryz.underlying3 Tryz.underlying39 (E.ev rfl)) rfl rfl rfl fun a E => ?_
    refine sh E (o_bso (k, 1001) Tryz.underlying36 Tryz.sizeOf39 Tryz.zeroValue39 (qs := #[(0, .int .u64 (IntKind.wrap .u64 x0)), (1, .int .u64 (IntKind.wrap .u64 x1))]) (cells := #[.int .u64 (IntKind.wrap .u64 x0), .int .u64 (IntKind.wrap .u64 x1)]) (by simp only [List.map_toArray, List.map_cons, List.map_nil, E.ev (x := .tmp 24) rfl, E.ev (x := .tmp 26) rfl]) rfl rfl (by kernel_rfl)) rfl rfl rfl ?_
    rintro a _ s2 ⟨b1, rfl, h2, t3⟩ E
    have h3 := h2.bd (K := kU) (xs := [IntKind.wrap .u64 x0, IntKind.wrap .u64 x1]) (B := 0) (Nat.zero_le _) ⟨_, _, rfl, rfl, ⟨_, _, rfl, rfl, rfl⟩⟩ rfl rfl
    refine sd E (o_mv (E.ev rfl)) rfl rfl rfl fun a E => ?_
    obtain ⟨x4, hx1, hm⟩ := ob_some hm
    obtain ⟨hx1, hz⟩ := ap_some hx1
    refine sh E (o_app Tryz.underlying36 Tryz.type39 rfl rfl rfl rfl rfl rfl h3 ((h1.tr t2).tr t3).rd (E.ev rfl) (E.ev rfl) hx1 (Nat.zero_le _)) rfl rfl rfl ?_
    rintro a w2 s3 ⟨h4, t4⟩ E
    rw [hz] at h4
    refine sd E (o_as (E.ev rfl)) rfl rfl rfl fun a E => ?_
    refine GL_nil ?_
    refine tgn ?_
    refine G_seq ?_
    refine G_region ?_
    refine sd E (o_mv (E.ev rfl)) rfl rfl rfl fun a E => ?_
    refine sd E (o_cv Tryz.underlying3 Tryz.underlying39 (E.ev rfl)) rfl rfl rfl fun a E => ?_
    refine sd E (o_bi (E.ev rfl) (E.ev rfl) rfl) rfl rfl rfl fun a E => ?_
    refine sd E (o_mv (E.ev rfl)) rfl rfl rfl fun a E => ?_
    refine sd E (o_cv Tryz.underlying3 Tryz.underlying39 (E.ev rfl)) rfl rfl rfl fun a E => ?_
    refine sd E (o_bi (E.ev rfl) (E.ev rfl) rfl) rfl rfl rfl fun a E => ?_
    refine sd E (o_bi (E.ev rfl) (E.ev rfl) rfl) rfl rfl rfl fun a E => ?_
    refine sd E (o_mv (E.ev rfl)) rfl rfl rfl fun a E => ?_
    obtain ⟨s4, e1, h5, t5⟩ := h4.fz
    rw [e1]
    obtain ⟨y1, hx2, hm⟩ := ob_some hm
    refine sh E (o_ok Tryz.call84 (E.evs rfl) (E.ev rfl) (ok_83 _ (x0 := x4) h5 hx2)) rfl rfl rfl ?_
    rintro a _ s5 ⟨t6, rfl⟩ E
    refine sd E (o_cv Tryz.underlying126 Tryz.underlying39 (E.ev rfl)) rfl rfl rfl fun a E => ?_
    refine sd E (o_bi (E.ev rfl) (E.ev rfl) rfl) rfl rfl rfl fun a E => ?_
    refine sd E (o_as (E.ev rfl)) rfl rfl rfl fun a E => ?_
    refine sd E (o_as (E.ev rfl)) rfl rfl rfl fun a E => ?_
    refine GL_nil ?_
    refine tgn ?_
    refine G_ret ?_
    cases hm
    exact fin2 E rfl rfl rfl ⟨((((((Tr.refl No s).stepN t2).stepN t3).step hk t4 (by intro t h; subst h; exact .inr (Nat.le_refl _))).step hk t5 (by intro t h; subst h; exact .inr (Nat.le_refl _))).stepN t6), rfl⟩

-- gimmal/log.Cost

noncomputable def m_37 (x0 : Frame) : Option Int :=
  ob (m_36 x0) fun y1 => bif !y1 then (some 0) else (some (IntKind.wrap .i64 (1 + (x0.Words.length : Int))))
theorem ok_37 (s : St) {x0 : Frame} {w1 : Value} (h1 : Sl kU s w1 x0.Words) {r0y : Int} (hm : m_37 x0 = some r0y) :
    Ok Tryz.prog 69 ([.agg #[.int .i64 x0.Kind, w1]] : List Value).toArray s fun v s' => Tr No s s' ∧ v = .int .i64 r0y := by
  unfold m_37 at hm
  obtain ⟨k, hk⟩ := s.fresh
  refine ok_of (n := 10) _ Tryz.func69 rfl _ rfl rfl fun a E => ?_
  refine G_seq ?_
  refine G_region ?_
  obtain ⟨a1, c1, rfl⟩ := h1.isS
  refine sh E (o_box (E.ev rfl)) rfl rfl rfl ?_
  rintro a _ s1 ⟨b1, rfl, o1, t1⟩ E
  refine sd E (o_as (E.ev rfl)) rfl rfl rfl fun a E => ?_
  refine GL_nil ?_
  refine tgn ?_
  refine G_seq ?_
  refine G_seq ?_
  refine G_region ?_
  refine sd E (o_ldc (cs := #[.int .i64 x0.Kind, (.slice a1 x0.Words.length c1)]) Tryz.isAgg38 Tryz.sizeOf38 (E.ev rfl) o1.cell) rfl rfl rfl fun a E => ?_
  obtain ⟨y1, hx1, hm⟩ := ob_some hm
  refine sh E (o_ok Tryz.call61 (E.evs rfl) (E.ev rfl) (ok_36 _ (x0 := x0) (h1.tr t1) hx1)) rfl rfl rfl ?_
  rintro a _ s2 ⟨t2, rfl⟩ E
  refine sd E (o_not (E.ev rfl)) rfl rfl rfl fun a E => ?_
  refine GL_nil ?_
  refine tgn ?_
  refine G_cond (E.ev rfl) (fun ht => ?_) (fun ht => ?_)
  · have hm := cT ht hm
    refine G_seq ?_
    refine G_region ?_
    refine sd E (o_as (E.ev rfl)) rfl rfl rfl fun a E => ?_
    refine GL_nil ?_
    refine tgn ?_
    refine G_ret ?_
    refine tgr ?_
    cases hm
    exact fin1 E rfl rfl ⟨(((Tr.refl No s).stepN t1).stepN t2), rfl⟩
  · have hm := cF ht hm
    refine G_skip ?_
    refine tgn ?_
    refine G_seq ?_
    refine G_region ?_
    refine sd E (o_fa Tryz.underlying38 rfl Tryz.sizeOf36 (E.ev rfl)) rfl rfl rfl fun a E => ?_
    refine sd E (o_ld Tryz.isAgg36 (E.ev rfl) (((o1.tr t2).cell _).trans rfl)) rfl rfl rfl fun a E => ?_
    refine sd E (o_lenS (xs := x0.Words) Tryz.underlying36 (E.ev rfl) ((h1.tr t1).tr t2).isS) rfl rfl rfl fun a E => ?_
    refine sd E (o_bi (E.ev rfl) (E.ev rfl) rfl) rfl rfl rfl fun a E => ?_
    refine sd E (o_as (E.ev rfl)) rfl rfl rfl fun a E => ?_
    refine GL_nil ?_
    refine tgn ?_
    refine G_ret ?_
    cases hm
    exact fin1 E rfl rfl ⟨(((Tr.refl No s).stepN t1).stepN t2), rfl⟩

-- gimmal/gimmalref06.Put

noncomputable def m_48 (x0 : Int) (x1 : Int) (x2 : Frame) : Option (List Int) :=
  ob (ap [IntKind.wrap .u64 x0, IntKind.wrap .u64 x1] x2.Words) fun x4 => ob (m_69 x2.Kind (x2.Words.length : Int) x4) fun (y1, y2) => ob (ap [y1] x2.Words) fun x5 => some x5
theorem ok_48 (s : St) {x0 : Int} {x1 : Int} {x2 : Frame} {w1 : Value} (h1 : Sl kU s w1 x2.Words) {r0y : List Int} (hm : m_48 x0 x1 x2 = some r0y) :
    Ok Tryz.prog 38 ([.int .i64 x0, .int .i64 x1, .agg #[.int .i64 x2.Kind, w1]] : List Value).toArray s fun v s' => Tr No s s' ∧ ∃ w2, v = w2 ∧ Sl kU s' w2 r0y := by
  unfold m_48 at hm
  obtain ⟨k, hk⟩ := s.fresh
  refine ok_of (n := 33) _ Tryz.func38 rfl _ rfl rfl fun a E => ?_
  refine G_seq ?_
  refine G_region ?_
  obtain ⟨a1, c1, rfl⟩ := h1.isS
  refine sh E (o_box (E.ev rfl)) rfl rfl rfl ?_
  rintro a _ s1 ⟨b1, rfl, o1, t1⟩ E
  refine sd E (o_as (E.ev rfl)) rfl rfl rfl fun a E => ?_
  refine GL_nil ?_
  refine tgn ?_
  refine G_seq ?_
  refine G_region ?_
  refine sd E (o_mv (E.ev rfl)) rfl rfl rfl fun a E => ?_
  refine sd E (o_cv Tryz.underlying3 Tryz.underlying39 (E.ev rfl)) rfl rfl rfl fun a E => ?_
  refine sd E (o_mv (E.ev rfl)) rfl rfl rfl fun a E => ?_
  refine sd E (o_cv Tryz.underlying3 Tryz.underlying39 (E.ev rfl)) rfl rfl rfl fun a E => ?_
  refine sh E (o_bso (k, 1001) Tryz.underlying36 Tryz.sizeOf39 Tryz.zeroValue39 (qs := #[(0, .int .u64 (IntKind.wrap .u64 x0)), (1, .int .u64 (IntKind.wrap .u64 x1))]) (cells := #[.int .u64 (IntKind.wrap .u64 x0), .int .u64 (IntKind.wrap .u64 x1)]) (by simp only [List.map_toArray, List.map_cons, List.map_nil, E.ev (x := .tmp 11) rfl, E.ev (x := .tmp 13) rfl]) rfl rfl (by kernel_rfl)) rfl rfl rfl ?_
  rintro a _ s2 ⟨b2, rfl, h2, t2⟩ E
  have h3 := h2.bd (K := kU) (xs := [IntKind.wrap .u64 x0, IntKind.wrap .u64 x1]) (B := 0) (Nat.zero_le _) ⟨_, _, rfl, rfl, ⟨_, _, rfl, rfl, rfl⟩⟩ rfl rfl
  refine sd E (o_fa Tryz.underlying38 rfl Tryz.sizeOf36 (E.ev rfl)) rfl rfl rfl fun a E => ?_
  refine sd E (o_ld Tryz.isAgg36 (E.ev rfl) (((o1.tr t2).cell _).trans rfl)) rfl rfl rfl fun a E => ?_
  obtain ⟨x4, hx1, hm⟩ := ob_some hm
  obtain ⟨hx1, hz⟩ := ap_some hx1
  refine sh E (o_app Tryz.underlying36 Tryz.type39 rfl rfl rfl rfl rfl rfl h3 ((h1.tr t1).tr t2).rd (E.ev rfl) (E.ev rfl) hx1 (Nat.zero_le _)) rfl rfl rfl ?_
  rintro a w3 s3 ⟨h4, t3⟩ E
  rw [hz] at h4
  refine sd E (o_as (E.ev rfl)) rfl rfl rfl fun a E => ?_
  refine GL_nil ?_
  refine tgn ?_
  refine G_seq ?_
  refine G_region ?_
  refine sd E (o_fa Tryz.underlying38 rfl Tryz.sizeOf3 (E.ev rfl)) rfl rfl rfl fun a E => ?_
  refine sd E (o_ld Tryz.isAgg3 (E.ev rfl) ((((o1.tr t2).tr t3).cell _).trans rfl)) rfl rfl rfl fun a E => ?_
  refine sd E (o_fa Tryz.underlying38 rfl Tryz.sizeOf36 (E.ev rfl)) rfl rfl rfl fun a E => ?_
  refine sd E (o_ld Tryz.isAgg36 (E.ev rfl) ((((o1.tr t2).tr t3).cell _).trans rfl)) rfl rfl rfl fun a E => ?_
  refine sd E (o_lenS (xs := x2.Words) Tryz.underlying36 (E.ev rfl) (((h1.tr t1).tr t2).tr t3).isS) rfl rfl rfl fun a E => ?_
  refine sd E (o_mv (E.ev rfl)) rfl rfl rfl fun a E => ?_
  obtain ⟨s4, e1, h5, t4⟩ := h4.fz
  rw [e1]
  obtain ⟨⟨y1, y2⟩, hx2, hm⟩ := ob_some hm
  refine sh E (o_ok Tryz.call68 (E.evs rfl) (E.ev rfl) (ok_69 _ (x0 := x2.Kind) (x1 := (x2.Words.length : Int)) (x2 := x4) h5 hx2)) rfl rfl rfl ?_
  rintro a _ s5 ⟨t5, rfl⟩ E
  refine sd E (o_mv (E.ev rfl)) rfl rfl rfl fun a E => ?_
  refine sd E (o_ext (v := .int .u64 y1) (E.ev rfl) rfl) rfl rfl rfl fun a E => ?_
  refine sd E (o_ext (v := .bool y2) (E.ev rfl) rfl) rfl rfl rfl fun a E => ?_
  refine sd E (o_as (E.ev rfl)) rfl rfl rfl fun a E => ?_
  refine sd E (o_as (E.ev rfl)) rfl rfl rfl fun a E => ?_
  refine GL_nil ?_
  refine tgn ?_
  refine G_seq ?_
  refine G_region ?_
  refine sd E (o_mv (E.ev rfl)) rfl rfl rfl fun a E => ?_
  refine sh E (o_bso (k, 1002) Tryz.underlying36 Tryz.sizeOf39 Tryz.zeroValue39 (qs := #[(0, .int .u64 y1)]) (cells := #[.int .u64 y1]) (by simp only [List.map_toArray, List.map_cons, List.map_nil, E.ev (x := .tmp 28) rfl]) rfl rfl (by kernel_rfl)) rfl rfl rfl ?_
  rintro a _ s6 ⟨b3, rfl, h6, t6⟩ E
  have h7 := h6.bd (K := kU) (xs := [y1]) (B := 0) (Nat.zero_le _) ⟨_, _, rfl, rfl, rfl⟩ rfl rfl
  refine sd E (o_fa Tryz.underlying38 rfl Tryz.sizeOf36 (E.ev rfl)) rfl rfl rfl fun a E => ?_
  refine sd E (o_ld Tryz.isAgg36 (E.ev rfl) (((((((o1.tr t2).tr t3).tr t4).tr t5).tr t6).cell _).trans rfl)) rfl rfl rfl fun a E => ?_
  obtain ⟨x5, hx3, hm⟩ := ob_some hm
  obtain ⟨hx3, hz⟩ := ap_some hx3
  refine sh E (o_app Tryz.underlying36 Tryz.type39 rfl rfl rfl rfl rfl rfl h7 ((((((h1.tr t1).tr t2).tr t3).tr t4).tr t5).tr t6).rd (E.ev rfl) (E.ev rfl) hx3 (Nat.zero_le _)) rfl rfl rfl ?_
  rintro a w4 s7 ⟨h8, t7⟩ E
  rw [hz] at h8
  refine sd E (o_as (E.ev rfl)) rfl rfl rfl fun a E => ?_
  refine GL_nil ?_
  refine tgn ?_
  refine G_ret ?_
  cases hm
  obtain ⟨s8, e2, h9, t8⟩ := h8.fz
  rw [e2]
  exact fin1 E rfl rfl ⟨(((((((((Tr.refl No s).stepN t1).stepN t2).step hk t3 (by intro t h; subst h; exact .inr (Nat.le_refl _))).step hk t4 (by intro t h; subst h; exact .inr (Nat.le_refl _))).stepN t5).stepN t6).step hk t7 (by intro t h; subst h; exact .inr (Nat.le_refl _))).step hk t8 (by intro t h; subst h; exact .inr (Nat.le_refl _))), _, rfl, h9⟩

-- gimmal/gimmalref06.Get

noncomputable def m_42 (x0 : Int) (x1 : Int) (x2 : List Int) : Option (Frame × Int × Bool) :=
  ob (bif (x2.length : Int) == 0 then (some true) else (ob (m_68 x0) fun y1 => bif !y1 then (some true) else (ob (m_68 x1) fun y2 => some (!y2)))) fun t2 => bif t2 then (some ((⟨0, []⟩ : Frame), 0, false)) else (ob (gt x2 0) fun x4 => ob (gt x2 0) fun x5 => ob (bif (IntKind.wrap .i64 (IntKind.wrap .u64 (Int.tdiv x4 72057594037927936))) == 0 then (some true) else (bif decide ((IntKind.wrap .i64 (Int.tmod (IntKind.wrap .u64 (Int.tdiv x5 4294967296)) 16777216)) > 2000) then (some true) else (some (decide ((IntKind.wrap .i64 ((IntKind.wrap .i64 (Int.tmod (IntKind.wrap .u64 (Int.tdiv x5 4294967296)) 16777216)) + 1)) > (x2.length : Int)))))) fun t8 => bif t8 then (some ((⟨0, []⟩ : Frame), 0, false)) else (ob (sl x2 1 (IntKind.wrap .i64 (1 + (IntKind.wrap .i64 (Int.tmod (IntKind.wrap .u64 (Int.tdiv x5 4294967296)) 16777216))))) fun x6 => ob (ap [] x6) fun x7 => ob (gt x2 0) fun x8 => ob (m_48 x0 x1 (⟨IntKind.wrap .i64 (IntKind.wrap .u64 (Int.tdiv x4 72057594037927936)), x7⟩ : Frame)) fun y3 => ob (gt y3 0) fun x9 => bif x9 != x8 then (some ((⟨0, []⟩ : Frame), 0, false)) else (some ((⟨IntKind.wrap .i64 (IntKind.wrap .u64 (Int.tdiv x4 72057594037927936)), x7⟩ : Frame), IntKind.wrap .i64 ((IntKind.wrap .i64 (Int.tmod (IntKind.wrap .u64 (Int.tdiv x5 4294967296)) 16777216)) + 1), true))))
theorem ok_42 (s : St) {x0 : Int} {x1 : Int} {x2 : List Int} {w1 : Value} (h1 : Sl kU s w1 x2) {r0y : Frame} {r1y : Int} {r2y : Bool} (hm : m_42 x0 x1 x2 = some (r0y, r1y, r2y)) :
    Ok Tryz.prog 58 ([.int .i64 x0, .int .i64 x1, w1] : List Value).toArray s fun v s' => Tr No s s' ∧ ∃ w2, v = .tuple #[.agg #[.int .i64 r0y.Kind, w2], .int .i64 r1y, .bool r2y] ∧ Sl kU s' w2 r0y.Words := by
  unfold m_42 at hm
  obtain ⟨k, hk⟩ := s.fresh
  refine ok_of (n := 73) _ Tryz.func58 rfl _ rfl rfl fun a E => ?_
  refine G_seq ?_
  refine G_region ?_
  refine sh E (o_al (k, 1001) Tryz.zeroValue38) rfl rfl rfl ?_
  rintro a _ s1 ⟨b1, rfl, o1, t1⟩ E
  refine sd E (o_as (E.ev rfl)) rfl rfl rfl fun a E => ?_
  refine sd E (o_as (E.ev rfl)) rfl rfl rfl fun a E => ?_
  refine GL_nil ?_
  refine tgn ?_
  refine G_seq ?_
  refine G_seq ?_
  obtain ⟨t2, hc1, hm⟩ := ob_some hm
  refine G_regm (fun a' w' => ∃ s', w' = s'.w ∧ Tr No s1 s' ∧ En [] 73 a' [(24, .bool t2), (0, .int .i64 x0), (1, .int .i64 x1), (2, w1), (6, .pointer (some ⟨b1, 0, none⟩)), (7, .int .i64 0), (8, .bool false)]) ?_ ?_
  · refine sd E (o_mv (E.ev rfl)) rfl rfl rfl fun a E => ?_
    refine sd E (o_lenS (xs := x2) Tryz.underlying36 (E.ev rfl) (h1.tr t1).isS) rfl rfl rfl fun a E => ?_
    refine sd E (o_bi (E.ev rfl) (E.ev rfl) rfl) rfl rfl rfl fun a E => ?_
    refine sd E (o_mv (E.ev rfl)) rfl rfl rfl fun a E => ?_
    refine bcase (E.ev (x := .tmp 15) rfl) (fun ht => ?_) (fun ht => ?_)
    · have hc1 := cT ht hc1
      rw [ht] at E
      refine sk E rfl rfl rfl fun a E => ?_
      refine sk E rfl rfl rfl fun a E => ?_
      refine sk E rfl rfl rfl fun a E => ?_
      refine sd E (o_pickT (E.ev rfl) (E.ev rfl)) rfl rfl rfl fun a E => ?_
      refine sd E (o_mv (E.ev rfl)) rfl rfl rfl fun a E => ?_
      refine sk E rfl rfl rfl fun a E => ?_
      refine sk E rfl rfl rfl fun a E => ?_
      refine sk E rfl rfl rfl fun a E => ?_
      refine sd E (o_pickT (E.ev rfl) (E.ev rfl)) rfl rfl rfl fun a E => ?_
      obtain rfl := Option.some.inj hc1
      exact GL_nil ⟨_, rfl, (Tr.refl _ _), (((((((E.nil.ad E rfl rfl).ad E rfl rfl).ad E rfl rfl).ad E rfl rfl).ad E rfl rfl).ad E rfl rfl).ad E rfl rfl)⟩
    · have hc1 := cF ht hc1
      rw [ht] at E
      refine sd E (o_mv (E.ev rfl)) rfl rfl rfl fun a E => ?_
      obtain ⟨y1, hx1, hc1⟩ := ob_some hc1
      refine sh E (o_ok Tryz.call78 (E.evs rfl) (E.ev rfl) (ok_68 _ (x0 := x0) hx1)) rfl rfl rfl ?_
      rintro a _ s2 ⟨t3, rfl⟩ E
      refine sd E (o_not (E.ev rfl)) rfl rfl rfl fun a E => ?_
      refine sd E (o_pickF (E.ev rfl) (E.ev rfl)) rfl rfl rfl fun a E => ?_
      refine sd E (o_mv (E.ev rfl)) rfl rfl rfl fun a E => ?_
      refine bcase (E.ev (x := .tmp 20) rfl) (fun ht => ?_) (fun ht => ?_)
      · have hc1 := cT ht hc1
        rw [ht] at E
        refine sk E rfl rfl rfl fun a E => ?_
        refine sk E rfl rfl rfl fun a E => ?_
        refine sk E rfl rfl rfl fun a E => ?_
        refine sd E (o_pickT (E.ev rfl) (E.ev rfl)) rfl rfl rfl fun a E => ?_
        obtain rfl := Option.some.inj hc1
        exact GL_nil ⟨_, rfl, t3, (((((((E.nil.ad E rfl rfl).ad E rfl rfl).ad E rfl rfl).ad E rfl rfl).ad E rfl rfl).ad E rfl rfl).ad E rfl rfl)⟩
      · have hc1 := cF ht hc1
        rw [ht] at E
        refine sd E (o_mv (E.ev rfl)) rfl rfl rfl fun a E => ?_
        obtain ⟨y2, hx2, hc1⟩ := ob_some hc1
        refine sh E (o_ok Tryz.call78 (E.evs rfl) (E.ev rfl) (ok_68 _ (x0 := x1) hx2)) rfl rfl rfl ?_
        rintro a _ s3 ⟨t4, rfl⟩ E
        refine sd E (o_not (E.ev rfl)) rfl rfl rfl fun a E => ?_
        refine sd E (o_pickF (E.ev rfl) (E.ev rfl)) rfl rfl rfl fun a E => ?_
        obtain rfl := Option.some.inj hc1
        exact GL_nil ⟨_, rfl, (t3.trans t4), (((((((E.nil.ad E rfl rfl).ad E rfl rfl).ad E rfl rfl).ad E rfl rfl).ad E rfl rfl).ad E rfl rfl).ad E rfl rfl)⟩
  rintro a _ ⟨s4, rfl, t5, E⟩
  refine tgn ?_
  refine G_cond (E.ev rfl) (fun ht => ?_) (fun ht => ?_)
  · have hm := cT ht hm
    refine G_seq ?_
    refine G_region ?_
    refine sd E (o_bd (places := #[(0, 1), (1, 1)]) Tryz.zeroValue38 Tryz.underlying38 (fun w => by simp [Sem.run_bind, Result.andThen, Tryz.sizeOf3, Tryz.sizeOf36]) (qs := #[]) (by simp only [List.map_toArray, List.map_cons, List.map_nil]) rfl) rfl rfl rfl fun a E => ?_
    refine shN E (o_st (v := .agg #[.int .i64 0, (.slice none 0 0)]) Tryz.sizeOf38 (o1.trN t5) (E.ev rfl) (E.ev rfl) (Nat.le_of_ble_eq_true rfl) (by intro u hu; simp [Value.cells] at hu; (try rcases hu with hu | hu) <;> subst hu <;> rfl) rfl) rfl rfl ?_
    rintro _ s5 ⟨o2, t6⟩
    refine sd E (o_as (E.ev rfl)) rfl rfl rfl fun a E => ?_
    refine sd E (o_as (E.ev rfl)) rfl rfl rfl fun a E => ?_
    refine GL_nil ?_
    refine tgn ?_
    refine G_ret ?_
    refine tgr ?_
    cases hm
    exact fin3 E rfl (rv_cell (cs := #[.int .i64 0, (.slice none 0 0)]) rfl Tryz.isAgg38 Tryz.sizeOf38 o2.cell) rfl rfl ⟨((((Tr.refl No s).stepN t1).stepN t5).step hk t6 (by intro t h; subst h; exact .inr (Nat.le_refl _))), _, rfl, Sl.nil⟩
  · have hm := cF ht hm
    refine G_skip ?_
    refine tgn ?_
    refine G_seq ?_
    refine G_drw k (by rfl) [0, 1, 2, 3, 4, 5, 6, 7, 8, 9, 10, 11, 12] (by kernel_rfl) ?_
    intro s6 t7
    refine dp E rfl (fun w => (o_mv (E.ev rfl))) rfl rfl rfl fun a E => ?_
    obtain ⟨x4, hx3, hm⟩ := ob_some hm
    obtain ⟨b2, p1, g1, h2⟩ := (((h1.tr t1).tr t5).tr t7).gt hx3
    refine dp E rfl (fun w => (o_ixg Tryz.underlying36 Tryz.sizeOf39 g1 (E.ev rfl) (E.ev rfl))) rfl rfl rfl fun a E => ?_
    refine dr E rfl (fun s' t => (o_ld Tryz.isAgg39 (E.ev rfl) (h2.tr t).cell)) rfl rfl rfl rfl fun a E => ?_
    refine dp E rfl (fun w => (o_quo (E.ev rfl) (E.ev rfl) rfl)) rfl rfl rfl fun a E => ?_
    refine dp E rfl (fun w => (o_cv Tryz.underlying39 Tryz.underlying3 (E.ev rfl))) rfl rfl rfl fun a E => ?_
    refine dp E rfl (fun w => (o_mv (E.ev rfl))) rfl rfl rfl fun a E => ?_
    obtain ⟨x5, hx4, hm⟩ := ob_some hm
    obtain ⟨b3, p2, g2, h3⟩ := (((h1.tr t1).tr t5).tr t7).gt hx4
    refine dp E rfl (fun w => (o_ixg Tryz.underlying36 Tryz.sizeOf39 g2 (E.ev rfl) (E.ev rfl))) rfl rfl rfl fun a E => ?_
    refine dr E rfl (fun s' t => (o_ld Tryz.isAgg39 (E.ev rfl) (h3.tr t).cell)) rfl rfl rfl rfl fun a E => ?_
    refine dp E rfl (fun w => (o_quo (E.ev rfl) (E.ev rfl) rfl)) rfl rfl rfl fun a E => ?_
    refine dp E rfl (fun w => (o_rem (E.ev rfl) (E.ev rfl) rfl)) rfl rfl rfl fun a E => ?_
    refine dp E rfl (fun w => (o_cv Tryz.underlying39 Tryz.underlying3 (E.ev rfl))) rfl rfl rfl fun a E => ?_
    refine dp E rfl (fun w => (o_as (E.ev rfl))) rfl rfl rfl fun a E => ?_
    refine dp E rfl (fun w => (o_as (E.ev rfl))) rfl rfl rfl fun a E => ?_
    refine gd_nil ?_
    refine tgn ?_
    refine G_seq ?_
    refine G_seq ?_
    obtain ⟨t8, hc2, hm⟩ := ob_some hm
    refine G_regm (fun a' w' => ∃ s', w' = s'.w ∧ Tr No s6 s' ∧ En [] 73 a' [(49, .bool t8), (0, .int .i64 x0), (1, .int .i64 x1), (2, w1), (6, .pointer (some ⟨b1, 0, none⟩)), (7, .int .i64 0), (8, .bool false), (9, .int .i64 (IntKind.wrap .i64 (IntKind.wrap .u64 (Int.tdiv x4 72057594037927936)))), (10, .int .i64 (IntKind.wrap .i64 (Int.tmod (IntKind.wrap .u64 (Int.tdiv x5 4294967296)) 16777216))), (24, .bool t2)]) ?_ ?_
    · refine sd E (o_mv (E.ev rfl)) rfl rfl rfl fun a E => ?_
      refine sd E (o_bi (E.ev rfl) (E.ev rfl) rfl) rfl rfl rfl fun a E => ?_
      refine sd E (o_mv (E.ev rfl)) rfl rfl rfl fun a E => ?_
      refine bcase (E.ev (x := .tmp 39) rfl) (fun ht => ?_) (fun ht => ?_)
      · have hc2 := cT ht hc2
        rw [ht] at E
        refine sk E rfl rfl rfl fun a E => ?_
        refine sk E rfl rfl rfl fun a E => ?_
        refine sd E (o_pickT (E.ev rfl) (E.ev rfl)) rfl rfl rfl fun a E => ?_
        refine sd E (o_mv (E.ev rfl)) rfl rfl rfl fun a E => ?_
        refine sk E rfl rfl rfl fun a E => ?_
        refine sk E rfl rfl rfl fun a E => ?_
        refine sk E rfl rfl rfl fun a E => ?_
        refine sk E rfl rfl rfl fun a E => ?_
        refine sk E rfl rfl rfl fun a E => ?_
        refine sd E (o_pickT (E.ev rfl) (E.ev rfl)) rfl rfl rfl fun a E => ?_
        obtain rfl := Option.some.inj hc2
        exact GL_nil ⟨_, rfl, (Tr.refl _ _), ((((((((((E.nil.ad E rfl rfl).ad E rfl rfl).ad E rfl rfl).ad E rfl rfl).ad E rfl rfl).ad E rfl rfl).ad E rfl rfl).ad E rfl rfl).ad E rfl rfl).ad E rfl rfl)⟩
      · have hc2 := cF ht hc2
        rw [ht] at E
        refine sd E (o_mv (E.ev rfl)) rfl rfl rfl fun a E => ?_
        refine sd E (o_bi (E.ev rfl) (E.ev rfl) rfl) rfl rfl rfl fun a E => ?_
        refine sd E (o_pickF (E.ev rfl) (E.ev rfl)) rfl rfl rfl fun a E => ?_
        refine sd E (o_mv (E.ev rfl)) rfl rfl rfl fun a E => ?_
        refine bcase (E.ev (x := .tmp 43) rfl) (fun ht => ?_) (fun ht => ?_)
        · have hc2 := cT ht hc2
          rw [ht] at E
          refine sk E rfl rfl rfl fun a E => ?_
          refine sk E rfl rfl rfl fun a E => ?_
          refine sk E rfl rfl rfl fun a E => ?_
          refine sk E rfl rfl rfl fun a E => ?_
          refine sk E rfl rfl rfl fun a E => ?_
          refine sd E (o_pickT (E.ev rfl) (E.ev rfl)) rfl rfl rfl fun a E => ?_
          obtain rfl := Option.some.inj hc2
          exact GL_nil ⟨_, rfl, (Tr.refl _ _), ((((((((((E.nil.ad E rfl rfl).ad E rfl rfl).ad E rfl rfl).ad E rfl rfl).ad E rfl rfl).ad E rfl rfl).ad E rfl rfl).ad E rfl rfl).ad E rfl rfl).ad E rfl rfl)⟩
        · have hc2 := cF ht hc2
          rw [ht] at E
          refine sd E (o_mv (E.ev rfl)) rfl rfl rfl fun a E => ?_
          refine sd E (o_bi (E.ev rfl) (E.ev rfl) rfl) rfl rfl rfl fun a E => ?_
          refine sd E (o_mv (E.ev rfl)) rfl rfl rfl fun a E => ?_
          refine sd E (o_lenS (xs := x2) Tryz.underlying36 (E.ev rfl) (((h1.tr t1).tr t5).tr t7).isS) rfl rfl rfl fun a E => ?_
          refine sd E (o_bi (E.ev rfl) (E.ev rfl) rfl) rfl rfl rfl fun a E => ?_
          refine sd E (o_pickF (E.ev rfl) (E.ev rfl)) rfl rfl rfl fun a E => ?_
          obtain rfl := Option.some.inj hc2
          exact GL_nil ⟨_, rfl, (Tr.refl _ _), ((((((((((E.nil.ad E rfl rfl).ad E rfl rfl).ad E rfl rfl).ad E rfl rfl).ad E rfl rfl).ad E rfl rfl).ad E rfl rfl).ad E rfl rfl).ad E rfl rfl).ad E rfl rfl)⟩
    rintro a _ ⟨s7, rfl, t9, E⟩
    refine tgn ?_
    refine G_cond (E.ev rfl) (fun ht => ?_) (fun ht => ?_)
    · have hm := cT ht hm
      refine G_seq ?_
      refine G_region ?_
      refine sd E (o_bd (places := #[(0, 1), (1, 1)]) Tryz.zeroValue38 Tryz.underlying38 (fun w => by simp [Sem.run_bind, Result.andThen, Tryz.sizeOf3, Tryz.sizeOf36]) (qs := #[]) (by simp only [List.map_toArray, List.map_cons, List.map_nil]) rfl) rfl rfl rfl fun a E => ?_
      refine shN E (o_st (v := .agg #[.int .i64 0, (.slice none 0 0)]) Tryz.sizeOf38 (((o1.trN t5).trN t7).trN t9) (E.ev rfl) (E.ev rfl) (Nat.le_of_ble_eq_true rfl) (by intro u hu; simp [Value.cells] at hu; (try rcases hu with hu | hu) <;> subst hu <;> rfl) rfl) rfl rfl ?_
      rintro _ s8 ⟨o3, t10⟩
      refine sd E (o_as (E.ev rfl)) rfl rfl rfl fun a E => ?_
      refine sd E (o_as (E.ev rfl)) rfl rfl rfl fun a E => ?_
      refine GL_nil ?_
      refine tgn ?_
      refine G_ret ?_
      refine tgr ?_
      cases hm
      exact fin3 E rfl (rv_cell (cs := #[.int .i64 0, (.slice none 0 0)]) rfl Tryz.isAgg38 Tryz.sizeOf38 o3.cell) rfl rfl ⟨((((((Tr.refl No s).stepN t1).stepN t5).stepN t7).stepN t9).step hk t10 (by intro t h; subst h; exact .inr (Nat.le_refl _))), _, rfl, Sl.nil⟩
    · have hm := cF ht hm
      refine G_skip ?_
      refine tgn ?_
      refine G_seq ?_
      refine G_region ?_
      refine sd E (o_mv (E.ev rfl)) rfl rfl rfl fun a E => ?_
      refine sh E (o_bs0 (k, 1002) (K := kU) (B := 0) Tryz.underlying36 Tryz.sizeOf39 (Nat.zero_le _)) rfl rfl rfl ?_
      rintro a w3 s9 ⟨h4, t11⟩ E
      refine sd E (o_mv (E.ev rfl)) rfl rfl rfl fun a E => ?_
      refine sd E (o_mv (E.ev rfl)) rfl rfl rfl fun a E => ?_
      refine sd E (o_bi (E.ev rfl) (E.ev rfl) rfl) rfl rfl rfl fun a E => ?_
      obtain ⟨x6, hx5, hm⟩ := ob_some hm
      obtain ⟨w4, g4, h5⟩ := (((((h1.tr t1).tr t5).tr t7).tr t9).tr t11).sl hx5
      refine sd E (o_slLH Tryz.underlying36 Tryz.sizeOf39 g4 (E.ev rfl) (E.ev rfl) (E.ev rfl)) rfl rfl rfl fun a E => ?_
      obtain ⟨x7, hx6, hm⟩ := ob_some hm
      obtain ⟨hx6, hz⟩ := ap_some hx6
      refine sh E (o_app Tryz.underlying36 Tryz.type39 rfl rfl rfl rfl rfl rfl h4 h5.rd (E.ev rfl) (E.ev rfl) hx6 (Nat.zero_le _)) rfl rfl rfl ?_
      rintro a w5 s10 ⟨h6, t12⟩ E
      rw [hz] at h6
      obtain ⟨s11, e1, h7, t13⟩ := h6.fz
      rw [e1]
      obtain ⟨a1, c1, rfl⟩ := h7.isS
      refine sd E (o_bd (places := #[(0, 1), (1, 1)]) Tryz.zeroValue38 Tryz.underlying38 (fun w => by simp [Sem.run_bind, Result.andThen, Tryz.sizeOf3, Tryz.sizeOf36]) (qs := #[(0, .int .i64 (IntKind.wrap .i64 (IntKind.wrap .u64 (Int.tdiv x4 72057594037927936)))), (1, (.slice a1 x7.length c1))]) (by simp only [List.map_toArray, List.map_cons, List.map_nil, E.ev (x := .tmp 51) rfl, E.ev (x := .tmp 57) rfl]) rfl) rfl rfl rfl fun a E => ?_
      refine sh E (o_al (k, 1003) Tryz.zeroValue38) rfl rfl rfl ?_
      rintro a _ s12 ⟨b5, rfl, o4, t14⟩ E
      refine shN E (o_st (v := .agg #[.int .i64 (IntKind.wrap .i64 (IntKind.wrap .u64 (Int.tdiv x4 72057594037927936))), (.slice a1 x7.length c1)]) Tryz.sizeOf38 o4 (E.ev rfl) (E.ev rfl) (Nat.le_of_ble_eq_true rfl) (by intro u hu; simp [Value.cells] at hu; (try rcases hu with hu | hu) <;> subst hu <;> rfl) rfl) rfl rfl ?_
      rintro _ s13 ⟨o5, t15⟩
      refine GL_nil ?_
      refine tgn ?_
      refine G_seq ?_
      refine G_seq ?_
      refine G_drw k (by rfl) [0, 1, 2, 6, 7, 8, 3, 4, 5, 9] (by kernel_rfl) ?_
      intro s14 t16
      refine dp E rfl (fun w => (o_mv (E.ev rfl))) rfl rfl rfl fun a E => ?_
      refine dp E rfl (fun w => (o_mv (E.ev rfl))) rfl rfl rfl fun a E => ?_
      refine dr E rfl (fun s' t => (o_ldc (cs := #[.int .i64 (IntKind.wrap .i64 (IntKind.wrap .u64 (Int.tdiv x4 72057594037927936))), (.slice a1 x7.length c1)]) Tryz.isAgg38 Tryz.sizeOf38 (E.ev rfl) ((o5.trN t16).trN t).cell)) rfl rfl rfl rfl fun a E => ?_
      refine dp E rfl (fun w => (o_mv (E.ev rfl))) rfl rfl rfl fun a E => ?_
      obtain ⟨x8, hx7, hm⟩ := ob_some hm
      obtain ⟨b6, p3, g5, h8⟩ := ((((((((((h1.tr t1).tr t5).tr t7).tr t9).tr t11).tr t12).tr t13).tr t14).tr t15).tr t16).gt hx7
      refine dp E rfl (fun w => (o_ixg Tryz.underlying36 Tryz.sizeOf39 g5 (E.ev rfl) (E.ev rfl))) rfl rfl rfl fun a E => ?_
      refine dr E rfl (fun s' t => (o_ld Tryz.isAgg39 (E.ev rfl) (h8.tr t).cell)) rfl rfl rfl rfl fun a E => ?_
      obtain ⟨y3, hx8, hm⟩ := ob_some hm
      refine dh E rfl (o_ok Tryz.call38 (E.evs rfl) (E.ev rfl) (ok_48 _ (x0 := x0) (x1 := x1) (x2 := (⟨IntKind.wrap .i64 (IntKind.wrap .u64 (Int.tdiv x4 72057594037927936)), x7⟩ : Frame)) (((h7.tr t14).tr t15).tr t16) hx8)) (fun _ _ h => h.1) rfl rfl rfl rfl ?_
      rintro a _ s15 ⟨t17, w6, rfl, h9⟩ E
      obtain ⟨x9, hx9, hm⟩ := ob_some hm
      obtain ⟨b7, p4, g6, h10⟩ := h9.gt hx9
      refine dp E rfl (fun w => (o_ixg Tryz.underlying36 Tryz.sizeOf39 g6 (E.ev rfl) (E.ev rfl))) rfl rfl rfl fun a E => ?_
      refine dr E rfl (fun s' t => (o_ld Tryz.isAgg39 (E.ev rfl) (h10.tr t).cell)) rfl rfl rfl rfl fun a E => ?_
      refine dp E rfl (fun w => (o_bi (E.ev rfl) (E.ev rfl) rfl)) rfl rfl rfl fun a E => ?_
      refine gd_nil ?_
      refine tgn ?_
      refine G_cond (E.ev rfl) (fun ht => ?_) (fun ht => ?_)
      · have hm := cT ht hm
        refine G_seq ?_
        refine G_region ?_
        refine sd E (o_bd (places := #[(0, 1), (1, 1)]) Tryz.zeroValue38 Tryz.underlying38 (fun w => by simp [Sem.run_bind, Result.andThen, Tryz.sizeOf3, Tryz.sizeOf36]) (qs := #[]) (by simp only [List.map_toArray, List.map_cons, List.map_nil]) rfl) rfl rfl rfl fun a E => ?_
        refine shN E (o_st (v := .agg #[.int .i64 0, (.slice none 0 0)]) Tryz.sizeOf38 ((((((((((o1.trN t5).trN t7).trN t9).trN t11).tr t12 (nt_snd rfl)).tr t13 (nt_snd rfl)).trN t14).tr t15 (nt_snd rfl)).trN t16).trN t17) (E.ev rfl) (E.ev rfl) (Nat.le_of_ble_eq_true rfl) (by intro u hu; simp [Value.cells] at hu; (try rcases hu with hu | hu) <;> subst hu <;> rfl) rfl) rfl rfl ?_
        rintro _ s16 ⟨o6, t18⟩
        refine sd E (o_as (E.ev rfl)) rfl rfl rfl fun a E => ?_
        refine sd E (o_as (E.ev rfl)) rfl rfl rfl fun a E => ?_
        refine GL_nil ?_
        refine tgn ?_
        refine G_ret ?_
        refine tgr ?_
        cases hm
        exact fin3 E rfl (rv_cell (cs := #[.int .i64 0, (.slice none 0 0)]) rfl Tryz.isAgg38 Tryz.sizeOf38 o6.cell) rfl rfl ⟨(((((((((((((Tr.refl No s).stepN t1).stepN t5).stepN t7).stepN t9).stepN t11).step hk t12 (by intro t h; subst h; exact .inr (Nat.le_refl _))).step hk t13 (by intro t h; subst h; exact .inr (Nat.le_refl _))).stepN t14).step hk t15 (by intro t h; subst h; exact .inr (Nat.le_refl _))).stepN t16).stepN t17).step hk t18 (by intro t h; subst h; exact .inr (Nat.le_refl _))), _, rfl, Sl.nil⟩
      · have hm := cF ht hm
        refine G_skip ?_
        refine tgn ?_
        refine G_seq ?_
        refine G_region ?_
        refine sd E (o_ldc (cs := #[.int .i64 (IntKind.wrap .i64 (IntKind.wrap .u64 (Int.tdiv x4 72057594037927936))), (.slice a1 x7.length c1)]) Tryz.isAgg38 Tryz.sizeOf38 (E.ev rfl) ((o5.trN t16).trN t17).cell) rfl rfl rfl fun a E => ?_
        refine sd E (o_mv (E.ev rfl)) rfl rfl rfl fun a E => ?_
        refine sd E (o_bi (E.ev rfl) (E.ev rfl) rfl) rfl rfl rfl fun a E => ?_
        refine shN E (o_st (v := .agg #[.int .i64 (IntKind.wrap .i64 (IntKind.wrap .u64 (Int.tdiv x4 72057594037927936))), (.slice a1 x7.length c1)]) Tryz.sizeOf38 ((((((((((o1.trN t5).trN t7).trN t9).trN t11).tr t12 (nt_snd rfl)).tr t13 (nt_snd rfl)).trN t14).tr t15 (nt_snd rfl)).trN t16).trN t17) (E.ev rfl) (E.ev rfl) (Nat.le_of_ble_eq_true rfl) (by intro u hu; simp [Value.cells] at hu; (try rcases hu with hu | hu) <;> subst hu <;> rfl) rfl) rfl rfl ?_
        rintro _ s17 ⟨o7, t19⟩
        refine sd E (o_as (E.ev rfl)) rfl rfl rfl fun a E => ?_
        refine sd E (o_as (E.ev rfl)) rfl rfl rfl fun a E => ?_
        refine GL_nil ?_
        refine tgn ?_
        refine G_ret ?_
        cases hm
        exact fin3 E rfl (rv_cell (cs := #[.int .i64 (IntKind.wrap .i64 (IntKind.wrap .u64 (Int.tdiv x4 72057594037927936))), (.slice a1 x7.length c1)]) rfl Tryz.isAgg38 Tryz.sizeOf38 o7.cell) rfl rfl ⟨(((((((((((((Tr.refl No s).stepN t1).stepN t5).stepN t7).stepN t9).stepN t11).step hk t12 (by intro t h; subst h; exact .inr (Nat.le_refl _))).step hk t13 (by intro t h; subst h; exact .inr (Nat.le_refl _))).stepN t14).step hk t15 (by intro t h; subst h; exact .inr (Nat.le_refl _))).stepN t16).stepN t17).step hk t19 (by intro t h; subst h; exact .inr (Nat.le_refl _))), _, rfl, (((((h7.tr t14).tr t15).tr t16).tr t17).tr t19)⟩

-- gimmal/gimmalref06.All
noncomputable def m_15_1b (x0 : Int) (x1 : List Int) : ((List Frame) × Int × (List Frame) × Int) → Option (Lo ((List Frame) × Int × (List Frame) × Int) (Sum ((List Frame) × Int × (List Frame) × Int) ((List Frame) × Int))) := fun (x7, x8, x9, x10) => ob (sl x1 x10 (x1.length : Int)) fun x11 => ob (m_42 x0 (x9.length : Int) x11) fun (y1, y2, y3) => bif !y3 then (some (.inr (.inr (x9, x10)))) else (ob (ap x9 [y1]) fun x12 => some (.inl (x7, x8, x12, IntKind.wrap .i64 (x10 + y2))))
noncomputable def m_15_1k : Sum ((List Frame) × Int × (List Frame) × Int) ((List Frame) × Int) → Option ((List Frame) × Int)
  | .inl (x13, x14, x15, x16) => some (x13, x14)
  | .inr y => some y
noncomputable def m_15 (x0 : Int) (x1 : List Int) : Option ((List Frame) × Int) :=
  ob (loopO (m_15_1b x0 x1) ([], 0, [], 0)) (m_15_1k)
theorem ok_15 (s : St) {x0 : Int} {x1 : List Int} {w1 : Value} (h1 : Sl kU s w1 x1) {r0y : List Frame} {r1y : Int} (hm : m_15 x0 x1 = some (r0y, r1y)) :
    Ok Tryz.prog 28 ([.int .i64 x0, w1] : List Value).toArray s fun v s' => Tr No s s' ∧ ∃ w2, v = .tuple #[w2, .int .i64 r1y] ∧ Sl kFr s' w2 r0y := by
  unfold m_15 at hm
  obtain ⟨k, hk⟩ := s.fresh
  refine ok_of (n := 33) _ Tryz.func28 rfl _ rfl rfl fun a E => ?_
  refine G_seq ?_
  refine G_region ?_
  refine sd E (o_as (E.ev rfl)) rfl rfl rfl fun a E => ?_
  refine sd E (o_as (E.ev rfl)) rfl rfl rfl fun a E => ?_
  refine GL_nil ?_
  refine tgn ?_
  refine G_seq ?_
  refine G_region ?_
  refine sd E (o_as (E.ev rfl)) rfl rfl rfl fun a E => ?_
  refine GL_nil ?_
  refine tgn ?_
  refine G_seq ?_
  refine G_region ?_
  refine sd E (o_as (E.ev rfl)) rfl rfl rfl fun a E => ?_
  refine GL_nil ?_
  refine tgn ?_
  obtain ⟨r1, hl1, hm⟩ := ob_some hm
  refine G_mid1 (fun a' w' => ∃ x3 x4 x5 x6 s' w3 w4, m_15_1k (.inl (x3, x4, x5, x6)) = some (r0y, r1y) ∧ w' = s'.w ∧ Tr (Rt k) s s' ∧ Sl kFr s' w3 x3 ∧ Bd (k, 1001) kFr 38 0 s' w4 x5 ∧ En [] 33 a' [(4, w3), (5, .int .i64 x4), (6, w4), (7, .int .i64 x6), (0, .int .i64 x0), (1, w1)]) ?_ ?_
  · refine G_block ?_
    refine G_lp hl1 (fun st a' w' => ∃ x3 x4 x5 x6 s' w3 w4, st = (x3, x4, x5, x6) ∧ w' = s'.w ∧ Tr (Rt k) s s' ∧ Sl kFr s' w3 x3 ∧ Bd (k, 1001) kFr 38 0 s' w4 x5 ∧ En [] 33 a' [(4, w3), (5, .int .i64 x4), (6, w4), (7, .int .i64 x6), (0, .int .i64 x0), (1, w1)]) ⟨_, _, _, _, _, _, _, rfl, rfl, (Tr.refl _ _), Sl.nil, Bd.nil, ((((((E.nil.ad E rfl rfl).ad E rfl rfl).ad E rfl rfl).ad E rfl rfl).ad E rfl rfl).ad E rfl rfl)⟩ ?_
    rintro _ a _ x ⟨x7, x8, x9, x10, s1, w5, w6, rfl, rfl, t1, h2, h3, E⟩ hf1
    dsimp only [m_15_1b] at hf1
    refine G_block ?_
    refine G_seq ?_
    refine G_region ?_
    refine sd E (o_mv (E.ev rfl)) rfl rfl rfl fun a E => ?_
    refine sd E (o_mv (E.ev rfl)) rfl rfl rfl fun a E => ?_
    refine sd E (o_lenS (xs := x9) Tryz.underlying43 (E.ev rfl) h3.isS) rfl rfl rfl fun a E => ?_
    refine sd E (o_mv (E.ev rfl)) rfl rfl rfl fun a E => ?_
    refine sd E (o_mv (E.ev rfl)) rfl rfl rfl fun a E => ?_
    obtain ⟨x11, hx1, hf1⟩ := ob_some hf1
    obtain ⟨w7, g1, h4⟩ := (h1.tr t1).sl hx1
    refine sd E (o_slL Tryz.underlying36 Tryz.sizeOf39 g1 (E.ev rfl) (E.ev rfl)) rfl rfl rfl fun a E => ?_
    obtain ⟨⟨y1, y2, y3⟩, hx2, hf1⟩ := ob_some hf1
    refine sh E (o_ok Tryz.call58 (E.evs rfl) (E.ev rfl) (ok_42 _ (x0 := x0) (x1 := (x9.length : Int)) (x2 := x11) h4 hx2)) rfl rfl rfl ?_
    rintro a _ s2 ⟨t2, w8, rfl, h5⟩ E
    refine sd E (o_mv (E.ev rfl)) rfl rfl rfl fun a E => ?_
    refine sd E (o_ext (v := .agg #[.int .i64 y1.Kind, w8]) (E.ev rfl) rfl) rfl rfl rfl fun a E => ?_
    refine sd E (o_ext (v := .int .i64 y2) (E.ev rfl) rfl) rfl rfl rfl fun a E => ?_
    refine sd E (o_ext (v := .bool y3) (E.ev rfl) rfl) rfl rfl rfl fun a E => ?_
    refine sh E (o_al (k, 1002) Tryz.zeroValue38) rfl rfl rfl ?_
    rintro a _ s3 ⟨b1, rfl, o1, t3⟩ E
    obtain ⟨a1, c1, rfl⟩ := (h5.tr t3).isS
    refine shN E (o_st (v := .agg #[.int .i64 y1.Kind, (.slice a1 y1.Words.length c1)]) Tryz.sizeOf38 o1 (E.ev rfl) (E.ev rfl) (Nat.le_of_ble_eq_true rfl) (by intro u hu; simp [Value.cells] at hu; (try rcases hu with hu | hu) <;> subst hu <;> rfl) rfl) rfl rfl ?_
    rintro _ s4 ⟨o2, t4⟩
    refine sd E (o_as (E.ev rfl)) rfl rfl rfl fun a E => ?_
    refine sd E (o_as (E.ev rfl)) rfl rfl rfl fun a E => ?_
    refine GL_nil ?_
    refine tgn ?_
    refine G_seq ?_
    refine G_seq ?_
    refine G_region ?_
    refine sd E (o_mv (E.ev rfl)) rfl rfl rfl fun a E => ?_
    refine sd E (o_not (E.ev rfl)) rfl rfl rfl fun a E => ?_
    refine GL_nil ?_
    refine tgn ?_
    refine G_cond (E.ev rfl) (fun ht => ?_) (fun ht => ?_)
    · have hf1 := cT ht hf1
      refine G_seq ?_
      refine G_region ?_
      refine sd E (o_mv (E.ev rfl)) rfl rfl rfl fun a E => ?_
      refine sd E (o_mv (E.ev rfl)) rfl rfl rfl fun a E => ?_
      refine sd E (o_as (E.ev rfl)) rfl rfl rfl fun a E => ?_
      refine sd E (o_as (E.ev rfl)) rfl rfl rfl fun a E => ?_
      refine GL_nil ?_
      refine tgn ?_
      refine G_ret ?_
      refine tgr ?_
      refine ebr ?_
      obtain rfl := Option.some.inj hf1
      refine lpr fun hr => ?_
      subst hr
      dsimp only [m_15_1k] at hm
      refine ebr ?_
      refine ctr ?_
      cases hm
      obtain ⟨s5, e1, h6, t5⟩ := (((h3.trN t2).trN t3).tr t4 (nt_snd rfl)).fz
      rw [e1]
      exact fin2 E rfl rfl rfl ⟨((((((Tr.refl No s).step hk t1 (fun t h => .inr (Nat.le_of_eq (Eq.symm h)))).stepN t2).stepN t3).step hk t4 (by intro t h; subst h; exact .inr (Nat.le_refl _))).step hk t5 (by intro t h; subst h; exact .inr (Nat.le_refl _))), _, rfl, h6⟩
    · have hf1 := cF ht hf1
      refine G_skip ?_
      refine tgn ?_
      refine G_seq ?_
      refine G_region ?_
      refine sd E (o_mv (E.ev rfl)) rfl rfl rfl fun a E => ?_
      refine sd E (o_ldc (cs := #[.int .i64 y1.Kind, (.slice a1 y1.Words.length c1)]) Tryz.isAgg38 Tryz.sizeOf38 (E.ev rfl) o2.cell) rfl rfl rfl fun a E => ?_
      refine sh E (o_bs Tryz.underlying43 Tryz.sizeOf38 Tryz.zeroValue38 (qs := #[(0, .agg #[.int .i64 y1.Kind, (.slice a1 y1.Words.length c1)])]) (cells := #[.int .i64 y1.Kind, (.slice a1 y1.Words.length c1)]) (by simp only [List.map_toArray, List.map_cons, List.map_nil, E.ev (x := .tmp 27) rfl]) rfl rfl (by kernel_rfl)) rfl rfl rfl ?_
      rintro a _ s6 ⟨b2, rfl, h7, t6⟩ E
      have h8 := h7.sl (K := kFr) (xs := [y1]) ⟨_, _, rfl, ⟨_, rfl, (((h5.tr t3).tr t4).tr t6)⟩, rfl⟩ rfl
      obtain ⟨x12, hx3, hf1⟩ := ob_some hf1
      obtain ⟨hx3, hz⟩ := ap_some hx3
      refine sh E (o_app Tryz.underlying43 Tryz.type38 rfl rfl rfl rfl rfl rfl ((((h3.trN t2).trN t3).tr t4 (nt_snd rfl)).trN t6) h8.rd (E.ev rfl) (E.ev rfl) hx3 (Nat.zero_le _)) rfl rfl rfl ?_
      rintro a w9 s7 ⟨h9, t7⟩ E
      rw [hz] at h9
      refine sd E (o_as (E.ev rfl)) rfl rfl rfl fun a E => ?_
      refine GL_nil ?_
      refine tgn ?_
      refine G_region ?_
      refine sd E (o_mv (E.ev rfl)) rfl rfl rfl fun a E => ?_
      refine sd E (o_mv (E.ev rfl)) rfl rfl rfl fun a E => ?_
      refine sd E (o_bi (E.ev rfl) (E.ev rfl) rfl) rfl rfl rfl fun a E => ?_
      refine sd E (o_as (E.ev rfl)) rfl rfl rfl fun a E => ?_
      refine GL_nil ?_
      refine ebn ?_
      obtain rfl := Option.some.inj hf1
      exact lpn ⟨_, _, _, _, _, _, _, rfl, rfl, (((((t1.trans t2.no).trans t3.no).trans (t4.mono (by intro t h; subst h; rfl))).trans t6.no).trans (t7.mono (by intro t h; subst h; rfl))), (((((h2.tr t2).tr t3).tr t4).tr t6).tr t7), h9, ((((((E.nil.ad E rfl rfl).ad E rfl rfl).ad E rfl rfl).ad E rfl rfl).ad E rfl rfl).ad E rfl rfl)⟩
  · rintro a _ ⟨x13, x14, x15, x16, s8, w10, w11, hm, rfl, t8, h10, h11, E⟩
    dsimp only [m_15_1k] at hm
    cases hm
    exact fin2 E rfl rfl rfl ⟨((Tr.refl No s).step hk t8 (fun t h => .inr (Nat.le_of_eq (Eq.symm h)))), _, rfl, h10⟩

-- gimmal/gimmalref06.Same
noncomputable def m_11_2b (x0 : List Frame) (x1 : List Frame) (x6 : Int) : (Bool × Int) → Option (Lo (Bool × Int) (Sum (Bool × Int) Bool)) := fun (x13, x14) => ob (gt x0 x6) fun x15 => bif decide (x14 < (x15.Words.length : Int)) then (ob (gt x0 x6) fun x16 => ob (gt x16.Words x14) fun x17 => ob (gt x1 x6) fun x18 => ob (gt x18.Words x14) fun x19 => bif x17 != x19 then (some (.inr (.inr false))) else (some (.inl (x13, IntKind.wrap .i64 (x14 + 1))))) else (some (.inr (.inl (x13, x14))))
noncomputable def m_11_2k (x6 : Int) : Sum (Bool × Int) Bool → Option (Lo (Bool × Int) (Sum (Bool × Int) Bool))
  | .inl (x20, x21) => some (.inl (x20, IntKind.wrap .i64 (x6 + 1)))
  | .inr y => some (.inr (.inr y))
noncomputable def m_11_1b (x0 : List Frame) (x1 : List Frame) : (Bool × Int) → Option (Lo (Bool × Int) (Sum (Bool × Int) Bool)) := fun (x5, x6) => bif decide (x6 < (x0.length : Int)) then (ob (ob (gt x0 x6) fun x7 => ob (gt x1 x6) fun x8 => bif x7.Kind != x8.Kind then (some true) else (ob (gt x0 x6) fun x9 => ob (gt x1 x6) fun x10 => some ((x9.Words.length : Int) != (x10.Words.length : Int)))) fun t2 => bif t2 then (some (.inr (.inr false))) else (ob (loopO (m_11_2b x0 x1 x6) (x5, 0)) (m_11_2k x6))) else (some (.inr (.inl (x5, x6))))
noncomputable def m_11_1k : Sum (Bool × Int) Bool → Option Bool
  | .inl (x22, x23) => some true
  | .inr y => some y
noncomputable def m_11 (x0 : List Frame) (x1 : List Frame) : Option Bool :=
  bif (x0.length : Int) != (x1.length : Int) then (some false) else (ob (loopO (m_11_1b x0 x1) (false, 0)) (m_11_1k))
theorem ok_11 (s : St) {x0 : List Frame} {x1 : List Frame} {w1 : Value} (h1 : Sl kFr s w1 x0) {w2 : Value} (h2 : Sl kFr s w2 x1) {r0y : Bool} (hm : m_11 x0 x1 = some r0y) :
    Ok Tryz.prog 20 ([w1, w2] : List Value).toArray s fun v s' => Tr No s s' ∧ v = .bool r0y := by
  unfold m_11 at hm
  obtain ⟨k, hk⟩ := s.fresh
  refine ok_of (n := 71) _ Tryz.func20 rfl _ rfl rfl fun a E => ?_
  refine G_seq ?_
  refine G_region ?_
  refine sd E (o_as (E.ev rfl)) rfl rfl rfl fun a E => ?_
  refine GL_nil ?_
  refine tgn ?_
  refine G_seq ?_
  refine G_seq ?_
  refine G_region ?_
  refine sd E (o_mv (E.ev rfl)) rfl rfl rfl fun a E => ?_
  refine sd E (o_lenS (xs := x0) Tryz.underlying43 (E.ev rfl) h1.isS) rfl rfl rfl fun a E => ?_
  refine sd E (o_mv (E.ev rfl)) rfl rfl rfl fun a E => ?_
  refine sd E (o_lenS (xs := x1) Tryz.underlying43 (E.ev rfl) h2.isS) rfl rfl rfl fun a E => ?_
  refine sd E (o_bi (E.ev rfl) (E.ev rfl) rfl) rfl rfl rfl fun a E => ?_
  refine GL_nil ?_
  refine tgn ?_
  refine G_cond (E.ev rfl) (fun ht => ?_) (fun ht => ?_)
  · have hm := cT ht hm
    refine G_seq ?_
    refine G_region ?_
    refine sd E (o_as (E.ev rfl)) rfl rfl rfl fun a E => ?_
    refine GL_nil ?_
    refine tgn ?_
    refine G_ret ?_
    refine tgr ?_
    cases hm
    exact fin1 E rfl rfl ⟨(Tr.refl No s), rfl⟩
  · have hm := cF ht hm
    refine G_skip ?_
    refine tgn ?_
    refine G_seq ?_
    refine G_seq ?_
    refine G_region ?_
    refine sd E (o_as (E.ev rfl)) rfl rfl rfl fun a E => ?_
    refine GL_nil ?_
    refine tgn ?_
    obtain ⟨r1, hl1, hm⟩ := ob_some hm
    refine G_mid1 (fun a' w' => ∃ x3 x4 s', m_11_1k (.inl (x3, x4)) = some r0y ∧ w' = s'.w ∧ Tr (Rt k) s s' ∧ En [] 71 a' [(4, .bool x3), (5, .int .i64 x4), (0, w1), (1, w2), (11, .bool ((x0.length : Int) != (x1.length : Int)))]) ?_ ?_
    · refine G_block ?_
      refine G_lp hl1 (fun st a' w' => ∃ x3 x4 s', st = (x3, x4) ∧ w' = s'.w ∧ Tr (Rt k) s s' ∧ En [] 71 a' [(4, .bool x3), (5, .int .i64 x4), (0, w1), (1, w2), (11, .bool ((x0.length : Int) != (x1.length : Int)))]) ⟨_, _, _, rfl, rfl, (Tr.refl _ _), (((((E.nil.ad E rfl rfl).ad E rfl rfl).ad E rfl rfl).ad E rfl rfl).ad E rfl rfl)⟩ ?_
      rintro _ a _ x ⟨x5, x6, s1, rfl, rfl, t1, E⟩ hf1
      dsimp only [m_11_1b] at hf1
      refine G_seq ?_
      refine G_seq ?_
      refine G_region ?_
      refine sd E (o_mv (E.ev rfl)) rfl rfl rfl fun a E => ?_
      refine sd E (o_mv (E.ev rfl)) rfl rfl rfl fun a E => ?_
      refine sd E (o_lenS (xs := x0) Tryz.underlying43 (E.ev rfl) (h1.tr t1).isS) rfl rfl rfl fun a E => ?_
      refine sd E (o_bi (E.ev rfl) (E.ev rfl) rfl) rfl rfl rfl fun a E => ?_
      refine GL_nil ?_
      refine tgn ?_
      refine G_cond (E.ev rfl) (fun ht => ?_) (fun ht => ?_)
      · have hf1 := cT ht hf1
        refine G_skip ?_
        refine tgn ?_
        refine G_seq ?_
        refine G_block ?_
        refine G_seq ?_
        refine G_seq ?_
        obtain ⟨t2, hc1, hf1⟩ := ob_some hf1
        refine G_drwm k (by rfl) [0, 1, 2, 3, 4, 5, 6, 7, 8, 9, 10, 11, 12, 13, 14, 15, 16, 17, 18, 19, 20, 21, 22, 23, 24, 25] (by kernel_rfl) (fun a' w' => ∃ s', w' = s'.w ∧ Tr No s1 s' ∧ En [] 71 a' [(43, .bool t2), (0, w1), (1, w2), (4, .bool x5), (5, .int .i64 x6), (11, .bool ((x0.length : Int) != (x1.length : Int))), (15, .bool (decide (x6 < (x0.length : Int))))]) ?_ ?_
        · intro s2 t3
          refine dp E rfl (fun w => (o_mv (E.ev rfl))) rfl rfl rfl fun a E => ?_
          refine dp E rfl (fun w => (o_mv (E.ev rfl))) rfl rfl rfl fun a E => ?_
          obtain ⟨x7, hx1, hc1⟩ := ob_some hc1
          obtain ⟨b1, p1, g1, h3⟩ := ((h1.tr t1).tr t3).gt hx1
          refine dp E rfl (fun w => (o_ixg Tryz.underlying43 Tryz.sizeOf38 g1 (E.ev rfl) (E.ev rfl))) rfl rfl rfl fun a E => ?_
          refine dp E rfl (fun w => (o_fa Tryz.underlying38 rfl Tryz.sizeOf3 (E.ev rfl))) rfl rfl rfl fun a E => ?_
          obtain ⟨w3, e1, e2, h4⟩ := h3.fr
          refine dr E rfl (fun s' t => (o_ld Tryz.isAgg3 (E.ev rfl) (h3.ck t e1))) rfl rfl rfl rfl fun a E => ?_
          refine dp E rfl (fun w => (o_mv (E.ev rfl))) rfl rfl rfl fun a E => ?_
          refine dp E rfl (fun w => (o_mv (E.ev rfl))) rfl rfl rfl fun a E => ?_
          obtain ⟨x8, hx2, hc1⟩ := ob_some hc1
          obtain ⟨b2, p2, g2, h5⟩ := ((h2.tr t1).tr t3).gt hx2
          refine dp E rfl (fun w => (o_ixg Tryz.underlying43 Tryz.sizeOf38 g2 (E.ev rfl) (E.ev rfl))) rfl rfl rfl fun a E => ?_
          refine dp E rfl (fun w => (o_fa Tryz.underlying38 rfl Tryz.sizeOf3 (E.ev rfl))) rfl rfl rfl fun a E => ?_
          obtain ⟨w4, e3, e4, h6⟩ := h5.fr
          refine dr E rfl (fun s' t => (o_ld Tryz.isAgg3 (E.ev rfl) (h5.ck t e3))) rfl rfl rfl rfl fun a E => ?_
          refine dp E rfl (fun w => (o_bi (E.ev rfl) (E.ev rfl) rfl)) rfl rfl rfl fun a E => ?_
          refine dp E rfl (fun w => (o_mv (E.ev rfl))) rfl rfl rfl fun a E => ?_
          refine bcase (E.ev (x := .tmp 29) rfl) (fun ht => ?_) (fun ht => ?_)
          · have hc1 := cT ht hc1
            rw [ht] at E
            refine dk E rfl rfl rfl rfl fun a E => ?_
            refine dk E rfl rfl rfl rfl fun a E => ?_
            refine dk E rfl rfl rfl rfl fun a E => ?_
            refine dk E rfl rfl rfl rfl fun a E => ?_
            refine dk E rfl rfl rfl rfl fun a E => ?_
            refine dk E rfl rfl rfl rfl fun a E => ?_
            refine dk E rfl rfl rfl rfl fun a E => ?_
            refine dk E rfl rfl rfl rfl fun a E => ?_
            refine dk E rfl rfl rfl rfl fun a E => ?_
            refine dk E rfl rfl rfl rfl fun a E => ?_
            refine dk E rfl rfl rfl rfl fun a E => ?_
            refine dk E rfl rfl rfl rfl fun a E => ?_
            refine dk E rfl rfl rfl rfl fun a E => ?_
            refine dp E rfl (fun w => (o_pickT (E.ev rfl) (E.ev rfl))) rfl rfl rfl fun a E => ?_
            obtain rfl := Option.some.inj hc1
            exact gd_nil ⟨_, rfl, t3, (((((((E.nil.ad E rfl rfl).ad E rfl rfl).ad E rfl rfl).ad E rfl rfl).ad E rfl rfl).ad E rfl rfl).ad E rfl rfl)⟩
          · have hc1 := cF ht hc1
            rw [ht] at E
            refine dp E rfl (fun w => (o_mv (E.ev rfl))) rfl rfl rfl fun a E => ?_
            refine dp E rfl (fun w => (o_mv (E.ev rfl))) rfl rfl rfl fun a E => ?_
            obtain ⟨x9, hx3, hc1⟩ := ob_some hc1
            obtain ⟨b3, p3, g3, h7⟩ := ((h1.tr t1).tr t3).gt hx3
            refine dp E rfl (fun w => (o_ixg Tryz.underlying43 Tryz.sizeOf38 g3 (E.ev rfl) (E.ev rfl))) rfl rfl rfl fun a E => ?_
            refine dp E rfl (fun w => (o_fa Tryz.underlying38 rfl Tryz.sizeOf36 (E.ev rfl))) rfl rfl rfl fun a E => ?_
            obtain ⟨w5, e5, e6, h8⟩ := h7.fr
            refine dr E rfl (fun s' t => (o_ld Tryz.isAgg36 (E.ev rfl) (h7.ck t e6))) rfl rfl rfl rfl fun a E => ?_
            refine dp E rfl (fun w => (o_lenS (xs := x9.Words) Tryz.underlying36 (E.ev rfl) h8.isS)) rfl rfl rfl fun a E => ?_
            refine dp E rfl (fun w => (o_mv (E.ev rfl))) rfl rfl rfl fun a E => ?_
            refine dp E rfl (fun w => (o_mv (E.ev rfl))) rfl rfl rfl fun a E => ?_
            obtain ⟨x10, hx4, hc1⟩ := ob_some hc1
            obtain ⟨b4, p4, g4, h9⟩ := ((h2.tr t1).tr t3).gt hx4
            refine dp E rfl (fun w => (o_ixg Tryz.underlying43 Tryz.sizeOf38 g4 (E.ev rfl) (E.ev rfl))) rfl rfl rfl fun a E => ?_
            refine dp E rfl (fun w => (o_fa Tryz.underlying38 rfl Tryz.sizeOf36 (E.ev rfl))) rfl rfl rfl fun a E => ?_
            obtain ⟨w6, e7, e8, h10⟩ := h9.fr
            refine dr E rfl (fun s' t => (o_ld Tryz.isAgg36 (E.ev rfl) (h9.ck t e8))) rfl rfl rfl rfl fun a E => ?_
            refine dp E rfl (fun w => (o_lenS (xs := x10.Words) Tryz.underlying36 (E.ev rfl) h10.isS)) rfl rfl rfl fun a E => ?_
            refine dp E rfl (fun w => (o_bi (E.ev rfl) (E.ev rfl) rfl)) rfl rfl rfl fun a E => ?_
            refine dp E rfl (fun w => (o_pickF (E.ev rfl) (E.ev rfl))) rfl rfl rfl fun a E => ?_
            obtain rfl := Option.some.inj hc1
            exact gd_nil ⟨_, rfl, t3, (((((((E.nil.ad E rfl rfl).ad E rfl rfl).ad E rfl rfl).ad E rfl rfl).ad E rfl rfl).ad E rfl rfl).ad E rfl rfl)⟩
        rintro a _ ⟨s3, rfl, t4, E⟩
        refine tgn ?_
        refine G_cond (E.ev rfl) (fun ht => ?_) (fun ht => ?_)
        · have hf1 := cT ht hf1
          refine G_seq ?_
          refine G_region ?_
          refine sd E (o_as (E.ev rfl)) rfl rfl rfl fun a E => ?_
          refine GL_nil ?_
          refine tgn ?_
          refine G_ret ?_
          refine tgr ?_
          refine ebr ?_
          refine tgr ?_
          obtain rfl := Option.some.inj hf1
          refine lpr fun hr => ?_
          subst hr
          dsimp only [m_11_1k] at hm
          refine ebr ?_
          refine ctr ?_
          refine tgr ?_
          cases hm
          exact fin1 E rfl rfl ⟨(((Tr.refl No s).step hk t1 (fun t h => .inr (Nat.le_of_eq (Eq.symm h)))).stepN t4), rfl⟩
        · have hf1 := cF ht hf1
          refine G_skip ?_
          refine tgn ?_
          refine G_seq ?_
          refine G_region ?_
          refine sd E (o_as (E.ev rfl)) rfl rfl rfl fun a E => ?_
          refine GL_nil ?_
          refine tgn ?_
          obtain ⟨r2, hl2, hf1⟩ := ob_some hf1
          refine G_mid1 (fun a' w' => ∃ x11 x12 s', m_11_2k x6 (.inl (x11, x12)) = some x ∧ w' = s'.w ∧ Tr (Rt k) s3 s' ∧ En [] 71 a' [(4, .bool x11), (6, .int .i64 x12), (0, w1), (1, w2), (5, .int .i64 x6), (11, .bool ((x0.length : Int) != (x1.length : Int))), (15, .bool (decide (x6 < (x0.length : Int)))), (43, .bool t2)]) ?_ ?_
          · refine G_block ?_
            refine G_lp hl2 (fun st a' w' => ∃ x11 x12 s', st = (x11, x12) ∧ w' = s'.w ∧ Tr (Rt k) s3 s' ∧ En [] 71 a' [(4, .bool x11), (6, .int .i64 x12), (0, w1), (1, w2), (5, .int .i64 x6), (11, .bool ((x0.length : Int) != (x1.length : Int))), (15, .bool (decide (x6 < (x0.length : Int)))), (43, .bool t2)]) ⟨_, _, _, rfl, rfl, (Tr.refl _ _), ((((((((E.nil.ad E rfl rfl).ad E rfl rfl).ad E rfl rfl).ad E rfl rfl).ad E rfl rfl).ad E rfl rfl).ad E rfl rfl).ad E rfl rfl)⟩ ?_
            rintro _ a _ x ⟨x13, x14, s4, rfl, rfl, t5, E⟩ hf2
            dsimp only [m_11_2b] at hf2
            refine G_seq ?_
            refine G_seq ?_
            refine G_region ?_
            refine sd E (o_mv (E.ev rfl)) rfl rfl rfl fun a E => ?_
            refine sd E (o_mv (E.ev rfl)) rfl rfl rfl fun a E => ?_
            refine sd E (o_mv (E.ev rfl)) rfl rfl rfl fun a E => ?_
            obtain ⟨x15, hx5, hf2⟩ := ob_some hf2
            obtain ⟨b5, p5, g5, h11⟩ := (((h1.tr t1).tr t4).tr t5).gt hx5
            refine sd E (o_ixg Tryz.underlying43 Tryz.sizeOf38 g5 (E.ev rfl) (E.ev rfl)) rfl rfl rfl fun a E => ?_
            refine sd E (o_fa Tryz.underlying38 rfl Tryz.sizeOf36 (E.ev rfl)) rfl rfl rfl fun a E => ?_
            obtain ⟨w7, e9, e10, h12⟩ := h11.fr
            refine sd E (o_ld Tryz.isAgg36 (E.ev rfl) e10) rfl rfl rfl fun a E => ?_
            refine sd E (o_lenS (xs := x15.Words) Tryz.underlying36 (E.ev rfl) h12.isS) rfl rfl rfl fun a E => ?_
            refine sd E (o_bi (E.ev rfl) (E.ev rfl) rfl) rfl rfl rfl fun a E => ?_
            refine GL_nil ?_
            refine tgn ?_
            refine G_cond (E.ev rfl) (fun ht => ?_) (fun ht => ?_)
            · have hf2 := cT ht hf2
              refine G_skip ?_
              refine tgn ?_
              refine G_seq ?_
              refine G_block ?_
              refine G_seq ?_
              refine G_drw k (by rfl) [0, 1, 2, 3, 4, 5, 6, 7, 8, 9, 10, 11, 12, 13, 14, 15, 16] (by kernel_rfl) ?_
              intro s5 t6
              refine dp E rfl (fun w => (o_mv (E.ev rfl))) rfl rfl rfl fun a E => ?_
              refine dp E rfl (fun w => (o_mv (E.ev rfl))) rfl rfl rfl fun a E => ?_
              obtain ⟨x16, hx6, hf2⟩ := ob_some hf2
              obtain ⟨b6, p6, g6, h13⟩ := ((((h1.tr t1).tr t4).tr t5).tr t6).gt hx6
              refine dp E rfl (fun w => (o_ixg Tryz.underlying43 Tryz.sizeOf38 g6 (E.ev rfl) (E.ev rfl))) rfl rfl rfl fun a E => ?_
              refine dp E rfl (fun w => (o_fa Tryz.underlying38 rfl Tryz.sizeOf36 (E.ev rfl))) rfl rfl rfl fun a E => ?_
              obtain ⟨w8, e11, e12, h14⟩ := h13.fr
              refine dr E rfl (fun s' t => (o_ld Tryz.isAgg36 (E.ev rfl) (h13.ck t e12))) rfl rfl rfl rfl fun a E => ?_
              refine dp E rfl (fun w => (o_mv (E.ev rfl))) rfl rfl rfl fun a E => ?_
              obtain ⟨x17, hx7, hf2⟩ := ob_some hf2
              obtain ⟨b7, p7, g7, h15⟩ := h14.gt hx7
              refine dp E rfl (fun w => (o_ixg Tryz.underlying36 Tryz.sizeOf39 g7 (E.ev rfl) (E.ev rfl))) rfl rfl rfl fun a E => ?_
              refine dr E rfl (fun s' t => (o_ld Tryz.isAgg39 (E.ev rfl) (h15.tr t).cell)) rfl rfl rfl rfl fun a E => ?_
              refine dp E rfl (fun w => (o_mv (E.ev rfl))) rfl rfl rfl fun a E => ?_
              refine dp E rfl (fun w => (o_mv (E.ev rfl))) rfl rfl rfl fun a E => ?_
              obtain ⟨x18, hx8, hf2⟩ := ob_some hf2
              obtain ⟨b8, p8, g8, h16⟩ := ((((h2.tr t1).tr t4).tr t5).tr t6).gt hx8
              refine dp E rfl (fun w => (o_ixg Tryz.underlying43 Tryz.sizeOf38 g8 (E.ev rfl) (E.ev rfl))) rfl rfl rfl fun a E => ?_
              refine dp E rfl (fun w => (o_fa Tryz.underlying38 rfl Tryz.sizeOf36 (E.ev rfl))) rfl rfl rfl fun a E => ?_
              obtain ⟨w9, e13, e14, h17⟩ := h16.fr
              refine dr E rfl (fun s' t => (o_ld Tryz.isAgg36 (E.ev rfl) (h16.ck t e14))) rfl rfl rfl rfl fun a E => ?_
              refine dp E rfl (fun w => (o_mv (E.ev rfl))) rfl rfl rfl fun a E => ?_
              obtain ⟨x19, hx9, hf2⟩ := ob_some hf2
              obtain ⟨b9, p9, g9, h18⟩ := h17.gt hx9
              refine dp E rfl (fun w => (o_ixg Tryz.underlying36 Tryz.sizeOf39 g9 (E.ev rfl) (E.ev rfl))) rfl rfl rfl fun a E => ?_
              refine dr E rfl (fun s' t => (o_ld Tryz.isAgg39 (E.ev rfl) (h18.tr t).cell)) rfl rfl rfl rfl fun a E => ?_
              refine dp E rfl (fun w => (o_bi (E.ev rfl) (E.ev rfl) rfl)) rfl rfl rfl fun a E => ?_
              refine gd_nil ?_
              refine tgn ?_
              refine G_cond (E.ev rfl) (fun ht => ?_) (fun ht => ?_)
              · have hf2 := cT ht hf2
                refine G_seq ?_
                refine G_region ?_
                refine sd E (o_as (E.ev rfl)) rfl rfl rfl fun a E => ?_
                refine GL_nil ?_
                refine tgn ?_
                refine G_ret ?_
                refine ebr ?_
                refine tgr ?_
                obtain rfl := Option.some.inj hf2
                refine lpr fun hr => ?_
                subst hr
                dsimp only [m_11_2k] at hf1
                refine ebr ?_
                refine ctr ?_
                refine ebr ?_
                refine tgr ?_
                obtain rfl := Option.some.inj hf1
                refine lpr fun hr => ?_
                subst hr
                dsimp only [m_11_1k] at hm
                refine ebr ?_
                refine ctr ?_
                refine tgr ?_
                cases hm
                exact fin1 E rfl rfl ⟨(((((Tr.refl No s).step hk t1 (fun t h => .inr (Nat.le_of_eq (Eq.symm h)))).stepN t4).step hk t5 (fun t h => .inr (Nat.le_of_eq (Eq.symm h)))).stepN t6), rfl⟩
              · have hf2 := cF ht hf2
                refine G_skip ?_
                refine ebn ?_
                refine tgn ?_
                refine G_region ?_
                refine sd E (o_mv (E.ev rfl)) rfl rfl rfl fun a E => ?_
                refine sd E (o_bi (E.ev rfl) (E.ev rfl) rfl) rfl rfl rfl fun a E => ?_
                refine sd E (o_as (E.ev rfl)) rfl rfl rfl fun a E => ?_
                refine GL_nil ?_
                obtain rfl := Option.some.inj hf2
                exact lpn ⟨_, _, _, rfl, rfl, (t5.trans t6.no), ((((((((E.nil.ad E rfl rfl).ad E rfl rfl).ad E rfl rfl).ad E rfl rfl).ad E rfl rfl).ad E rfl rfl).ad E rfl rfl).ad E rfl rfl)⟩
            · have hf2 := cF ht hf2
              refine G_exit ?_
              refine tge ?_
              obtain rfl := Option.some.inj hf2
              refine lpe fun hr => ?_
              subst hr
              refine ebk ?_
              refine ctn ?_
              exact ⟨_, _, _, hf1, rfl, t5, ((((((((E.nil.ad E rfl rfl).ad E rfl rfl).ad E rfl rfl).ad E rfl rfl).ad E rfl rfl).ad E rfl rfl).ad E rfl rfl).ad E rfl rfl)⟩
          · rintro a _ ⟨x20, x21, s6, hf1, rfl, t7, E⟩
            dsimp only [m_11_2k] at hf1
            refine ebn ?_
            refine tgn ?_
            refine G_region ?_
            refine sd E (o_mv (E.ev rfl)) rfl rfl rfl fun a E => ?_
            refine sd E (o_bi (E.ev rfl) (E.ev rfl) rfl) rfl rfl rfl fun a E => ?_
            refine sd E (o_as (E.ev rfl)) rfl rfl rfl fun a E => ?_
            refine GL_nil ?_
            obtain rfl := Option.some.inj hf1
            exact lpn ⟨_, _, _, rfl, rfl, ((t1.trans t4.no).trans t7), (((((E.nil.ad E rfl rfl).ad E rfl rfl).ad E rfl rfl).ad E rfl rfl).ad E rfl rfl)⟩
      · have hf1 := cF ht hf1
        refine G_exit ?_
        refine tge ?_
        obtain rfl := Option.some.inj hf1
        refine lpe fun hr => ?_
        subst hr
        refine ebk ?_
        refine ctn ?_
        exact ⟨_, _, _, hm, rfl, t1, (((((E.nil.ad E rfl rfl).ad E rfl rfl).ad E rfl rfl).ad E rfl rfl).ad E rfl rfl)⟩
    · rintro a _ ⟨x22, x23, s7, hm, rfl, t8, E⟩
      dsimp only [m_11_1k] at hm
      refine tgn ?_
      refine G_seq ?_
      refine G_region ?_
      refine sd E (o_as (E.ev rfl)) rfl rfl rfl fun a E => ?_
      refine GL_nil ?_
      refine tgn ?_
      refine G_ret ?_
      cases hm
      exact fin1 E rfl rfl ⟨((Tr.refl No s).step hk t8 (fun t h => .inr (Nat.le_of_eq (Eq.symm h)))), rfl⟩

-- slices.Equal[[]uint64,uint64]
noncomputable def m_65_1b (x0 : List Int) (x1 : List Int) : (Bool × Int) → Option (Lo (Bool × Int) (Sum (Bool × Int) Bool)) := fun (x5, x6) => bif decide (x6 < (x0.length : Int)) then (ob (gt x0 x6) fun x7 => ob (gt x1 x6) fun x8 => bif x7 != x8 then (some (.inr (.inr false))) else (some (.inl (x5, IntKind.wrap .i64 (x6 + 1))))) else (some (.inr (.inl (x5, x6))))
noncomputable def m_65_1k : Sum (Bool × Int) Bool → Option Bool
  | .inl (x9, x10) => some true
  | .inr y => some y
noncomputable def m_65 (x0 : List Int) (x1 : List Int) : Option Bool :=
  bif (x0.length : Int) != (x1.length : Int) then (some false) else (ob (loopO (m_65_1b x0 x1) (false, 0)) (m_65_1k))
theorem ok_65 (s : St) {x0 : List Int} {x1 : List Int} {w1 : Value} (h1 : Sl kU s w1 x0) {w2 : Value} (h2 : Sl kU s w2 x1) {r0y : Bool} (hm : m_65 x0 x1 = some r0y) :
    Ok Tryz.prog 90 ([w1, w2] : List Value).toArray s fun v s' => Tr No s s' ∧ v = .bool r0y := by
  unfold m_65 at hm
  obtain ⟨k, hk⟩ := s.fresh
  refine ok_of (n := 26) _ Tryz.func90 rfl _ rfl rfl fun a E => ?_
  refine G_seq ?_
  refine G_region ?_
  refine sd E (o_as (E.ev rfl)) rfl rfl rfl fun a E => ?_
  refine GL_nil ?_
  refine tgn ?_
  refine G_seq ?_
  refine G_seq ?_
  refine G_region ?_
  refine sd E (o_mv (E.ev rfl)) rfl rfl rfl fun a E => ?_
  refine sd E (o_lenS (xs := x0) Tryz.underlying36 (E.ev rfl) h1.isS) rfl rfl rfl fun a E => ?_
  refine sd E (o_mv (E.ev rfl)) rfl rfl rfl fun a E => ?_
  refine sd E (o_lenS (xs := x1) Tryz.underlying36 (E.ev rfl) h2.isS) rfl rfl rfl fun a E => ?_
  refine sd E (o_bi (E.ev rfl) (E.ev rfl) rfl) rfl rfl rfl fun a E => ?_
  refine GL_nil ?_
  refine tgn ?_
  refine G_cond (E.ev rfl) (fun ht => ?_) (fun ht => ?_)
  · have hm := cT ht hm
    refine G_seq ?_
    refine G_region ?_
    refine sd E (o_as (E.ev rfl)) rfl rfl rfl fun a E => ?_
    refine GL_nil ?_
    refine tgn ?_
    refine G_ret ?_
    refine tgr ?_
    cases hm
    exact fin1 E rfl rfl ⟨(Tr.refl No s), rfl⟩
  · have hm := cF ht hm
    refine G_skip ?_
    refine tgn ?_
    refine G_seq ?_
    refine G_seq ?_
    refine G_region ?_
    refine sd E (o_mv (E.ev rfl)) rfl rfl rfl fun a E => ?_
    refine sd E (o_lenS (xs := x0) Tryz.underlying36 (E.ev rfl) h1.isS) rfl rfl rfl fun a E => ?_
    refine sd E (o_mv (E.ev rfl)) rfl rfl rfl fun a E => ?_
    refine GL_nil ?_
    refine tgn ?_
    obtain ⟨r1, hl1, hm⟩ := ob_some hm
    refine G_mid1 (fun a' w' => ∃ x3 x4 s', m_65_1k (.inl (x3, x4)) = some r0y ∧ w' = s'.w ∧ Tr (Rt k) s s' ∧ En [] 26 a' [(4, .bool x3), (13, .int .i64 x4), (0, w1), (1, w2), (10, .bool ((x0.length : Int) != (x1.length : Int))), (12, .int .i64 (x0.length : Int))]) ?_ ?_
    · refine G_block ?_
      refine G_lp hl1 (fun st a' w' => ∃ x3 x4 s', st = (x3, x4) ∧ w' = s'.w ∧ Tr (Rt k) s s' ∧ En [] 26 a' [(4, .bool x3), (13, .int .i64 x4), (0, w1), (1, w2), (10, .bool ((x0.length : Int) != (x1.length : Int))), (12, .int .i64 (x0.length : Int))]) ⟨_, _, _, rfl, rfl, (Tr.refl _ _), ((((((E.nil.ad E rfl rfl).ad E rfl rfl).ad E rfl rfl).ad E rfl rfl).ad E rfl rfl).ad E rfl rfl)⟩ ?_
      rintro _ a _ x ⟨x5, x6, s1, rfl, rfl, t1, E⟩ hf1
      dsimp only [m_65_1b] at hf1
      refine G_seq ?_
      refine G_region ?_
      refine sd E (o_bi (E.ev rfl) (E.ev rfl) rfl) rfl rfl rfl fun a E => ?_
      refine GL_nil ?_
      refine tgn ?_
      refine G_seq ?_
      refine G_cond (E.ev rfl) (fun ht => ?_) (fun ht => ?_)
      · have hf1 := cT ht hf1
        refine G_skip ?_
        refine tgn ?_
        refine G_seq ?_
        refine G_block ?_
        refine G_seq ?_
        refine G_region ?_
        refine sd E (o_mv (E.ev rfl)) rfl rfl rfl fun a E => ?_
        refine sd E (o_as (E.ev rfl)) rfl rfl rfl fun a E => ?_
        refine GL_nil ?_
        refine tgn ?_
        refine G_seq ?_
        refine G_drw k (by rfl) [0, 1, 2, 3, 4, 5, 6, 7, 8] (by kernel_rfl) ?_
        intro s2 t2
        refine dp E rfl (fun w => (o_mv (E.ev rfl))) rfl rfl rfl fun a E => ?_
        refine dp E rfl (fun w => (o_mv (E.ev rfl))) rfl rfl rfl fun a E => ?_
        obtain ⟨x7, hx1, hf1⟩ := ob_some hf1
        obtain ⟨b1, p1, g1, h3⟩ := ((h1.tr t1).tr t2).gt hx1
        refine dp E rfl (fun w => (o_ixg Tryz.underlying36 Tryz.sizeOf39 g1 (E.ev rfl) (E.ev rfl))) rfl rfl rfl fun a E => ?_
        refine dr E rfl (fun s' t => (o_ld Tryz.isAgg39 (E.ev rfl) (h3.tr t).cell)) rfl rfl rfl rfl fun a E => ?_
        refine dp E rfl (fun w => (o_mv (E.ev rfl))) rfl rfl rfl fun a E => ?_
        refine dp E rfl (fun w => (o_mv (E.ev rfl))) rfl rfl rfl fun a E => ?_
        obtain ⟨x8, hx2, hf1⟩ := ob_some hf1
        obtain ⟨b2, p2, g2, h4⟩ := ((h2.tr t1).tr t2).gt hx2
        refine dp E rfl (fun w => (o_ixg Tryz.underlying36 Tryz.sizeOf39 g2 (E.ev rfl) (E.ev rfl))) rfl rfl rfl fun a E => ?_
        refine dr E rfl (fun s' t => (o_ld Tryz.isAgg39 (E.ev rfl) (h4.tr t).cell)) rfl rfl rfl rfl fun a E => ?_
        refine dp E rfl (fun w => (o_bi (E.ev rfl) (E.ev rfl) rfl)) rfl rfl rfl fun a E => ?_
        refine gd_nil ?_
        refine tgn ?_
        refine G_cond (E.ev rfl) (fun ht => ?_) (fun ht => ?_)
        · have hf1 := cT ht hf1
          refine G_seq ?_
          refine G_region ?_
          refine sd E (o_as (E.ev rfl)) rfl rfl rfl fun a E => ?_
          refine GL_nil ?_
          refine tgn ?_
          refine G_ret ?_
          refine ebr ?_
          refine tgr ?_
          obtain rfl := Option.some.inj hf1
          refine lpr fun hr => ?_
          subst hr
          dsimp only [m_65_1k] at hm
          refine ebr ?_
          refine ctr ?_
          refine tgr ?_
          cases hm
          exact fin1 E rfl rfl ⟨(((Tr.refl No s).step hk t1 (fun t h => .inr (Nat.le_of_eq (Eq.symm h)))).stepN t2), rfl⟩
        · have hf1 := cF ht hf1
          refine G_skip ?_
          refine ebn ?_
          refine tgn ?_
          refine G_region ?_
          refine sd E (o_bi (E.ev rfl) (E.ev rfl) rfl) rfl rfl rfl fun a E => ?_
          refine sd E (o_mv (E.ev rfl)) rfl rfl rfl fun a E => ?_
          refine GL_nil ?_
          obtain rfl := Option.some.inj hf1
          exact lpn ⟨_, _, _, rfl, rfl, (t1.trans t2.no), ((((((E.nil.ad E rfl rfl).ad E rfl rfl).ad E rfl rfl).ad E rfl rfl).ad E rfl rfl).ad E rfl rfl)⟩
      · have hf1 := cF ht hf1
        refine G_exit ?_
        refine tge ?_
        obtain rfl := Option.some.inj hf1
        refine lpe fun hr => ?_
        subst hr
        refine ebk ?_
        refine ctn ?_
        exact ⟨_, _, _, hm, rfl, t1, ((((((E.nil.ad E rfl rfl).ad E rfl rfl).ad E rfl rfl).ad E rfl rfl).ad E rfl rfl).ad E rfl rfl)⟩
    · rintro a _ ⟨x9, x10, s3, hm, rfl, t3, E⟩
      dsimp only [m_65_1k] at hm
      refine tgn ?_
      refine G_seq ?_
      refine G_region ?_
      refine sd E (o_as (E.ev rfl)) rfl rfl rfl fun a E => ?_
      refine GL_nil ?_
      refine tgn ?_
      refine G_ret ?_
      cases hm
      exact fin1 E rfl rfl ⟨((Tr.refl No s).step hk t3 (fun t h => .inr (Nat.le_of_eq (Eq.symm h)))), rfl⟩

end Go.Proofs.YtdkfdmalbbfbmaaGreat
