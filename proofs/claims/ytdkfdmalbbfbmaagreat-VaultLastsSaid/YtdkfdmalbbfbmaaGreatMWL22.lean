/- Models and walks, printed by a program of ours. -/
import Derived.Test.YtdkfdmalbbfbmaaGreatMWL21
/- Models and walks, printed by a program of ours. -/
namespace Go.Proofs.YtdkfdmalbbfbmaaGreat
open Go Go.Maps
set_option maxRecDepth 4000
set_option maxHeartbeats 1000000
-- gimmal/anchor.within

noncomputable def m_97 (x0 : Int) (x1 : Int) (x2 : Int) : Option Bool :=
  ob (bif decide (x0 ≥ x1) then (some (decide (x0 ≤ x2))) else (some false)) fun t1 => some t1
theorem ok_97 (s : St) {x0 : Int} {x1 : Int} {x2 : Int} {r0y : Bool} (hm : m_97 x0 x1 x2 = some r0y) :
    Ok Tryz.prog 91 ([.int .i64 x0, .int .i64 x1, .int .i64 x2] : List Value).toArray s fun v s' => Tr No s s' ∧ v = .bool r0y := by
  unfold m_97 at hm
  obtain ⟨κ, hκ⟩ := s.fresh
  refine ok_of (n := 15) _ Tryz.func91 rfl _ rfl rfl fun a E => ?_
  refine G_seq ?_
  refine G_region ?_
  refine sd E (o_as (E.ev rfl)) rfl rfl rfl fun a E => ?_
  refine GL_nil ?_
  refine tgn ?_
  refine G_seq ?_
  obtain ⟨t1, hc1, hm⟩ := ob_some hm
  refine G_regm (fun a' w' => ∃ s', w' = s'.w ∧ Tr No s s' ∧ En [] 15 a' [(6, .bool t1)]) ?_ ?_
  · refine sd E (o_mv (E.ev rfl)) rfl rfl rfl fun a E => ?_
    refine sd E (o_mv (E.ev rfl)) rfl rfl rfl fun a E => ?_
    refine sd E (o_bi (E.ev rfl) (E.ev rfl) rfl) rfl rfl rfl fun a E => ?_
    refine sd E (o_mv (E.ev rfl)) rfl rfl rfl fun a E => ?_
    refine bcase (E.ev (x := .tmp 10) rfl) (fun ht => ?_) (fun ht => ?_)
    · have hc1 := cT ht hc1
      rw [ht] at E
      refine sd E (o_mv (E.ev rfl)) rfl rfl rfl fun a E => ?_
      refine sd E (o_mv (E.ev rfl)) rfl rfl rfl fun a E => ?_
      refine sd E (o_bi (E.ev rfl) (E.ev rfl) rfl) rfl rfl rfl fun a E => ?_
      refine sd E (o_pickT (E.ev rfl) (E.ev rfl)) rfl rfl rfl fun a E => ?_
      refine sd E (o_as (E.ev rfl)) rfl rfl rfl fun a E => ?_
      obtain rfl := Option.some.inj hc1
      exact GL_nil ⟨_, rfl, (Tr.refl _ _), (E.nil.ad E rfl rfl)⟩
    · have hc1 := cF ht hc1
      rw [ht] at E
      refine sk E rfl rfl rfl fun a E => ?_
      refine sk E rfl rfl rfl fun a E => ?_
      refine sk E rfl rfl rfl fun a E => ?_
      refine sd E (o_pickF (E.ev rfl) (E.ev rfl)) rfl rfl rfl fun a E => ?_
      refine sd E (o_as (E.ev rfl)) rfl rfl rfl fun a E => ?_
      obtain rfl := Option.some.inj hc1
      exact GL_nil ⟨_, rfl, (Tr.refl _ _), (E.nil.ad E rfl rfl)⟩
  rintro a _ ⟨s1, rfl, t2, E⟩
  refine tgn ?_
  refine G_ret ?_
  cases hm
  have T1 : Tr (Fz κ []) s s1 := t2.no
  exact fin1 E rfl rfl ⟨(Tr.fin0 hκ T1), rfl⟩

-- gimmal/anchor.may

noncomputable def m_89 (x0 : Anchor) : Option Bool :=
  ob (ob (m_97 x0.Number 1 4294967295) fun y1 => bif y1 then (ob (m_97 x0.Epoch 0 4294967295) fun y2 => bif y2 then (ob (m_97 x0.Area 0 1) fun y3 => bif y3 then (ob (m_97 x0.Words 0 1048576) fun y4 => some y4) else (some false)) else (some false)) else (some false)) fun t2 => some t2
theorem ok_89 (s : St) {x0 : Anchor} {r0y : Bool} (hm : m_89 x0 = some r0y) :
    Ok Tryz.prog 81 ([.agg #[.int .i64 x0.Number, .int .i64 x0.Epoch, .int .i64 x0.Area, .int .i64 x0.Words]] : List Value).toArray s fun v s' => Tr No s s' ∧ v = .bool r0y := by
  unfold m_89 at hm
  obtain ⟨κ, hκ⟩ := s.fresh
  refine ok_of (n := 21) _ Tryz.func81 rfl _ rfl rfl fun a E => ?_
  refine G_seq ?_
  refine G_region ?_
  refine sh E (o_box (E.ev rfl)) rfl rfl rfl ?_
  rintro a _ s1 ⟨b1, rfl, o1, t1⟩ E
  refine sd E (o_as (E.ev rfl)) rfl rfl rfl fun a E => ?_
  refine GL_nil ?_
  refine tgn ?_
  refine G_seq ?_
  obtain ⟨t2, hc1, hm⟩ := ob_some hm
  refine G_regm (fun a' w' => ∃ s', w' = s'.w ∧ Tr No s1 s' ∧ En [] 21 a' [(2, .bool t2)]) ?_ ?_
  · refine sd E (o_fa Tryz.underlying49 rfl Tryz.sizeOf3 (E.ev rfl)) rfl rfl rfl fun a E => ?_
    refine sd E (o_ld Tryz.isAgg3 (E.ev rfl) ((o1.cell _).trans rfl)) rfl rfl rfl fun a E => ?_
    obtain ⟨y1, hx1, hc1⟩ := ob_some hc1
    refine sh E (o_ok Tryz.call91 (E.evs rfl) (E.ev rfl) (ok_97 _ (x0 := x0.Number) (x1 := 1) (x2 := 4294967295) hx1)) rfl rfl rfl ?_
    rintro a _ s2 ⟨t3, rfl⟩ E
    refine sd E (o_mv (E.ev rfl)) rfl rfl rfl fun a E => ?_
    refine bcase (E.ev (x := .tmp 6) rfl) (fun ht => ?_) (fun ht => ?_)
    · have hc1 := cT ht hc1
      rw [ht] at E
      refine sd E (o_fa Tryz.underlying49 rfl Tryz.sizeOf3 (E.ev rfl)) rfl rfl rfl fun a E => ?_
      have f1 := o1.tr t3
      refine sd E (o_ld Tryz.isAgg3 (E.ev rfl) ((f1.cell _).trans rfl)) rfl rfl rfl fun a E => ?_
      obtain ⟨y2, hx2, hc1⟩ := ob_some hc1
      refine sh E (o_ok Tryz.call91 (E.evs rfl) (E.ev rfl) (ok_97 _ (x0 := x0.Epoch) (x1 := 0) (x2 := 4294967295) hx2)) rfl rfl rfl ?_
      rintro a _ s3 ⟨t4, rfl⟩ E
      refine sd E (o_pickT (E.ev rfl) (E.ev rfl)) rfl rfl rfl fun a E => ?_
      refine sd E (o_mv (E.ev rfl)) rfl rfl rfl fun a E => ?_
      refine bcase (E.ev (x := .tmp 11) rfl) (fun ht => ?_) (fun ht => ?_)
      · have hc1 := cT ht hc1
        rw [ht] at E
        refine sd E (o_fa Tryz.underlying49 rfl Tryz.sizeOf3 (E.ev rfl)) rfl rfl rfl fun a E => ?_
        have f2 := f1.tr t4
        refine sd E (o_ld Tryz.isAgg3 (E.ev rfl) ((f2.cell _).trans rfl)) rfl rfl rfl fun a E => ?_
        obtain ⟨y3, hx3, hc1⟩ := ob_some hc1
        refine sh E (o_ok Tryz.call91 (E.evs rfl) (E.ev rfl) (ok_97 _ (x0 := x0.Area) (x1 := 0) (x2 := 1) hx3)) rfl rfl rfl ?_
        rintro a _ s4 ⟨t5, rfl⟩ E
        refine sd E (o_pickT (E.ev rfl) (E.ev rfl)) rfl rfl rfl fun a E => ?_
        refine sd E (o_mv (E.ev rfl)) rfl rfl rfl fun a E => ?_
        refine bcase (E.ev (x := .tmp 16) rfl) (fun ht => ?_) (fun ht => ?_)
        · have hc1 := cT ht hc1
          rw [ht] at E
          refine sd E (o_fa Tryz.underlying49 rfl Tryz.sizeOf3 (E.ev rfl)) rfl rfl rfl fun a E => ?_
          have f3 := f2.tr t5
          refine sd E (o_ld Tryz.isAgg3 (E.ev rfl) ((f3.cell _).trans rfl)) rfl rfl rfl fun a E => ?_
          obtain ⟨y4, hx4, hc1⟩ := ob_some hc1
          refine sh E (o_ok Tryz.call91 (E.evs rfl) (E.ev rfl) (ok_97 _ (x0 := x0.Words) (x1 := 0) (x2 := 1048576) hx4)) rfl rfl rfl ?_
          rintro a _ s5 ⟨t6, rfl⟩ E
          refine sd E (o_pickT (E.ev rfl) (E.ev rfl)) rfl rfl rfl fun a E => ?_
          refine sd E (o_as (E.ev rfl)) rfl rfl rfl fun a E => ?_
          obtain rfl := Option.some.inj hc1
          exact GL_nil ⟨_, rfl, (((t3.trans t4).trans t5).trans t6), (E.nil.ad E rfl rfl)⟩
        · have hc1 := cF ht hc1
          rw [ht] at E
          refine sk E rfl rfl rfl fun a E => ?_
          refine sk E rfl rfl rfl fun a E => ?_
          refine sk E rfl rfl rfl fun a E => ?_
          refine sd E (o_pickF (E.ev rfl) (E.ev rfl)) rfl rfl rfl fun a E => ?_
          refine sd E (o_as (E.ev rfl)) rfl rfl rfl fun a E => ?_
          obtain rfl := Option.some.inj hc1
          exact GL_nil ⟨_, rfl, ((t3.trans t4).trans t5), (E.nil.ad E rfl rfl)⟩
      · have hc1 := cF ht hc1
        rw [ht] at E
        refine sk E rfl rfl rfl fun a E => ?_
        refine sk E rfl rfl rfl fun a E => ?_
        refine sk E rfl rfl rfl fun a E => ?_
        refine sd E (o_pickF (E.ev rfl) (E.ev rfl)) rfl rfl rfl fun a E => ?_
        refine sd E (o_mv (E.ev rfl)) rfl rfl rfl fun a E => ?_
        refine sk E rfl rfl rfl fun a E => ?_
        refine sk E rfl rfl rfl fun a E => ?_
        refine sk E rfl rfl rfl fun a E => ?_
        refine sd E (o_pickF (E.ev rfl) (E.ev rfl)) rfl rfl rfl fun a E => ?_
        refine sd E (o_as (E.ev rfl)) rfl rfl rfl fun a E => ?_
        obtain rfl := Option.some.inj hc1
        exact GL_nil ⟨_, rfl, (t3.trans t4), (E.nil.ad E rfl rfl)⟩
    · have hc1 := cF ht hc1
      rw [ht] at E
      refine sk E rfl rfl rfl fun a E => ?_
      refine sk E rfl rfl rfl fun a E => ?_
      refine sk E rfl rfl rfl fun a E => ?_
      refine sd E (o_pickF (E.ev rfl) (E.ev rfl)) rfl rfl rfl fun a E => ?_
      refine sd E (o_mv (E.ev rfl)) rfl rfl rfl fun a E => ?_
      refine sk E rfl rfl rfl fun a E => ?_
      refine sk E rfl rfl rfl fun a E => ?_
      refine sk E rfl rfl rfl fun a E => ?_
      refine sd E (o_pickF (E.ev rfl) (E.ev rfl)) rfl rfl rfl fun a E => ?_
      refine sd E (o_mv (E.ev rfl)) rfl rfl rfl fun a E => ?_
      refine sk E rfl rfl rfl fun a E => ?_
      refine sk E rfl rfl rfl fun a E => ?_
      refine sk E rfl rfl rfl fun a E => ?_
      refine sd E (o_pickF (E.ev rfl) (E.ev rfl)) rfl rfl rfl fun a E => ?_
      refine sd E (o_as (E.ev rfl)) rfl rfl rfl fun a E => ?_
      obtain rfl := Option.some.inj hc1
      exact GL_nil ⟨_, rfl, t3, (E.nil.ad E rfl rfl)⟩
  rintro a _ ⟨s6, rfl, t7, E⟩
  refine tgn ?_
  refine G_ret ?_
  cases hm
  have T1 : Tr (Fz κ []) s s6 := (t1.no.trans t7.no)
  exact fin1 E rfl rfl ⟨(Tr.fin0 hκ T1), rfl⟩

-- gimmal/anchor.words

noncomputable def m_90 (x0 : Anchor) : Option (List Int) :=
  some [IntKind.wrap .u64 x0.Number, IntKind.wrap .u64 x0.Epoch, IntKind.wrap .u64 x0.Area, IntKind.wrap .u64 x0.Words]
theorem ok_90 (s : St) {x0 : Anchor} {r0y : List Int} (hm : m_90 x0 = some r0y) :
    Ok Tryz.prog 82 ([.agg #[.int .i64 x0.Number, .int .i64 x0.Epoch, .int .i64 x0.Area, .int .i64 x0.Words]] : List Value).toArray s fun v s' => Tr No s s' ∧ ∃ w1, v = w1 ∧ Sl kU s' w1 r0y := by
  unfold m_90 at hm
  obtain ⟨κ, hκ⟩ := s.fresh
  refine ok_of (n := 16) _ Tryz.func82 rfl _ rfl rfl fun a E => ?_
  refine G_seq ?_
  refine G_region ?_
  refine sh E (o_box (E.ev rfl)) rfl rfl rfl ?_
  rintro a _ s1 ⟨b1, rfl, o1, t1⟩ E
  refine sd E (o_as (E.ev rfl)) rfl rfl rfl fun a E => ?_
  refine GL_nil ?_
  refine tgn ?_
  refine G_seq ?_
  refine G_region ?_
  refine sd E (o_fa Tryz.underlying49 rfl Tryz.sizeOf3 (E.ev rfl)) rfl rfl rfl fun a E => ?_
  refine sd E (o_ld Tryz.isAgg3 (E.ev rfl) ((o1.cell _).trans rfl)) rfl rfl rfl fun a E => ?_
  refine sd E (o_cv Tryz.underlying3 Tryz.underlying39 (E.ev rfl)) rfl rfl rfl fun a E => ?_
  refine sd E (o_fa Tryz.underlying49 rfl Tryz.sizeOf3 (E.ev rfl)) rfl rfl rfl fun a E => ?_
  refine sd E (o_ld Tryz.isAgg3 (E.ev rfl) ((o1.cell _).trans rfl)) rfl rfl rfl fun a E => ?_
  refine sd E (o_cv Tryz.underlying3 Tryz.underlying39 (E.ev rfl)) rfl rfl rfl fun a E => ?_
  refine sd E (o_fa Tryz.underlying49 rfl Tryz.sizeOf3 (E.ev rfl)) rfl rfl rfl fun a E => ?_
  refine sd E (o_ld Tryz.isAgg3 (E.ev rfl) ((o1.cell _).trans rfl)) rfl rfl rfl fun a E => ?_
  refine sd E (o_cv Tryz.underlying3 Tryz.underlying39 (E.ev rfl)) rfl rfl rfl fun a E => ?_
  refine sd E (o_fa Tryz.underlying49 rfl Tryz.sizeOf3 (E.ev rfl)) rfl rfl rfl fun a E => ?_
  refine sd E (o_ld Tryz.isAgg3 (E.ev rfl) ((o1.cell _).trans rfl)) rfl rfl rfl fun a E => ?_
  refine sd E (o_cv Tryz.underlying3 Tryz.underlying39 (E.ev rfl)) rfl rfl rfl fun a E => ?_
  refine sh E (o_bs Tryz.underlying36 Tryz.sizeOf39 Tryz.zeroValue39 (qs := #[(0, .int .u64 (IntKind.wrap .u64 x0.Number)), (1, .int .u64 (IntKind.wrap .u64 x0.Epoch)), (2, .int .u64 (IntKind.wrap .u64 x0.Area)), (3, .int .u64 (IntKind.wrap .u64 x0.Words))]) (cells := #[.int .u64 (IntKind.wrap .u64 x0.Number), .int .u64 (IntKind.wrap .u64 x0.Epoch), .int .u64 (IntKind.wrap .u64 x0.Area), .int .u64 (IntKind.wrap .u64 x0.Words)]) (by simp only [List.map_toArray, List.map_cons, List.map_nil, E.ev (x := .tmp 5) (v := .int .u64 (IntKind.wrap .u64 x0.Number)) rfl, E.ev (x := .tmp 8) (v := .int .u64 (IntKind.wrap .u64 x0.Epoch)) rfl, E.ev (x := .tmp 11) (v := .int .u64 (IntKind.wrap .u64 x0.Area)) rfl, E.ev (x := .tmp 14) (v := .int .u64 (IntKind.wrap .u64 x0.Words)) rfl]) rfl rfl (by kernel_rfl)) rfl rfl rfl ?_
  rintro a _ s2 ⟨b2, rfl, h1, t2⟩ E
  have h2 := h1.sl (K := kU) (xs := [IntKind.wrap .u64 x0.Number, IntKind.wrap .u64 x0.Epoch, IntKind.wrap .u64 x0.Area, IntKind.wrap .u64 x0.Words]) ⟨_, _, rfl, rfl, ⟨_, _, rfl, rfl, ⟨_, _, rfl, rfl, ⟨_, _, rfl, rfl, rfl⟩⟩⟩⟩ rfl
  refine sd E (o_as (E.ev rfl)) rfl rfl rfl fun a E => ?_
  refine GL_nil ?_
  refine tgn ?_
  refine G_ret ?_
  cases hm
  have T1 : Tr (Fz κ []) s s2 := (t1.no.trans t2.no)
  exact fin1 E rfl rfl ⟨(Tr.fin0 hκ T1), _, rfl, h2⟩

-- gimmal/anchor.Sector

noncomputable def m_79 (x0 : Anchor) : Option ((List Int) × Bool) :=
  ob (m_89 x0) fun y1 => bif !y1 then (some ((List.replicate 8 (0 : Int)), false)) else (ob (m_90 x0) fun y2 => ob (m_82 9 (IntKind.wrap .i64 (BitVec.ofInt (IntKind.bits .i64) x0.Number &&& BitVec.ofInt (IntKind.bits .i64) 16777215).toNat) y2) fun (y3, y4) => ob (st (List.replicate 8 (0 : Int)) 0 y3) fun x2 => some ((cpy x2 1 y2), true))
theorem ok_79 (s : St) {x0 : Anchor} {r0y : List Int} {r1y : Bool} (hm : m_79 x0 = some (r0y, r1y)) :
    Ok Tryz.prog 67 ([.agg #[.int .i64 x0.Number, .int .i64 x0.Epoch, .int .i64 x0.Area, .int .i64 x0.Words]] : List Value).toArray s fun v s' => Tr No s s' ∧ v = .tuple #[eA .u64 r0y, .bool r1y] ∧ r0y.length = 8 := by
  unfold m_79 at hm
  obtain ⟨κ, hκ⟩ := s.fresh
  refine ok_of (n := 25) _ Tryz.func67 rfl _ rfl rfl fun a E => ?_
  refine G_seq ?_
  refine G_region ?_
  refine sh E (o_box (E.ev rfl)) rfl rfl rfl ?_
  rintro a _ s1 ⟨b1, rfl, o1, t1⟩ E
  refine sh E (o_ala ((κ + 0), 1001) .u64 8 Tryz.zeroValue40 (by kernel_rfl)) rfl rfl rfl ?_
  rintro a _ s2 ⟨b2, rfl, o2, t2⟩ E
  refine sd E (o_as (E.ev rfl)) rfl rfl rfl fun a E => ?_
  refine GL_nil ?_
  refine tgn ?_
  refine G_seq ?_
  refine G_region ?_
  refine sh E (o_ala ((κ + 0), 1002) .u64 8 Tryz.zeroValue40 (by kernel_rfl)) rfl rfl rfl ?_
  rintro a _ s3 ⟨b3, rfl, o3, t3⟩ E
  refine GL_nil ?_
  refine tgn ?_
  refine G_seq ?_
  refine G_seq ?_
  refine G_region ?_
  have f1 := (o1.tr t2).tr t3
  refine sd E (o_ldc (cs := #[.int .i64 x0.Number, .int .i64 x0.Epoch, .int .i64 x0.Area, .int .i64 x0.Words]) Tryz.isAgg49 Tryz.sizeOf49 (E.ev rfl) f1.cell) rfl rfl rfl fun a E => ?_
  obtain ⟨y1, hx1, hm⟩ := ob_some hm
  refine sh E (o_ok Tryz.call81 (E.evs rfl) (E.ev rfl) (ok_89 _ (x0 := x0) hx1)) rfl rfl rfl ?_
  rintro a _ s4 ⟨t4, rfl⟩ E
  refine sd E (o_not (E.ev rfl)) rfl rfl rfl fun a E => ?_
  refine GL_nil ?_
  refine tgn ?_
  refine G_cond (E.ev rfl) (fun ht => ?_) (fun ht => ?_)
  · have hm := cT ht hm
    refine G_seq ?_
    refine G_region ?_
    have f2 := o3.trN t4
    refine sd E (o_ldA Tryz.isAgg40 Tryz.sizeOf40 (E.ev rfl) (List.length_replicate ..) f2.cell) rfl rfl rfl fun a E => ?_
    have f3 := (o2.trN t3).trN t4
    refine shN E (o_stA Tryz.sizeOf40 f3 (E.ev rfl) (E.ev rfl) (List.length_replicate ..) (List.length_replicate ..)) rfl rfl ?_
    rintro _ s5 ⟨o4, t5⟩
    refine sd E (o_as (E.ev rfl)) rfl rfl rfl fun a E => ?_
    refine GL_nil ?_
    refine tgn ?_
    refine G_ret ?_
    refine tgr ?_
    cases hm
    have T1 : Tr (Fz κ []) s s5 := ((((t1.no.trans t2.no).trans t3.no).trans t4.no).trans (Tr.ft Fz.f t5))
    exact fin2 E rfl (rv_cellA rfl Tryz.isAgg40 Tryz.sizeOf40 (List.length_replicate ..) o4.cell) rfl ⟨(Tr.fin0 hκ T1), rfl, (List.length_replicate ..)⟩
  · have hm := cF ht hm
    refine G_skip ?_
    refine tgn ?_
    refine G_seq ?_
    refine G_region ?_
    have f4 := f1.tr t4
    refine sd E (o_ldc (cs := #[.int .i64 x0.Number, .int .i64 x0.Epoch, .int .i64 x0.Area, .int .i64 x0.Words]) Tryz.isAgg49 Tryz.sizeOf49 (E.ev rfl) f4.cell) rfl rfl rfl fun a E => ?_
    obtain ⟨y2, hx2, hm⟩ := ob_some hm
    refine sh E (o_ok Tryz.call82 (E.evs rfl) (E.ev rfl) (ok_90 _ (x0 := x0) hx2)) rfl rfl rfl ?_
    rintro a w1 s6 ⟨t6, _, rfl, h1⟩ E
    refine sd E (o_as (E.ev rfl)) rfl rfl rfl fun a E => ?_
    refine GL_nil ?_
    refine tgn ?_
    refine G_seq ?_
    refine G_region ?_
    refine sd E (o_fa Tryz.underlying49 rfl Tryz.sizeOf3 (E.ev rfl)) rfl rfl rfl fun a E => ?_
    have f5 := f4.tr t6
    refine sd E (o_ld Tryz.isAgg3 (E.ev rfl) ((f5.cell _).trans rfl)) rfl rfl rfl fun a E => ?_
    refine sd E (o_bi (E.ev rfl) (E.ev rfl) rfl) rfl rfl rfl fun a E => ?_
    refine sd E (o_mv (E.ev rfl)) rfl rfl rfl fun a E => ?_
    obtain ⟨⟨y3, y4⟩, hx3, hm⟩ := ob_some hm
    refine sh E (o_ok Tryz.call83 (E.evs rfl) (E.ev rfl) (ok_82 _ (x0 := 9) (x1 := IntKind.wrap .i64 (BitVec.ofInt (IntKind.bits .i64) x0.Number &&& BitVec.ofInt (IntKind.bits .i64) 16777215).toNat) (x2 := y2) h1 hx3)) rfl rfl rfl ?_
    rintro a _ s7 ⟨t7, rfl⟩ E
    refine sd E (o_mv (E.ev rfl)) rfl rfl rfl fun a E => ?_
    refine sd E (o_ext (v := .int .u64 y3) (E.ev rfl) rfl) rfl rfl rfl fun a E => ?_
    refine sd E (o_ext (v := .bool y4) (E.ev rfl) rfl) rfl rfl rfl fun a E => ?_
    refine sd E (o_ixa Tryz.underlying40 Tryz.sizeOf39 (E.ev rfl) (E.ev rfl) (by decide) (by decide)) rfl rfl rfl fun a E => ?_
    obtain ⟨x2, hx4, hm⟩ := ob_some hm
    have f6 := ((o3.trN t4).trN t6).trN t7
    refine shN E (o_sta Tryz.sizeOf39 f6 (E.ev rfl) (E.ev rfl) hx4) rfl rfl ?_
    rintro _ s8 ⟨o5, t8⟩
    refine GL_nil ?_
    refine tgn ?_
    refine G_seq ?_
    refine G_region ?_
    refine sd E (o_slSL (l := 1) Tryz.underlying40 Tryz.sizeOf39 (E.ev rfl) (E.ev rfl) (by kernel_rfl)) rfl rfl rfl fun a E => ?_
    refine sd E (o_mv (E.ev rfl)) rfl rfl rfl fun a E => ?_
    have f7 := (h1.tr t7).tr t8
    refine sh E (o_cpyL (l := 1) Tryz.underlying36 rfl o5 ((st_len hx4).trans (List.length_replicate ..)) (by kernel_rfl) f7.rd (E.ev rfl) (E.ev rfl)) rfl rfl rfl ?_
    rintro a _ s9 ⟨rfl, o6, t9⟩ E
    refine GL_nil ?_
    refine tgn ?_
    refine G_seq ?_
    refine G_region ?_
    refine sd E (o_ldA Tryz.isAgg40 Tryz.sizeOf40 (E.ev rfl) ((cpy_len (by rw [((st_len hx4).trans (List.length_replicate ..))]; decide)).trans ((st_len hx4).trans (List.length_replicate ..))) o6.cell) rfl rfl rfl fun a E => ?_
    have f8 := (((((o2.trN t3).trN t4).trN t6).trN t7).tr t8 (nt_snd rfl)).tr t9 (nt_snd rfl)
    refine shN E (o_stA Tryz.sizeOf40 f8 (E.ev rfl) (E.ev rfl) (List.length_replicate ..) ((cpy_len (by rw [((st_len hx4).trans (List.length_replicate ..))]; decide)).trans ((st_len hx4).trans (List.length_replicate ..)))) rfl rfl ?_
    rintro _ s10 ⟨o7, t10⟩
    refine sd E (o_as (E.ev rfl)) rfl rfl rfl fun a E => ?_
    refine GL_nil ?_
    refine tgn ?_
    refine G_ret ?_
    cases hm
    have T2 : Tr (Fz κ []) s s10 := ((((((((t1.no.trans t2.no).trans t3.no).trans t4.no).trans t6.no).trans t7.no).trans (Tr.ft Fz.f t8)).trans (Tr.ft Fz.f t9)).trans (Tr.ft Fz.f t10))
    exact fin2 E rfl (rv_cellA rfl Tryz.isAgg40 Tryz.sizeOf40 ((cpy_len (by rw [((st_len hx4).trans (List.length_replicate ..))]; decide)).trans ((st_len hx4).trans (List.length_replicate ..))) o7.cell) rfl ⟨(Tr.fin0 hκ T2), rfl, ((cpy_len (by rw [((st_len hx4).trans (List.length_replicate ..))]; decide)).trans ((st_len hx4).trans (List.length_replicate ..)))⟩

-- gimmal/anchor.Read$1

noncomputable def m_86 (x0 : Int) (xf0 : List Int) : Option Int :=
  ob (gd (decide (0 ≤ x0) && decide (x0 < 8)) (some ())) fun x2 => ob (gt xf0 x0) fun x3 => some (IntKind.wrap .i64 (IntKind.wrap .u64 (BitVec.ofInt (IntKind.bits .u64) x3 &&& BitVec.ofInt (IntKind.bits .u64) 4294967295).toNat))
theorem ok_86 (s : St) {x0 : Int} {fb0 : Nat} {xf0 : List Int} (of0 : Stay s fb0 (cA .u64 xf0)) (lf0 : xf0.length = 8) {r0y : Int} (hm : m_86 x0 xf0 = some r0y) :
    Ok Tryz.prog 72 ([.int .i64 x0, .pointer (some ⟨fb0, 0, none⟩)] : List Value).toArray s fun v s' => Tr No s s' ∧ v = .int .i64 r0y := by
  unfold m_86 at hm
  obtain ⟨κ, hκ⟩ := s.fresh
  refine ok_of (n := 9) _ Tryz.func72 rfl _ rfl rfl fun a E => ?_
  refine G_seq ?_
  refine G_region ?_
  refine sd E (o_as (E.ev rfl)) rfl rfl rfl fun a E => ?_
  refine GL_nil ?_
  refine tgn ?_
  refine G_seq ?_
  refine G_region ?_
  refine sd E (o_mv (E.ev rfl)) rfl rfl rfl fun a E => ?_
  obtain ⟨x2, hx1, hm⟩ := ob_some hm
  refine sd E (o_ixa Tryz.underlying40 Tryz.sizeOf39 (E.ev rfl) (E.ev rfl) (ix_some hx1).1 (ix_some hx1).2) rfl rfl rfl fun a E => ?_
  obtain ⟨x3, hx2, hm⟩ := ob_some hm
  refine sd E (o_ld Tryz.isAgg39 (E.ev rfl) ((of0.cell _).trans (cA_get (gt_get hx2)))) rfl rfl rfl fun a E => ?_
  refine sd E (o_bi (E.ev rfl) (E.ev rfl) rfl) rfl rfl rfl fun a E => ?_
  refine sd E (o_cv Tryz.underlying39 Tryz.underlying3 (E.ev rfl)) rfl rfl rfl fun a E => ?_
  refine sd E (o_as (E.ev rfl)) rfl rfl rfl fun a E => ?_
  refine GL_nil ?_
  refine tgn ?_
  refine G_ret ?_
  cases hm
  exact fin1 E rfl rfl ⟨(Tr.fin0 hκ (Tr.refl _ _)), rfl⟩

-- gimmal/anchor.Read

noncomputable def m_72 (x0 : List Int) : Option (Anchor × Bool) :=
  ob (m_86 1 x0) fun y1 => ob (m_86 2 x0) fun y2 => ob (m_86 3 x0) fun y3 => ob (m_86 4 x0) fun y4 => ob (m_79 (⟨y1, y2, y3, y4⟩ : Anchor)) fun (y5, y6) => ob (bif !y6 then (some true) else (some (!decide (y5 = x0)))) fun t12 => bif t12 then (some ((⟨0, 0, 0, 0⟩ : Anchor), false)) else (some ((⟨y1, y2, y3, y4⟩ : Anchor), true))
theorem ok_72 (s : St) {x0 : List Int} (len_x0 : x0.length = 8) {r0y : Anchor} {r1y : Bool} (hm : m_72 x0 = some (r0y, r1y)) :
    Ok Tryz.prog 51 ([eA .u64 x0] : List Value).toArray s fun v s' => Tr No s s' ∧ v = .tuple #[.agg #[.int .i64 r0y.Number, .int .i64 r0y.Epoch, .int .i64 r0y.Area, .int .i64 r0y.Words], .bool r1y] := by
  unfold m_72 at hm
  obtain ⟨κ, hκ⟩ := s.fresh
  refine ok_of (n := 32) _ Tryz.func51 rfl _ rfl rfl fun a E => ?_
  refine G_seq ?_
  refine G_region ?_
  refine sh E (o_box (E.ev rfl)) rfl rfl rfl ?_
  rintro a _ s1 ⟨b1, rfl, o1, t1⟩ E
  refine sh E (o_al ((κ + 0), 1001) Tryz.zeroValue49) rfl rfl rfl ?_
  rintro a _ s2 ⟨b2, rfl, o2, t2⟩ E
  refine sd E (o_as (E.ev rfl)) rfl rfl rfl fun a E => ?_
  refine GL_nil ?_
  refine tgn ?_
  refine G_seq ?_
  refine G_region ?_
  refine sd E (o_mf (E.evs rfl)) rfl rfl rfl fun a E => ?_
  refine sd E (o_as (E.ev rfl)) rfl rfl rfl fun a E => ?_
  refine GL_nil ?_
  refine tgn ?_
  refine G_seq ?_
  refine G_region ?_
  refine sd E (o_mv (E.ev rfl)) rfl rfl rfl fun a E => ?_
  have f1 := o1.tr t2
  obtain ⟨y1, hx1, hm⟩ := ob_some hm
  refine sh E (o_okv Tryz.call72 (E.ev rfl) (E.evs rfl) (ok_86 _ (x0 := 1) f1 len_x0 hx1)) rfl rfl rfl ?_
  rintro a _ s3 ⟨t3, rfl⟩ E
  refine sd E (o_mv (E.ev rfl)) rfl rfl rfl fun a E => ?_
  have f2 := f1.tr t3
  obtain ⟨y2, hx2, hm⟩ := ob_some hm
  refine sh E (o_okv Tryz.call72 (E.ev rfl) (E.evs rfl) (ok_86 _ (x0 := 2) f2 len_x0 hx2)) rfl rfl rfl ?_
  rintro a _ s4 ⟨t4, rfl⟩ E
  refine sd E (o_mv (E.ev rfl)) rfl rfl rfl fun a E => ?_
  have f3 := f2.tr t4
  obtain ⟨y3, hx3, hm⟩ := ob_some hm
  refine sh E (o_okv Tryz.call72 (E.ev rfl) (E.evs rfl) (ok_86 _ (x0 := 3) f3 len_x0 hx3)) rfl rfl rfl ?_
  rintro a _ s5 ⟨t5, rfl⟩ E
  refine sd E (o_mv (E.ev rfl)) rfl rfl rfl fun a E => ?_
  have f4 := f3.tr t5
  obtain ⟨y4, hx4, hm⟩ := ob_some hm
  refine sh E (o_okv Tryz.call72 (E.ev rfl) (E.evs rfl) (ok_86 _ (x0 := 4) f4 len_x0 hx4)) rfl rfl rfl ?_
  rintro a _ s6 ⟨t6, rfl⟩ E
  refine sd E (o_bd (cells := #[.int .i64 y1, .int .i64 y2, .int .i64 y3, .int .i64 y4]) (places := #[(0, 1), (1, 1), (2, 1), (3, 1)]) Tryz.zeroValue49 Tryz.underlying49 (fun w => by simp [Sem.run_bind, Result.andThen, Tryz.sizeOf3]) (qs := #[(0, .int .i64 y1), (1, .int .i64 y2), (2, .int .i64 y3), (3, .int .i64 y4)]) (by simp only [List.map_toArray, List.map_cons, List.map_nil, E.ev (x := .tmp 10) (v := .int .i64 y1) rfl, E.ev (x := .tmp 12) (v := .int .i64 y2) rfl, E.ev (x := .tmp 14) (v := .int .i64 y3) rfl, E.ev (x := .tmp 16) (v := .int .i64 y4) rfl]) (by kernel_rfl)) rfl rfl rfl fun a E => ?_
  refine sh E (o_al ((κ + 0), 1002) Tryz.zeroValue49) rfl rfl rfl ?_
  rintro a _ s7 ⟨b3, rfl, o3, t7⟩ E
  refine shN E (o_st (o := 0) (cs' := #[.int .i64 y1, .int .i64 y2, .int .i64 y3, .int .i64 y4]) (v := .agg #[.int .i64 y1, .int .i64 y2, .int .i64 y3, .int .i64 y4]) Tryz.sizeOf49 o3 (E.ev rfl) (E.ev rfl) (Nat.le_of_ble_eq_true rfl) (one_cells rfl) rfl) rfl rfl ?_
  rintro _ s8 ⟨o4, t8⟩
  refine GL_nil ?_
  refine tgn ?_
  refine G_seq ?_
  refine G_seq ?_
  refine G_region ?_
  refine sd E (o_ldc (cs := #[.int .i64 y1, .int .i64 y2, .int .i64 y3, .int .i64 y4]) Tryz.isAgg49 Tryz.sizeOf49 (E.ev rfl) o4.cell) rfl rfl rfl fun a E => ?_
  obtain ⟨⟨y5, y6⟩, hx5, hm⟩ := ob_some hm
  refine sh E (o_ok Tryz.call67 (E.evs rfl) (E.ev rfl) (ok_79 _ (x0 := (⟨y1, y2, y3, y4⟩ : Anchor)) hx5)) rfl rfl rfl ?_
  rintro a _ s9 ⟨t9, rfl, len_y5⟩ E
  refine sd E (o_mv (E.ev rfl)) rfl rfl rfl fun a E => ?_
  refine sd E (o_ext (v := eA .u64 y5) (E.ev rfl) rfl) rfl rfl rfl fun a E => ?_
  refine sd E (o_ext (v := .bool y6) (E.ev rfl) rfl) rfl rfl rfl fun a E => ?_
  refine sh E (o_ala ((κ + 0), 1003) .u64 8 Tryz.zeroValue40 (by kernel_rfl)) rfl rfl rfl ?_
  rintro a _ s10 ⟨b4, rfl, o5, t10⟩ E
  refine shN E (o_stA Tryz.sizeOf40 o5 (E.ev rfl) (E.ev rfl) (List.length_replicate ..) len_y5) rfl rfl ?_
  rintro _ s11 ⟨o6, t11⟩
  refine sd E (o_as (E.ev rfl)) rfl rfl rfl fun a E => ?_
  refine GL_nil ?_
  refine tgn ?_
  refine G_seq ?_
  obtain ⟨t12, hc1, hm⟩ := ob_some hm
  refine G_regm (fun a' w' => ∃ s', w' = s'.w ∧ Tr No s11 s' ∧ En [] 32 a' [(29, .bool t12), (2, .pointer (some ⟨b2, 0, none⟩)), (3, .bool false), (5, .pointer (some ⟨b3, 0, none⟩))]) ?_ ?_
  · refine sd E (o_mv (E.ev rfl)) rfl rfl rfl fun a E => ?_
    refine sd E (o_not (E.ev rfl)) rfl rfl rfl fun a E => ?_
    refine sd E (o_mv (E.ev rfl)) rfl rfl rfl fun a E => ?_
    refine bcase (E.ev (x := .tmp 25) rfl) (fun ht => ?_) (fun ht => ?_)
    · have hc1 := cT ht hc1
      rw [ht] at E
      refine sk E rfl rfl rfl fun a E => ?_
      refine sk E rfl rfl rfl fun a E => ?_
      refine sk E rfl rfl rfl fun a E => ?_
      refine sd E (o_pickT (E.ev rfl) (E.ev rfl)) rfl rfl rfl fun a E => ?_
      obtain rfl := Option.some.inj hc1
      exact GL_nil ⟨_, rfl, (Tr.refl _ _), ((((E.nil.ad E rfl rfl).ad E rfl rfl).ad E rfl rfl).ad E rfl rfl)⟩
    · have hc1 := cF ht hc1
      rw [ht] at E
      refine sd E (o_ldA Tryz.isAgg40 Tryz.sizeOf40 (E.ev rfl) len_y5 o6.cell) rfl rfl rfl fun a E => ?_
      have f5 := (((((f4.tr t6).tr t7).tr t8).tr t9).tr t10).tr t11
      refine sd E (o_ldA Tryz.isAgg40 Tryz.sizeOf40 (E.ev rfl) len_x0 f5.cell) rfl rfl rfl fun a E => ?_
      refine sd E (o_neA Tryz.underlying40 Tryz.type39 Tryz.underlying39 (by kernel_rfl) (by kernel_rfl) (by kernel_rfl) (E.ev rfl) (E.ev rfl) len_y5 len_x0) rfl rfl rfl fun a E => ?_
      refine sd E (o_pickF (E.ev rfl) (E.ev rfl)) rfl rfl rfl fun a E => ?_
      obtain rfl := Option.some.inj hc1
      exact GL_nil ⟨_, rfl, (Tr.refl _ _), ((((E.nil.ad E rfl rfl).ad E rfl rfl).ad E rfl rfl).ad E rfl rfl)⟩
  rintro a _ ⟨s12, rfl, t13, E⟩
  refine tgn ?_
  refine G_cond (E.ev rfl) (fun ht => ?_) (fun ht => ?_)
  · have hm := cT ht hm
    refine G_seq ?_
    refine G_region ?_
    refine sd E (o_bd (cells := #[.int .i64 0, .int .i64 0, .int .i64 0, .int .i64 0]) (places := #[(0, 1), (1, 1), (2, 1), (3, 1)]) Tryz.zeroValue49 Tryz.underlying49 (fun w => by simp [Sem.run_bind, Result.andThen, Tryz.sizeOf3]) (qs := #[]) (by simp only [List.map_toArray, List.map_cons, List.map_nil]) (by kernel_rfl)) rfl rfl rfl fun a E => ?_
    have f6 := (((((((((o2.trN t3).trN t4).trN t5).trN t6).trN t7).tr t8 (nt_snd rfl)).trN t9).trN t10).tr t11 (nt_snd rfl)).trN t13
    refine shN E (o_st (o := 0) (cs' := #[.int .i64 0, .int .i64 0, .int .i64 0, .int .i64 0]) (v := .agg #[.int .i64 0, .int .i64 0, .int .i64 0, .int .i64 0]) Tryz.sizeOf49 f6 (E.ev rfl) (E.ev rfl) (Nat.le_of_ble_eq_true rfl) (one_cells rfl) rfl) rfl rfl ?_
    rintro _ s13 ⟨o7, t14⟩
    refine sd E (o_as (E.ev rfl)) rfl rfl rfl fun a E => ?_
    refine GL_nil ?_
    refine tgn ?_
    refine G_ret ?_
    refine tgr ?_
    cases hm
    have T1 : Tr (Fz κ []) s s13 := ((((((((((((t1.no.trans t2.no).trans t3.no).trans t4.no).trans t5.no).trans t6.no).trans t7.no).trans (Tr.ft Fz.f t8)).trans t9.no).trans t10.no).trans (Tr.ft Fz.f t11)).trans t13.no).trans (Tr.ft Fz.f t14))
    exact fin2 E rfl (rv_cell (cs := #[.int .i64 0, .int .i64 0, .int .i64 0, .int .i64 0]) rfl Tryz.isAgg49 Tryz.sizeOf49 o7.cell) rfl ⟨(Tr.fin0 hκ T1), rfl⟩
  · have hm := cF ht hm
    refine G_skip ?_
    refine tgn ?_
    refine G_seq ?_
    refine G_region ?_
    have f7 := (((o4.trN t9).trN t10).tr t11 (nt_snd rfl)).trN t13
    refine sd E (o_ldc (cs := #[.int .i64 y1, .int .i64 y2, .int .i64 y3, .int .i64 y4]) Tryz.isAgg49 Tryz.sizeOf49 (E.ev rfl) f7.cell) rfl rfl rfl fun a E => ?_
    have f8 := (((((((((o2.trN t3).trN t4).trN t5).trN t6).trN t7).tr t8 (nt_snd rfl)).trN t9).trN t10).tr t11 (nt_snd rfl)).trN t13
    refine shN E (o_st (o := 0) (cs' := #[.int .i64 y1, .int .i64 y2, .int .i64 y3, .int .i64 y4]) (v := .agg #[.int .i64 y1, .int .i64 y2, .int .i64 y3, .int .i64 y4]) Tryz.sizeOf49 f8 (E.ev rfl) (E.ev rfl) (Nat.le_of_ble_eq_true rfl) (one_cells rfl) rfl) rfl rfl ?_
    rintro _ s14 ⟨o8, t15⟩
    refine sd E (o_as (E.ev rfl)) rfl rfl rfl fun a E => ?_
    refine GL_nil ?_
    refine tgn ?_
    refine G_ret ?_
    cases hm
    have T2 : Tr (Fz κ []) s s14 := ((((((((((((t1.no.trans t2.no).trans t3.no).trans t4.no).trans t5.no).trans t6.no).trans t7.no).trans (Tr.ft Fz.f t8)).trans t9.no).trans t10.no).trans (Tr.ft Fz.f t11)).trans t13.no).trans (Tr.ft Fz.f t15))
    exact fin2 E rfl (rv_cell (cs := #[.int .i64 y1, .int .i64 y2, .int .i64 y3, .int .i64 y4]) rfl Tryz.isAgg49 Tryz.sizeOf49 o8.cell) rfl ⟨(Tr.fin0 hκ T2), rfl⟩

-- cmp.isNaN[int]

noncomputable def m_87 (x0 : Int) : Option Bool :=
  some (x0 != x0)
theorem ok_87 (s : St) {x0 : Int} {r0y : Bool} (hm : m_87 x0 = some r0y) :
    Ok Tryz.prog 73 ([.int .i64 x0] : List Value).toArray s fun v s' => Tr No s s' ∧ v = .bool r0y := by
  unfold m_87 at hm
  obtain ⟨κ, hκ⟩ := s.fresh
  refine ok_of (n := 6) _ Tryz.func73 rfl _ rfl rfl fun a E => ?_
  refine G_seq ?_
  refine G_region ?_
  refine sd E (o_as (E.ev rfl)) rfl rfl rfl fun a E => ?_
  refine GL_nil ?_
  refine tgn ?_
  refine G_seq ?_
  refine G_region ?_
  refine sd E (o_mv (E.ev rfl)) rfl rfl rfl fun a E => ?_
  refine sd E (o_mv (E.ev rfl)) rfl rfl rfl fun a E => ?_
  refine sd E (o_bi (E.ev rfl) (E.ev rfl) rfl) rfl rfl rfl fun a E => ?_
  refine sd E (o_as (E.ev rfl)) rfl rfl rfl fun a E => ?_
  refine GL_nil ?_
  refine tgn ?_
  refine G_ret ?_
  cases hm
  exact fin1 E rfl rfl ⟨(Tr.fin0 hκ (Tr.refl _ _)), rfl⟩

-- cmp.Compare[int]

noncomputable def m_75 (x0 : Int) (x1 : Int) : Option Int :=
  ob (m_87 x0) fun y1 => ob (m_87 x1) fun y2 => bif y1 then (bif y2 then (some 0) else (some (-1))) else (bif y2 then (some 1) else (bif decide (x0 < x1) then (some (-1)) else (bif decide (x0 > x1) then (some 1) else (some 0))))
theorem ok_75 (s : St) {x0 : Int} {x1 : Int} {r0y : Int} (hm : m_75 x0 x1 = some r0y) :
    Ok Tryz.prog 54 ([.int .i64 x0, .int .i64 x1] : List Value).toArray s fun v s' => Tr No s s' ∧ v = .int .i64 r0y := by
  unfold m_75 at hm
  obtain ⟨κ, hκ⟩ := s.fresh
  refine ok_of (n := 20) _ Tryz.func54 rfl _ rfl rfl fun a E => ?_
  refine G_seq ?_
  refine G_region ?_
  refine sd E (o_as (E.ev rfl)) rfl rfl rfl fun a E => ?_
  refine GL_nil ?_
  refine tgn ?_
  refine G_seq ?_
  refine G_region ?_
  refine sd E (o_mv (E.ev rfl)) rfl rfl rfl fun a E => ?_
  obtain ⟨y1, hx1, hm⟩ := ob_some hm
  refine sh E (o_ok Tryz.call73 (E.evs rfl) (E.ev rfl) (ok_87 _ (x0 := x0) hx1)) rfl rfl rfl ?_
  rintro a _ s1 ⟨t1, rfl⟩ E
  refine sd E (o_as (E.ev rfl)) rfl rfl rfl fun a E => ?_
  refine GL_nil ?_
  refine tgn ?_
  refine G_seq ?_
  refine G_region ?_
  refine sd E (o_mv (E.ev rfl)) rfl rfl rfl fun a E => ?_
  obtain ⟨y2, hx2, hm⟩ := ob_some hm
  refine sh E (o_ok Tryz.call73 (E.evs rfl) (E.ev rfl) (ok_87 _ (x0 := x1) hx2)) rfl rfl rfl ?_
  rintro a _ s2 ⟨t2, rfl⟩ E
  refine sd E (o_as (E.ev rfl)) rfl rfl rfl fun a E => ?_
  refine GL_nil ?_
  refine tgn ?_
  refine G_seq ?_
  refine G_seq ?_
  refine G_region ?_
  refine sd E (o_mv (E.ev rfl)) rfl rfl rfl fun a E => ?_
  refine GL_nil ?_
  refine tgn ?_
  refine G_cond (E.ev rfl) (fun ht => ?_) (fun ht => ?_)
  · have hm := cT ht hm
    refine G_seq ?_
    refine G_seq ?_
    refine G_region ?_
    refine sd E (o_mv (E.ev rfl)) rfl rfl rfl fun a E => ?_
    refine GL_nil ?_
    refine tgn ?_
    refine G_cond (E.ev rfl) (fun ht => ?_) (fun ht => ?_)
    · have hm := cT ht hm
      refine G_seq ?_
      refine G_region ?_
      refine sd E (o_as (E.ev rfl)) rfl rfl rfl fun a E => ?_
      refine GL_nil ?_
      refine tgn ?_
      refine G_ret ?_
      refine tgr ?_
      refine tgr ?_
      cases hm
      have T1 : Tr (Fz κ []) s s2 := (t1.no.trans t2.no)
      exact fin1 E rfl rfl ⟨(Tr.fin0 hκ T1), rfl⟩
    · have hm := cF ht hm
      refine G_skip ?_
      refine tgn ?_
      refine G_seq ?_
      refine G_region ?_
      refine sd E (o_as (E.ev rfl)) rfl rfl rfl fun a E => ?_
      refine GL_nil ?_
      refine tgn ?_
      refine G_ret ?_
      refine tgr ?_
      cases hm
      have T2 : Tr (Fz κ []) s s2 := (t1.no.trans t2.no)
      exact fin1 E rfl rfl ⟨(Tr.fin0 hκ T2), rfl⟩
  · have hm := cF ht hm
    refine G_skip ?_
    refine tgn ?_
    refine G_seq ?_
    refine G_seq ?_
    refine G_region ?_
    refine sd E (o_mv (E.ev rfl)) rfl rfl rfl fun a E => ?_
    refine GL_nil ?_
    refine tgn ?_
    refine G_cond (E.ev rfl) (fun ht => ?_) (fun ht => ?_)
    · have hm := cT ht hm
      refine G_seq ?_
      refine G_region ?_
      refine sd E (o_as (E.ev rfl)) rfl rfl rfl fun a E => ?_
      refine GL_nil ?_
      refine tgn ?_
      refine G_ret ?_
      refine tgr ?_
      cases hm
      have T3 : Tr (Fz κ []) s s2 := (t1.no.trans t2.no)
      exact fin1 E rfl rfl ⟨(Tr.fin0 hκ T3), rfl⟩
    · have hm := cF ht hm
      refine G_skip ?_
      refine tgn ?_
      refine G_seq ?_
      refine G_seq ?_
      refine G_region ?_
      refine sd E (o_mv (E.ev rfl)) rfl rfl rfl fun a E => ?_
      refine sd E (o_mv (E.ev rfl)) rfl rfl rfl fun a E => ?_
      refine sd E (o_bi (E.ev rfl) (E.ev rfl) rfl) rfl rfl rfl fun a E => ?_
      refine GL_nil ?_
      refine tgn ?_
      refine G_cond (E.ev rfl) (fun ht => ?_) (fun ht => ?_)
      · have hm := cT ht hm
        refine G_seq ?_
        refine G_region ?_
        refine sd E (o_as (E.ev rfl)) rfl rfl rfl fun a E => ?_
        refine GL_nil ?_
        refine tgn ?_
        refine G_ret ?_
        refine tgr ?_
        cases hm
        have T4 : Tr (Fz κ []) s s2 := (t1.no.trans t2.no)
        exact fin1 E rfl rfl ⟨(Tr.fin0 hκ T4), rfl⟩
      · have hm := cF ht hm
        refine G_skip ?_
        refine tgn ?_
        refine G_seq ?_
        refine G_seq ?_
        refine G_region ?_
        refine sd E (o_mv (E.ev rfl)) rfl rfl rfl fun a E => ?_
        refine sd E (o_mv (E.ev rfl)) rfl rfl rfl fun a E => ?_
        refine sd E (o_bi (E.ev rfl) (E.ev rfl) rfl) rfl rfl rfl fun a E => ?_
        refine GL_nil ?_
        refine tgn ?_
        refine G_cond (E.ev rfl) (fun ht => ?_) (fun ht => ?_)
        · have hm := cT ht hm
          refine G_seq ?_
          refine G_region ?_
          refine sd E (o_as (E.ev rfl)) rfl rfl rfl fun a E => ?_
          refine GL_nil ?_
          refine tgn ?_
          refine G_ret ?_
          refine tgr ?_
          cases hm
          have T5 : Tr (Fz κ []) s s2 := (t1.no.trans t2.no)
          exact fin1 E rfl rfl ⟨(Tr.fin0 hκ T5), rfl⟩
        · have hm := cF ht hm
          refine G_skip ?_
          refine tgn ?_
          refine G_seq ?_
          refine G_region ?_
          refine sd E (o_as (E.ev rfl)) rfl rfl rfl fun a E => ?_
          refine GL_nil ?_
          refine tgn ?_
          refine G_ret ?_
          cases hm
          have T6 : Tr (Fz κ []) s s2 := (t1.no.trans t2.no)
          exact fin1 E rfl rfl ⟨(Tr.fin0 hκ T6), rfl⟩

-- gimmal/anchor.Find$1

noncomputable def m_74 (x0 : Anchor) (x1 : Anchor) : Option Int :=
  ob (m_75 x0.Number x1.Number) fun y1 => some y1
theorem ok_74 (s : St) {x0 : Anchor} {x1 : Anchor} {r0y : Int} (hm : m_74 x0 x1 = some r0y) :
    Ok Tryz.prog 53 ([.agg #[.int .i64 x0.Number, .int .i64 x0.Epoch, .int .i64 x0.Area, .int .i64 x0.Words], .agg #[.int .i64 x1.Number, .int .i64 x1.Epoch, .int .i64 x1.Area, .int .i64 x1.Words]] : List Value).toArray s fun v s' => Tr No s s' ∧ v = .int .i64 r0y := by
  unfold m_74 at hm
  obtain ⟨κ, hκ⟩ := s.fresh
  refine ok_of (n := 10) _ Tryz.func53 rfl _ rfl rfl fun a E => ?_
  refine G_seq ?_
  refine G_region ?_
  refine sh E (o_box (E.ev rfl)) rfl rfl rfl ?_
  rintro a _ s1 ⟨b1, rfl, o1, t1⟩ E
  refine sh E (o_box (E.ev rfl)) rfl rfl rfl ?_
  rintro a _ s2 ⟨b2, rfl, o2, t2⟩ E
  refine sd E (o_as (E.ev rfl)) rfl rfl rfl fun a E => ?_
  refine GL_nil ?_
  refine tgn ?_
  refine G_seq ?_
  refine G_region ?_
  refine sd E (o_fa Tryz.underlying49 rfl Tryz.sizeOf3 (E.ev rfl)) rfl rfl rfl fun a E => ?_
  have f1 := o1.tr t2
  refine sd E (o_ld Tryz.isAgg3 (E.ev rfl) ((f1.cell _).trans rfl)) rfl rfl rfl fun a E => ?_
  refine sd E (o_fa Tryz.underlying49 rfl Tryz.sizeOf3 (E.ev rfl)) rfl rfl rfl fun a E => ?_
  refine sd E (o_ld Tryz.isAgg3 (E.ev rfl) ((o2.cell _).trans rfl)) rfl rfl rfl fun a E => ?_
  obtain ⟨y1, hx1, hm⟩ := ob_some hm
  refine sh E (o_ok Tryz.call54 (E.evs rfl) (E.ev rfl) (ok_75 _ (x0 := x0.Number) (x1 := x1.Number) hx1)) rfl rfl rfl ?_
  rintro a _ s3 ⟨t3, rfl⟩ E
  refine sd E (o_as (E.ev rfl)) rfl rfl rfl fun a E => ?_
  refine GL_nil ?_
  refine tgn ?_
  refine G_ret ?_
  cases hm
  have T1 : Tr (Fz κ []) s s3 := ((t1.no.trans t2.no).trans t3.no)
  exact fin1 E rfl rfl ⟨(Tr.fin0 hκ T1), rfl⟩

-- slices.MaxFunc[[]gimmal/api.Anchor,gimmal/api.Anchor]
noncomputable def m_73_2k (x9 : Int) : (Int × Int × Int × Int) → Option (Lo (Int × Int × Int × Int × Int) (Int × Int × Int × Int × Int)) := fun (x20, x21, x22, x23) => some (.inl (IntKind.wrap .i64 (x9 + 1), x20, x21, x22, x23))
noncomputable def m_73_1b (x0 : List Anchor) : (Int × Int × Int × Int × Int) → Option (Lo (Int × Int × Int × Int × Int) (Int × Int × Int × Int × Int)) := fun (x9, x10, x11, x12, x13) => bif decide (x9 < (x0.length : Int)) then (ob (gt x0 x9) fun x14 => ob (m_74 x14 (⟨x10, x11, x12, x13⟩ : Anchor)) fun y1 => ob (bif decide (y1 > 0) then (ob (gt x0 x9) fun x19 => some (x19.Number, x19.Epoch, x19.Area, x19.Words)) else (some (x10, x11, x12, x13))) (m_73_2k x9)) else (some (.inr (x9, x10, x11, x12, x13)))
noncomputable def m_73_1k : (Int × Int × Int × Int × Int) → Option Anchor := fun (x24, x25, x26, x27, x28) => some (⟨x25, x26, x27, x28⟩ : Anchor)
noncomputable def m_73 (x0 : List Anchor) : Option Anchor :=
  bif decide ((x0.length : Int) < 1) then (none) else (ob (gt x0 0) fun x3 => ob (loopO (m_73_1b x0) (1, x3.Number, x3.Epoch, x3.Area, x3.Words)) (m_73_1k))
theorem ok_73 (s : St) {x0 : List Anchor} {w1 : Value} (h1 : Sl kAn s w1 x0) {r0y : Anchor} (hm : m_73 x0 = some r0y) :
    Ok Tryz.prog 52 ([w1, .func (.func 53) #[] #[]] : List Value).toArray s fun v s' => Tr No s s' ∧ v = .agg #[.int .i64 r0y.Number, .int .i64 r0y.Epoch, .int .i64 r0y.Area, .int .i64 r0y.Words] := by
  unfold m_73 at hm
  obtain ⟨κ, hκ⟩ := s.fresh
  refine ok_of (n := 33) _ Tryz.func52 rfl _ rfl rfl fun a E => ?_
  refine G_seq ?_
  refine G_region ?_
  refine sh E (o_al ((κ + 0), 1001) Tryz.zeroValue49) rfl rfl rfl ?_
  rintro a _ s1 ⟨b1, rfl, o1, t1⟩ E
  refine GL_nil ?_
  refine tgn ?_
  refine G_seq ?_
  refine G_seq ?_
  refine G_region ?_
  refine sd E (o_mv (E.ev rfl)) rfl rfl rfl fun a E => ?_
  have f1 := h1.tr t1
  refine sd E (o_lenS (xs := x0) Tryz.underlying94 (E.ev rfl) f1.isS) rfl rfl rfl fun a E => ?_
  refine sd E (o_bi (E.ev rfl) (E.ev rfl) rfl) rfl rfl rfl fun a E => ?_
  refine GL_nil ?_
  refine tgn ?_
  refine G_cond (E.ev rfl) (fun ht => ?_) (fun ht => ?_)
  · have hm := cT ht hm
    cases hm
  · have hm := cF ht hm
    refine G_skip ?_
    refine tgn ?_
    refine G_seq ?_
    refine G_region ?_
    refine sd E (o_mv (E.ev rfl)) rfl rfl rfl fun a E => ?_
    obtain ⟨x3, hx1, hm⟩ := ob_some hm
    obtain ⟨b2, p1, g1, h2⟩ := f1.gt hx1
    refine sd E (o_ixg Tryz.underlying94 Tryz.sizeOf49 g1 (E.ev rfl) (E.ev rfl)) rfl rfl rfl fun a E => ?_
    obtain ⟨e1, e2, e3, e4⟩ := h2.elAnchor
    refine sd E (o_ldn Tryz.isAgg49 Tryz.sizeOf49 (E.ev rfl) [.int .i64 x3.Number, .int .i64 x3.Epoch, .int .i64 x3.Area, .int .i64 x3.Words] rfl ⟨e1, e2, e3, e4, trivial⟩) rfl rfl rfl fun a E => ?_
    refine sh E (o_al ((κ + 0), 1002) Tryz.zeroValue49) rfl rfl rfl ?_
    rintro a _ s2 ⟨b3, rfl, o2, t2⟩ E
    refine shN E (o_st (o := 0) (cs' := #[.int .i64 x3.Number, .int .i64 x3.Epoch, .int .i64 x3.Area, .int .i64 x3.Words]) (v := .agg #[.int .i64 x3.Number, .int .i64 x3.Epoch, .int .i64 x3.Area, .int .i64 x3.Words]) Tryz.sizeOf49 o2 (E.ev rfl) (E.ev rfl) (Nat.le_of_ble_eq_true rfl) (one_cells rfl) rfl) rfl rfl ?_
    rintro _ s3 ⟨o3, t3⟩
    refine GL_nil ?_
    refine tgn ?_
    refine G_seq ?_
    refine G_seq ?_
    refine G_region ?_
    refine sd E (o_as (E.ev rfl)) rfl rfl rfl fun a E => ?_
    refine GL_nil ?_
    refine tgn ?_
    obtain ⟨r1, hl1, hm⟩ := ob_some hm
    refine G_mid1 (fun a' w' => ∃ x4 x5 x6 x7 x8 s', m_73_1k (x4, x5, x6, x7, x8) = some r0y ∧ w' = s'.w ∧ Tr (Fz κ []) s3 s' ∧ Own ((κ + 0), 1002) s' b3 #[.int .i64 x5, .int .i64 x6, .int .i64 x7, .int .i64 x8] 49 ∧ Own ((κ + 0), 1001) s' b1 #[.int .i64 0, .int .i64 0, .int .i64 0, .int .i64 0] 49 ∧ En [] 33 a' [(6, .int .i64 x4), (0, w1), (1, .func (.func 53) #[] #[]), (4, .pointer (some ⟨b1, 0, none⟩)), (5, .pointer (some ⟨b3, 0, none⟩))]) ?_ ?_
    · refine G_block ?_
      have f2 := (o1.trN t2).tr t3 (nt_snd rfl)
      refine G_lp hl1 (fun st a' w' => ∃ x4 x5 x6 x7 x8 s', st = (x4, x5, x6, x7, x8) ∧ w' = s'.w ∧ Tr (Fz κ []) s3 s' ∧ Own ((κ + 0), 1002) s' b3 #[.int .i64 x5, .int .i64 x6, .int .i64 x7, .int .i64 x8] 49 ∧ Own ((κ + 0), 1001) s' b1 #[.int .i64 0, .int .i64 0, .int .i64 0, .int .i64 0] 49 ∧ En [] 33 a' [(6, .int .i64 x4), (0, w1), (1, .func (.func 53) #[] #[]), (4, .pointer (some ⟨b1, 0, none⟩)), (5, .pointer (some ⟨b3, 0, none⟩))]) ⟨_, _, _, _, _, _, rfl, rfl, (Tr.refl _ _), o3, f2, (((((E.nil.ad E rfl rfl).ad E rfl rfl).ad E rfl rfl).ad E rfl rfl).ad E rfl rfl)⟩ ?_
      rintro _ a _ x ⟨x9, x10, x11, x12, x13, s4, rfl, rfl, t4, o4, o5, E⟩ hf1
      dsimp only [m_73_1b] at hf1
      refine G_seq ?_
      refine G_seq ?_
      refine G_region ?_
      refine sd E (o_mv (E.ev rfl)) rfl rfl rfl fun a E => ?_
      refine sd E (o_mv (E.ev rfl)) rfl rfl rfl fun a E => ?_
      have f3 := ((f1.tr t2).tr t3).tr t4
      refine sd E (o_lenS (xs := x0) Tryz.underlying94 (E.ev rfl) f3.isS) rfl rfl rfl fun a E => ?_
      refine sd E (o_bi (E.ev rfl) (E.ev rfl) rfl) rfl rfl rfl fun a E => ?_
      refine GL_nil ?_
      refine tgn ?_
      refine G_cond (E.ev rfl) (fun ht => ?_) (fun ht => ?_)
      · have hf1 := cT ht hf1
        refine G_skip ?_
        refine tgn ?_
        refine G_seq ?_
        refine G_block ?_
        refine G_seq ?_
        refine G_drw (κ + 1) (by rfl) [0, 1, 2, 3, 4, 5, 6, 7] (by kernel_rfl) ?_
        intro s5 t5
        refine dp E rfl (fun w => (o_mv (E.ev rfl))) rfl rfl rfl fun a E => ?_
        refine dp E rfl (fun w => (o_mv (E.ev rfl))) rfl rfl rfl fun a E => ?_
        refine dp E rfl (fun w => (o_mv (E.ev rfl))) rfl rfl rfl fun a E => ?_
        obtain ⟨x14, hx2, hf1⟩ := ob_some hf1
        have f4 := f3.tr t5
        obtain ⟨b4, p2, g2, h3⟩ := f4.gt hx2
        refine dp E rfl (fun w => (o_ixg Tryz.underlying94 Tryz.sizeOf49 g2 (E.ev rfl) (E.ev rfl))) rfl rfl rfl fun a E => ?_
        obtain ⟨e5, e6, e7, e8⟩ := h3.elAnchor
        refine dq E rfl (fun s' t => (o_ldn Tryz.isAgg49 Tryz.sizeOf49 (E.ev rfl) [.int .i64 x14.Number, .int .i64 x14.Epoch, .int .i64 x14.Area, .int .i64 x14.Words] rfl ⟨(h3.ckl t e5), (h3.ckl t e6), (h3.ckl t e7), (h3.ckl t e8), trivial⟩)) rfl rfl rfl (by kernel_rfl) fun a E => ?_
        have f5 := o4.trN t5
        refine dr E rfl (fun s' t => (o_ldc (cs := #[.int .i64 x10, .int .i64 x11, .int .i64 x12, .int .i64 x13]) Tryz.isAgg49 Tryz.sizeOf49 (E.ev rfl) (f5.trN t).cell)) rfl rfl rfl (by kernel_rfl) fun a E => ?_
        obtain ⟨y1, hx3, hf1⟩ := ob_some hf1
        refine dh E rfl (o_okv Tryz.call53 (E.ev rfl) (E.evs rfl) (ok_74 _ (x0 := x14) (x1 := (⟨x10, x11, x12, x13⟩ : Anchor)) hx3)) (fun _ _ h => h.1) rfl rfl rfl (by kernel_rfl) ?_
        rintro a _ s6 ⟨t6, rfl⟩ E
        refine dp E rfl (fun w => (o_bi (E.ev rfl) (E.ev rfl) rfl)) rfl rfl rfl fun a E => ?_
        refine gd_nil ?_
        refine tgn ?_
        obtain ⟨r2, hl2, hf1⟩ := ob_some hf1
        refine G_mid1 (fun a' w' => ∃ x15 x16 x17 x18 s', m_73_2k x9 (x15, x16, x17, x18) = some x ∧ w' = s'.w ∧ Tr (Fz κ []) s6 s' ∧ Own ((κ + 0), 1002) s' b3 #[.int .i64 x15, .int .i64 x16, .int .i64 x17, .int .i64 x18] 49 ∧ Own ((κ + 0), 1001) s' b1 #[.int .i64 0, .int .i64 0, .int .i64 0, .int .i64 0] 49 ∧ En [] 33 a' [(0, w1), (1, .func (.func 53) #[] #[]), (4, .pointer (some ⟨b1, 0, none⟩)), (5, .pointer (some ⟨b3, 0, none⟩)), (6, .int .i64 x9)]) ?_ ?_
        · refine G_cond (E.ev rfl) (fun ht => ?_) (fun ht => ?_)
          · have hl2 := cT ht hl2
            refine G_region ?_
            refine sd E (o_mv (E.ev rfl)) rfl rfl rfl fun a E => ?_
            refine sd E (o_mv (E.ev rfl)) rfl rfl rfl fun a E => ?_
            obtain ⟨x19, hx4, hl2⟩ := ob_some hl2
            have f6 := f4.tr t6
            obtain ⟨b5, p3, g3, h4⟩ := f6.gt hx4
            refine sd E (o_ixg Tryz.underlying94 Tryz.sizeOf49 g3 (E.ev rfl) (E.ev rfl)) rfl rfl rfl fun a E => ?_
            obtain ⟨e9, e10, e11, e12⟩ := h4.elAnchor
            refine sd E (o_ldn Tryz.isAgg49 Tryz.sizeOf49 (E.ev rfl) [.int .i64 x19.Number, .int .i64 x19.Epoch, .int .i64 x19.Area, .int .i64 x19.Words] rfl ⟨e9, e10, e11, e12, trivial⟩) rfl rfl rfl fun a E => ?_
            have f7 := f5.trN t6
            refine shN E (o_st (o := 0) (cs' := #[.int .i64 x19.Number, .int .i64 x19.Epoch, .int .i64 x19.Area, .int .i64 x19.Words]) (v := .agg #[.int .i64 x19.Number, .int .i64 x19.Epoch, .int .i64 x19.Area, .int .i64 x19.Words]) Tryz.sizeOf49 f7 (E.ev rfl) (E.ev rfl) (Nat.le_of_ble_eq_true rfl) (one_cells rfl) rfl) rfl rfl ?_
            rintro _ s7 ⟨o6, t7⟩
            refine GL_nil ?_
            refine ctn ?_
            cases hl2
            have f8 := ((o5.trN t5).trN t6).tr t7 (nt_snd rfl)
            have T1 : Tr (Fz κ []) s6 s7 := (Tr.ft Fz.f t7)
            exact ⟨_, _, _, _, _, hf1, rfl, T1, o6, f8, (((((E.nil.ad E rfl rfl).ad E rfl rfl).ad E rfl rfl).ad E rfl rfl).ad E rfl rfl)⟩
          · have hl2 := cF ht hl2
            refine G_skip ?_
            refine ctn ?_
            cases hl2
            have f9 := f5.trN t6
            have f10 := (o5.trN t5).trN t6
            exact ⟨_, _, _, _, _, hf1, rfl, (Tr.refl _ _), f9, f10, (((((E.nil.ad E rfl rfl).ad E rfl rfl).ad E rfl rfl).ad E rfl rfl).ad E rfl rfl)⟩
        · rintro a _ ⟨x20, x21, x22, x23, s8, hf1, rfl, t8, o7, o8, E⟩
          dsimp only [m_73_2k] at hf1
          refine ebn ?_
          refine tgn ?_
          refine G_region ?_
          refine sd E (o_mv (E.ev rfl)) rfl rfl rfl fun a E => ?_
          refine sd E (o_bi (E.ev rfl) (E.ev rfl) rfl) rfl rfl rfl fun a E => ?_
          refine sd E (o_as (E.ev rfl)) rfl rfl rfl fun a E => ?_
          refine GL_nil ?_
          obtain rfl := Option.some.inj hf1
          have T2 : Tr (Fz κ []) s3 s8 := (((t4.trans t5.no).trans t6.no).trans t8)
          exact lpn ⟨_, _, _, _, _, _, rfl, rfl, T2, o7, o8, (((((E.nil.ad E rfl rfl).ad E rfl rfl).ad E rfl rfl).ad E rfl rfl).ad E rfl rfl)⟩
      · have hf1 := cF ht hf1
        refine G_exit ?_
        refine tge ?_
        obtain rfl := Option.some.inj hf1
        refine lpe fun hr => ?_
        subst hr
        refine ebk ?_
        refine ctn ?_
        exact ⟨_, _, _, _, _, _, hm, rfl, t4, o4, o5, (((((E.nil.ad E rfl rfl).ad E rfl rfl).ad E rfl rfl).ad E rfl rfl).ad E rfl rfl)⟩
    · rintro a _ ⟨x24, x25, x26, x27, x28, s9, hm, rfl, t9, o9, o10, E⟩
      dsimp only [m_73_1k] at hm
      refine tgn ?_
      refine G_seq ?_
      refine G_region ?_
      refine sd E (o_ldc (cs := #[.int .i64 x25, .int .i64 x26, .int .i64 x27, .int .i64 x28]) Tryz.isAgg49 Tryz.sizeOf49 (E.ev rfl) o9.cell) rfl rfl rfl fun a E => ?_
      refine shN E (o_st (o := 0) (cs' := #[.int .i64 x25, .int .i64 x26, .int .i64 x27, .int .i64 x28]) (v := .agg #[.int .i64 x25, .int .i64 x26, .int .i64 x27, .int .i64 x28]) Tryz.sizeOf49 o10 (E.ev rfl) (E.ev rfl) (Nat.le_of_ble_eq_true rfl) (one_cells rfl) rfl) rfl rfl ?_
      rintro _ s10 ⟨o11, t10⟩
      refine GL_nil ?_
      refine tgn ?_
      refine G_ret ?_
      cases hm
      have T3 : Tr (Fz κ []) s s10 := ((((t1.no.trans t2.no).trans (Tr.ft Fz.f t3)).trans t9).trans (Tr.ft Fz.f t10))
      exact fin1 E rfl (rv_cell (cs := #[.int .i64 x25, .int .i64 x26, .int .i64 x27, .int .i64 x28]) rfl Tryz.isAgg49 Tryz.sizeOf49 o11.cell) ⟨(Tr.fin0 hκ T3), rfl⟩

-- gimmal/anchor.Find
noncomputable def m_52_2k (x9 : Int) (x11 : Int) (x12 : Int) (x13 : Int) (x14 : Int) (x15 : Int) : (List Anchor) → Option (Lo (Int × (List Anchor) × Int × Int × Int × Int × Int) (Sum (Int × (List Anchor) × Int × Int × Int × Int × Int) (Anchor × Int))) := fun x18 => some (.inl (x9, x18, IntKind.wrap .i64 (x11 + 1), x12, x13, x14, x15))
noncomputable def m_52_1b (X1 : Disk) : (Int × (List Anchor) × Int × Int × Int × Int × Int) → Option (Lo (Int × (List Anchor) × Int × Int × Int × Int × Int) (Sum (Int × (List Anchor) × Int × Int × Int × Int × Int) (Anchor × Int))) := fun (x9, x10, x11, x12, x13, x14, x15) => bif decide (x11 < 2) then (ob (m_14 X1 x11) fun (y1, y2) => bif y2 != 0 then (some (.inr (.inr ((⟨0, 0, 0, 0⟩ : Anchor), y2)))) else (ob (m_72 y1) fun (y3, y4) => ob (bif y4 then (some ((Int.tmod y3.Number 2) == x11)) else (some false)) fun t10 => ob (bif t10 then (ob (ap x10 [y3]) fun x17 => some x17) else (some x10)) (m_52_2k x9 x11 x12 x13 x14 x15))) else (some (.inr (.inl (x9, x10, x11, x12, x13, x14, x15))))
noncomputable def m_52_1k : Sum (Int × (List Anchor) × Int × Int × Int × Int × Int) (Anchor × Int) → Option (Anchor × Int)
  | .inl (x19, x20, x21, x22, x23, x24, x25) => bif (x20.length : Int) == 0 then (some ((⟨0, 0, 0, 0⟩ : Anchor), 5)) else (ob (m_73 x20) fun y5 => some (y5, 0))
  | .inr y => some y
noncomputable def m_52 (X1 : Disk) : Option (Anchor × Int) :=
  ob (loopO (m_52_1b X1) (0, [], 0, 0, 0, 0, 0)) (m_52_1k)
theorem ok_52 (s : St) {k1 b1 : Nat} {X1 : Disk} (ho1 : DiskAt k1 s b1 X1) {r0y : Anchor} {r1y : Int} (hm : m_52 X1 = some (r0y, r1y)) :
    Ok Tryz.prog 24 ([.pointer (some ⟨b1, 0, none⟩)] : List Value).toArray s fun v s' => Tr No s s' ∧ v = .tuple #[.agg #[.int .i64 r0y.Number, .int .i64 r0y.Epoch, .int .i64 r0y.Area, .int .i64 r0y.Words], .int .i64 r1y] := by
  unfold m_52 at hm
  obtain ⟨κ, hκ⟩ := s.fresh
  have lt1 : k1 < κ := hκ _ _ ho1.tag
  refine ok_of (n := 47) _ Tryz.func24 rfl _ rfl rfl fun a E => ?_
  refine G_seq ?_
  refine G_region ?_
  refine sh E (o_al ((κ + 0), 1001) Tryz.zeroValue49) rfl rfl rfl ?_
  rintro a _ s1 ⟨b2, rfl, o1, t1⟩ E
  refine sd E (o_as (E.ev rfl)) rfl rfl rfl fun a E => ?_
  refine GL_nil ?_
  refine tgn ?_
  refine G_seq ?_
  refine G_region ?_
  refine sd E (o_as (E.ev rfl)) rfl rfl rfl fun a E => ?_
  refine GL_nil ?_
  refine tgn ?_
  refine G_seq ?_
  refine G_seq ?_
  refine G_region ?_
  refine sd E (o_mv (E.ev rfl)) rfl rfl rfl fun a E => ?_
  refine GL_nil ?_
  refine tgn ?_
  obtain ⟨r1, hl1, hm⟩ := ob_some hm
  refine G_mid1 (fun a' w' => ∃ x2 x3 x4 x5 x6 x7 x8 s' w1, m_52_1k (.inl (x2, x3, x4, x5, x6, x7, x8)) = some (r0y, r1y) ∧ w' = s'.w ∧ Tr (Fz κ []) s1 s' ∧ Bd ((κ + 0), 1002) kAn 49 0 s' w1 x3 ∧ Own ((κ + 0), 1001) s' b2 #[.int .i64 x5, .int .i64 x6, .int .i64 x7, .int .i64 x8] 49 ∧ En [] 47 a' [(3, .int .i64 x2), (4, w1), (10, .int .i64 x4), (0, .pointer (some ⟨b1, 0, none⟩)), (2, .pointer (some ⟨b2, 0, none⟩))]) ?_ ?_
  · refine G_block ?_
    refine G_lp hl1 (fun st a' w' => ∃ x2 x3 x4 x5 x6 x7 x8 s' w1, st = (x2, x3, x4, x5, x6, x7, x8) ∧ w' = s'.w ∧ Tr (Fz κ []) s1 s' ∧ Bd ((κ + 0), 1002) kAn 49 0 s' w1 x3 ∧ Own ((κ + 0), 1001) s' b2 #[.int .i64 x5, .int .i64 x6, .int .i64 x7, .int .i64 x8] 49 ∧ En [] 47 a' [(3, .int .i64 x2), (4, w1), (10, .int .i64 x4), (0, .pointer (some ⟨b1, 0, none⟩)), (2, .pointer (some ⟨b2, 0, none⟩))]) ⟨_, _, _, _, _, _, _, _, _, rfl, rfl, (Tr.refl _ _), Bd.nil, o1, (((((E.nil.ad E rfl rfl).ad E rfl rfl).ad E rfl rfl).ad E rfl rfl).ad E rfl rfl)⟩ ?_
    rintro _ a _ x ⟨x9, x10, x11, x12, x13, x14, x15, s2, w2, rfl, rfl, t2, h1, o2, E⟩ hf1
    dsimp only [m_52_1b] at hf1
    refine G_seq ?_
    refine G_region ?_
    refine sd E (o_bi (E.ev rfl) (E.ev rfl) rfl) rfl rfl rfl fun a E => ?_
    refine GL_nil ?_
    refine tgn ?_
    refine G_seq ?_
    refine G_cond (E.ev rfl) (fun ht => ?_) (fun ht => ?_)
    · have hf1 := cT ht hf1
      refine G_skip ?_
      refine tgn ?_
      refine G_seq ?_
      refine G_block ?_
      refine G_seq ?_
      refine G_region ?_
      refine sd E (o_mv (E.ev rfl)) rfl rfl rfl fun a E => ?_
      refine sd E (o_as (E.ev rfl)) rfl rfl rfl fun a E => ?_
      refine GL_nil ?_
      refine tgn ?_
      refine G_seq ?_
      refine G_region ?_
      refine sd E (o_mv (E.ev rfl)) rfl rfl rfl fun a E => ?_
      refine sd E (o_mv (E.ev rfl)) rfl rfl rfl fun a E => ?_
      have f1 := (ho1.trN t1).tr t2 (fun i => (nZ0 lt1))
      obtain ⟨⟨y1, y2⟩, hx1, hf1⟩ := ob_some hf1
      refine sh E (o_ok Tryz.call50 (E.evs rfl) (E.ev rfl) (oq_14 _ (x1 := x11) f1 hx1)) rfl rfl rfl ?_
      rintro a _ s3 ⟨t3, rfl, len_y1⟩ E
      refine sd E (o_mv (E.ev rfl)) rfl rfl rfl fun a E => ?_
      refine sd E (o_ext (v := eA .u64 y1) (E.ev rfl) rfl) rfl rfl rfl fun a E => ?_
      refine sd E (o_ext (v := .int .i64 y2) (E.ev rfl) rfl) rfl rfl rfl fun a E => ?_
      refine sh E (o_ala ((κ + 0), 1003) .u64 8 Tryz.zeroValue40 (by kernel_rfl)) rfl rfl rfl ?_
      rintro a _ s4 ⟨b3, rfl, o3, t4⟩ E
      refine shN E (o_stA Tryz.sizeOf40 o3 (E.ev rfl) (E.ev rfl) (List.length_replicate ..) len_y1) rfl rfl ?_
      rintro _ s5 ⟨o4, t5⟩
      refine sd E (o_as (E.ev rfl)) rfl rfl rfl fun a E => ?_
      refine GL_nil ?_
      refine tgn ?_
      refine G_seq ?_
      refine G_seq ?_
      refine G_region ?_
      refine sd E (o_mv (E.ev rfl)) rfl rfl rfl fun a E => ?_
      refine sd E (o_bi (E.ev rfl) (E.ev rfl) rfl) rfl rfl rfl fun a E => ?_
      refine GL_nil ?_
      refine tgn ?_
      refine G_cond (E.ev rfl) (fun ht => ?_) (fun ht => ?_)
      · have hf1 := cT ht hf1
        refine G_seq ?_
        refine G_region ?_
        refine sd E (o_bd (cells := #[.int .i64 0, .int .i64 0, .int .i64 0, .int .i64 0]) (places := #[(0, 1), (1, 1), (2, 1), (3, 1)]) Tryz.zeroValue49 Tryz.underlying49 (fun w => by simp [Sem.run_bind, Result.andThen, Tryz.sizeOf3]) (qs := #[]) (by simp only [List.map_toArray, List.map_cons, List.map_nil]) (by kernel_rfl)) rfl rfl rfl fun a E => ?_
        refine sd E (o_mv (E.ev rfl)) rfl rfl rfl fun a E => ?_
        have f2 := ((o2.trN t3).trN t4).tr t5 (nt_snd rfl)
        refine shN E (o_st (o := 0) (cs' := #[.int .i64 0, .int .i64 0, .int .i64 0, .int .i64 0]) (v := .agg #[.int .i64 0, .int .i64 0, .int .i64 0, .int .i64 0]) Tryz.sizeOf49 f2 (E.ev rfl) (E.ev rfl) (Nat.le_of_ble_eq_true rfl) (one_cells rfl) rfl) rfl rfl ?_
        rintro _ s6 ⟨o5, t6⟩
        refine sd E (o_as (E.ev rfl)) rfl rfl rfl fun a E => ?_
        refine GL_nil ?_
        refine tgn ?_
        refine G_ret ?_
        refine tgr ?_
        refine ebr ?_
        refine tgr ?_
        obtain rfl := Option.some.inj hf1
        refine lpr fun hr => ?_
        subst hr
        dsimp only [m_52_1k] at hm
        refine ebr ?_
        refine ctr ?_
        refine tgr ?_
        cases hm
        have T1 : Tr (Fz κ []) s s6 := (((((t1.no.trans t2).trans t3.no).trans t4.no).trans (Tr.ft Fz.f t5)).trans (Tr.ft Fz.f t6))
        exact fin2 E rfl (rv_cell (cs := #[.int .i64 0, .int .i64 0, .int .i64 0, .int .i64 0]) rfl Tryz.isAgg49 Tryz.sizeOf49 o5.cell) rfl ⟨(Tr.fin0 hκ T1), rfl⟩
      · have hf1 := cF ht hf1
        refine G_skip ?_
        refine tgn ?_
        refine G_seq ?_
        refine G_region ?_
        refine sd E (o_ldA Tryz.isAgg40 Tryz.sizeOf40 (E.ev rfl) len_y1 o4.cell) rfl rfl rfl fun a E => ?_
        obtain ⟨⟨y3, y4⟩, hx2, hf1⟩ := ob_some hf1
        refine sh E (o_ok Tryz.call51 (E.evs rfl) (E.ev rfl) (ok_72 _ (x0 := y1) len_y1 hx2)) rfl rfl rfl ?_
        rintro a _ s7 ⟨t7, rfl⟩ E
        refine sd E (o_mv (E.ev rfl)) rfl rfl rfl fun a E => ?_
        refine sd E (o_ext (v := .agg #[.int .i64 y3.Number, .int .i64 y3.Epoch, .int .i64 y3.Area, .int .i64 y3.Words]) (E.ev rfl) rfl) rfl rfl rfl fun a E => ?_
        refine sd E (o_ext (v := .bool y4) (E.ev rfl) rfl) rfl rfl rfl fun a E => ?_
        refine sh E (o_al ((κ + 0), 1004) Tryz.zeroValue49) rfl rfl rfl ?_
        rintro a _ s8 ⟨b4, rfl, o6, t8⟩ E
        refine shN E (o_st (o := 0) (cs' := #[.int .i64 y3.Number, .int .i64 y3.Epoch, .int .i64 y3.Area, .int .i64 y3.Words]) (v := .agg #[.int .i64 y3.Number, .int .i64 y3.Epoch, .int .i64 y3.Area, .int .i64 y3.Words]) Tryz.sizeOf49 o6 (E.ev rfl) (E.ev rfl) (Nat.le_of_ble_eq_true rfl) (one_cells rfl) rfl) rfl rfl ?_
        rintro _ s9 ⟨o7, t9⟩
        refine sd E (o_as (E.ev rfl)) rfl rfl rfl fun a E => ?_
        refine GL_nil ?_
        refine tgn ?_
        refine G_seq ?_
        obtain ⟨t10, hc1, hf1⟩ := ob_some hf1
        refine G_regm (fun a' w' => ∃ s', w' = s'.w ∧ Tr No s9 s' ∧ En [] 47 a' [(35, .bool t10), (0, .pointer (some ⟨b1, 0, none⟩)), (2, .pointer (some ⟨b2, 0, none⟩)), (3, .int .i64 x9), (4, w2), (8, .pointer (some ⟨b4, 0, none⟩)), (10, .int .i64 x11)]) ?_ ?_
        · refine sd E (o_mv (E.ev rfl)) rfl rfl rfl fun a E => ?_
          refine sd E (o_mv (E.ev rfl)) rfl rfl rfl fun a E => ?_
          refine bcase (E.ev (x := .tmp 29) rfl) (fun ht => ?_) (fun ht => ?_)
          · have hc1 := cT ht hc1
            rw [ht] at E
            refine sd E (o_fa Tryz.underlying49 rfl Tryz.sizeOf3 (E.ev rfl)) rfl rfl rfl fun a E => ?_
            refine sd E (o_ld Tryz.isAgg3 (E.ev rfl) ((o7.cell _).trans rfl)) rfl rfl rfl fun a E => ?_
            refine sd E (o_rem (E.ev rfl) (E.ev rfl) rfl) rfl rfl rfl fun a E => ?_
            refine sd E (o_mv (E.ev rfl)) rfl rfl rfl fun a E => ?_
            refine sd E (o_bi (E.ev rfl) (E.ev rfl) rfl) rfl rfl rfl fun a E => ?_
            refine sd E (o_pickT (E.ev rfl) (E.ev rfl)) rfl rfl rfl fun a E => ?_
            obtain rfl := Option.some.inj hc1
            exact GL_nil ⟨_, rfl, (Tr.refl _ _), (((((((E.nil.ad E rfl rfl).ad E rfl rfl).ad E rfl rfl).ad E rfl rfl).ad E rfl rfl).ad E rfl rfl).ad E rfl rfl)⟩
          · have hc1 := cF ht hc1
            rw [ht] at E
            refine sk E rfl rfl rfl fun a E => ?_
            refine sk E rfl rfl rfl fun a E => ?_
            refine sk E rfl rfl rfl fun a E => ?_
            refine sk E rfl rfl rfl fun a E => ?_
            refine sk E rfl rfl rfl fun a E => ?_
            refine sd E (o_pickF (E.ev rfl) (E.ev rfl)) rfl rfl rfl fun a E => ?_
            obtain rfl := Option.some.inj hc1
            exact GL_nil ⟨_, rfl, (Tr.refl _ _), (((((((E.nil.ad E rfl rfl).ad E rfl rfl).ad E rfl rfl).ad E rfl rfl).ad E rfl rfl).ad E rfl rfl).ad E rfl rfl)⟩
        rintro a _ ⟨s10, rfl, t11, E⟩
        refine tgn ?_
        obtain ⟨r2, hl2, hf1⟩ := ob_some hf1
        refine G_mid1 (fun a' w' => ∃ x16 s' w3, m_52_2k x9 x11 x12 x13 x14 x15 x16 = some x ∧ w' = s'.w ∧ Tr (Fz κ []) s10 s' ∧ Bd ((κ + 0), 1002) kAn 49 0 s' w3 x16 ∧ Own ((κ + 0), 1001) s' b2 #[.int .i64 x12, .int .i64 x13, .int .i64 x14, .int .i64 x15] 49 ∧ En [] 47 a' [(4, w3), (0, .pointer (some ⟨b1, 0, none⟩)), (2, .pointer (some ⟨b2, 0, none⟩)), (3, .int .i64 x9), (10, .int .i64 x11)]) ?_ ?_
        · refine G_cond (E.ev rfl) (fun ht => ?_) (fun ht => ?_)
          · have hl2 := cT ht hl2
            refine G_region ?_
            refine sd E (o_mv (E.ev rfl)) rfl rfl rfl fun a E => ?_
            have f3 := o7.trN t11
            refine sd E (o_ldc (cs := #[.int .i64 y3.Number, .int .i64 y3.Epoch, .int .i64 y3.Area, .int .i64 y3.Words]) Tryz.isAgg49 Tryz.sizeOf49 (E.ev rfl) f3.cell) rfl rfl rfl fun a E => ?_
            refine sh E (o_bs Tryz.underlying94 Tryz.sizeOf49 Tryz.zeroValue49 (qs := #[(0, .agg #[.int .i64 y3.Number, .int .i64 y3.Epoch, .int .i64 y3.Area, .int .i64 y3.Words])]) (cells := #[.int .i64 y3.Number, .int .i64 y3.Epoch, .int .i64 y3.Area, .int .i64 y3.Words]) (by simp only [List.map_toArray, List.map_cons, List.map_nil, E.ev (x := .tmp 37) (v := .agg #[.int .i64 y3.Number, .int .i64 y3.Epoch, .int .i64 y3.Area, .int .i64 y3.Words]) rfl]) rfl rfl (by kernel_rfl)) rfl rfl rfl ?_
            rintro a _ s11 ⟨b5, rfl, h2, t12⟩ E
            have h3 := h2.sl (K := kAn) (xs := [y3]) ⟨_, _, rfl, rfl, rfl⟩ rfl
            obtain ⟨x17, hx3, hl2⟩ := ob_some hl2
            obtain ⟨hx3, hz1⟩ := ap_some hx3
            have f4 := (((((((h1.trN t3).trN t4).tr t5 (nt_snd rfl)).trN t7).trN t8).tr t9 (nt_snd rfl)).trN t11).trN t12
            refine sh E (o_app Tryz.underlying94 Tryz.type49 rfl rfl rfl rfl rfl rfl f4 h3.rd (E.ev rfl) (E.ev rfl) hx3 (Nat.zero_le _)) rfl rfl rfl ?_
            rintro a w4 s12 ⟨h4, t13⟩ E
            rw [hz1] at h4
            refine sd E (o_as (E.ev rfl)) rfl rfl rfl fun a E => ?_
            refine GL_nil ?_
            refine ctn ?_
            cases hl2
            have f5 := ((((((((o2.trN t3).trN t4).tr t5 (nt_snd rfl)).trN t7).trN t8).tr t9 (nt_snd rfl)).trN t11).trN t12).tr t13 (nt_snd rfl)
            have T2 : Tr (Fz κ []) s10 s12 := (t12.no.trans (Tr.ft Fz.f t13))
            exact ⟨_, _, _, hf1, rfl, T2, h4, f5, (((((E.nil.ad E rfl rfl).ad E rfl rfl).ad E rfl rfl).ad E rfl rfl).ad E rfl rfl)⟩
          · have hl2 := cF ht hl2
            refine G_skip ?_
            refine ctn ?_
            cases hl2
            have f6 := ((((((h1.trN t3).trN t4).tr t5 (nt_snd rfl)).trN t7).trN t8).tr t9 (nt_snd rfl)).trN t11
            have f7 := ((((((o2.trN t3).trN t4).tr t5 (nt_snd rfl)).trN t7).trN t8).tr t9 (nt_snd rfl)).trN t11
            exact ⟨_, _, _, hf1, rfl, (Tr.refl _ _), f6, f7, (((((E.nil.ad E rfl rfl).ad E rfl rfl).ad E rfl rfl).ad E rfl rfl).ad E rfl rfl)⟩
        · rintro a _ ⟨x18, s13, w5, hf1, rfl, t14, h5, o8, E⟩
          dsimp only [m_52_2k] at hf1
          refine ebn ?_
          refine tgn ?_
          refine G_region ?_
          refine sd E (o_bi (E.ev rfl) (E.ev rfl) rfl) rfl rfl rfl fun a E => ?_
          refine sd E (o_mv (E.ev rfl)) rfl rfl rfl fun a E => ?_
          refine GL_nil ?_
          obtain rfl := Option.some.inj hf1
          have T3 : Tr (Fz κ []) s1 s13 := ((((((((t2.trans t3.no).trans t4.no).trans (Tr.ft Fz.f t5)).trans t7.no).trans t8.no).trans (Tr.ft Fz.f t9)).trans t11.no).trans t14)
          exact lpn ⟨_, _, _, _, _, _, _, _, _, rfl, rfl, T3, h5, o8, (((((E.nil.ad E rfl rfl).ad E rfl rfl).ad E rfl rfl).ad E rfl rfl).ad E rfl rfl)⟩
    · have hf1 := cF ht hf1
      refine G_exit ?_
      refine tge ?_
      obtain rfl := Option.some.inj hf1
      refine lpe fun hr => ?_
      subst hr
      refine ebk ?_
      refine ctn ?_
      exact ⟨_, _, _, _, _, _, _, _, _, hm, rfl, t2, h1, o2, (((((E.nil.ad E rfl rfl).ad E rfl rfl).ad E rfl rfl).ad E rfl rfl).ad E rfl rfl)⟩
  · rintro a _ ⟨x19, x20, x21, x22, x23, x24, x25, s14, w6, hm, rfl, t15, h6, o9, E⟩
    dsimp only [m_52_1k] at hm
    refine tgn ?_
    refine G_seq ?_
    refine G_seq ?_
    refine G_region ?_
    refine sd E (o_mv (E.ev rfl)) rfl rfl rfl fun a E => ?_
    refine sd E (o_lenS (xs := x20) Tryz.underlying94 (E.ev rfl) h6.isS) rfl rfl rfl fun a E => ?_
    refine sd E (o_bi (E.ev rfl) (E.ev rfl) rfl) rfl rfl rfl fun a E => ?_
    refine GL_nil ?_
    refine tgn ?_
    refine G_cond (E.ev rfl) (fun ht => ?_) (fun ht => ?_)
    · have hm := cT ht hm
      refine G_seq ?_
      refine G_region ?_
      refine sd E (o_bd (cells := #[.int .i64 0, .int .i64 0, .int .i64 0, .int .i64 0]) (places := #[(0, 1), (1, 1), (2, 1), (3, 1)]) Tryz.zeroValue49 Tryz.underlying49 (fun w => by simp [Sem.run_bind, Result.andThen, Tryz.sizeOf3]) (qs := #[]) (by simp only [List.map_toArray, List.map_cons, List.map_nil]) (by kernel_rfl)) rfl rfl rfl fun a E => ?_
      refine shN E (o_st (o := 0) (cs' := #[.int .i64 0, .int .i64 0, .int .i64 0, .int .i64 0]) (v := .agg #[.int .i64 0, .int .i64 0, .int .i64 0, .int .i64 0]) Tryz.sizeOf49 o9 (E.ev rfl) (E.ev rfl) (Nat.le_of_ble_eq_true rfl) (one_cells rfl) rfl) rfl rfl ?_
      rintro _ s15 ⟨o10, t16⟩
      refine sd E (o_as (E.ev rfl)) rfl rfl rfl fun a E => ?_
      refine GL_nil ?_
      refine tgn ?_
      refine G_ret ?_
      refine tgr ?_
      cases hm
      have T4 : Tr (Fz κ []) s s15 := ((t1.no.trans t15).trans (Tr.ft Fz.f t16))
      exact fin2 E rfl (rv_cell (cs := #[.int .i64 0, .int .i64 0, .int .i64 0, .int .i64 0]) rfl Tryz.isAgg49 Tryz.sizeOf49 o10.cell) rfl ⟨(Tr.fin0 hκ T4), rfl⟩
    · have hm := cF ht hm
      refine G_skip ?_
      refine tgn ?_
      refine G_seq ?_
      refine G_region ?_
      refine sd E (o_mv (E.ev rfl)) rfl rfl rfl fun a E => ?_
      obtain ⟨s16, e1, h7, t17⟩ := h6.fz
      rw [e1]
      obtain ⟨y5, hx4, hm⟩ := ob_some hm
      refine sh E (o_ok Tryz.call52 (E.evs rfl) (E.ev rfl) (ok_73 _ (x0 := x20) h7 hx4)) rfl rfl rfl ?_
      rintro a _ s17 ⟨t18, rfl⟩ E
      have f8 := (o9.tr t17 (nt_snd rfl)).trN t18
      refine shN E (o_st (o := 0) (cs' := #[.int .i64 y5.Number, .int .i64 y5.Epoch, .int .i64 y5.Area, .int .i64 y5.Words]) (v := .agg #[.int .i64 y5.Number, .int .i64 y5.Epoch, .int .i64 y5.Area, .int .i64 y5.Words]) Tryz.sizeOf49 f8 (E.ev rfl) (E.ev rfl) (Nat.le_of_ble_eq_true rfl) (one_cells rfl) rfl) rfl rfl ?_
      rintro _ s18 ⟨o11, t19⟩
      refine sd E (o_as (E.ev rfl)) rfl rfl rfl fun a E => ?_
      refine GL_nil ?_
      refine tgn ?_
      refine G_ret ?_
      cases hm
      have T5 : Tr (Fz κ []) s s18 := ((((t1.no.trans t15).trans (Tr.ft Fz.f t17)).trans t18.no).trans (Tr.ft Fz.f t19))
      exact fin2 E rfl (rv_cell (cs := #[.int .i64 r0y.Number, .int .i64 r0y.Epoch, .int .i64 r0y.Area, .int .i64 r0y.Words]) rfl Tryz.isAgg49 Tryz.sizeOf49 o11.cell) rfl ⟨(Tr.fin0 hκ T5), rfl⟩

-- gimmal/anchor.Write

noncomputable def m_61 (X1 : Disk) (x1 : Anchor) : Option (Int × Disk) :=
  ob (m_79 x1) fun (y1, y2) => bif !y2 then (some (1, X1)) else (ob (mq_60 X1 (Int.tmod x1.Number 2) y1) fun (y3, X2) => some (y3, X2))
theorem ok_61 (s : St) {k1 b1 : Nat} {X1 : Disk} {x1 : Anchor} (ho1 : DiskAt k1 s b1 X1) {r0y : Int} {Y1 : Disk} (hm : m_61 X1 x1 = some (r0y, Y1)) :
    Ok Tryz.prog 37 ([.pointer (some ⟨b1, 0, none⟩), .agg #[.int .i64 x1.Number, .int .i64 x1.Epoch, .int .i64 x1.Area, .int .i64 x1.Words]] : List Value).toArray s fun v s' => Tr (Ws [k1]) s s' ∧ v = .int .i64 r0y ∧ DiskAt k1 s' b1 Y1 := by
  unfold m_61 at hm
  obtain ⟨κ, hκ⟩ := s.fresh
  have lt1 : k1 < κ := hκ _ _ ho1.tag
  refine ok_of (n := 20) _ Tryz.func37 rfl _ rfl rfl fun a E => ?_
  refine G_seq ?_
  refine G_region ?_
  refine sh E (o_box (E.ev rfl)) rfl rfl rfl ?_
  rintro a _ s1 ⟨b2, rfl, o1, t1⟩ E
  refine sd E (o_as (E.ev rfl)) rfl rfl rfl fun a E => ?_
  refine GL_nil ?_
  refine tgn ?_
  refine G_seq ?_
  refine G_region ?_
  refine sd E (o_ldc (cs := #[.int .i64 x1.Number, .int .i64 x1.Epoch, .int .i64 x1.Area, .int .i64 x1.Words]) Tryz.isAgg49 Tryz.sizeOf49 (E.ev rfl) o1.cell) rfl rfl rfl fun a E => ?_
  obtain ⟨⟨y1, y2⟩, hx1, hm⟩ := ob_some hm
  refine sh E (o_ok Tryz.call67 (E.evs rfl) (E.ev rfl) (ok_79 _ (x0 := x1) hx1)) rfl rfl rfl ?_
  rintro a _ s2 ⟨t2, rfl, len_y1⟩ E
  refine sd E (o_mv (E.ev rfl)) rfl rfl rfl fun a E => ?_
  refine sd E (o_ext (v := eA .u64 y1) (E.ev rfl) rfl) rfl rfl rfl fun a E => ?_
  refine sd E (o_ext (v := .bool y2) (E.ev rfl) rfl) rfl rfl rfl fun a E => ?_
  refine sh E (o_ala ((κ + 0), 1001) .u64 8 Tryz.zeroValue40 (by kernel_rfl)) rfl rfl rfl ?_
  rintro a _ s3 ⟨b3, rfl, o2, t3⟩ E
  refine shN E (o_stA Tryz.sizeOf40 o2 (E.ev rfl) (E.ev rfl) (List.length_replicate ..) len_y1) rfl rfl ?_
  rintro _ s4 ⟨o3, t4⟩
  refine sd E (o_as (E.ev rfl)) rfl rfl rfl fun a E => ?_
  refine GL_nil ?_
  refine tgn ?_
  refine G_seq ?_
  refine G_seq ?_
  refine G_region ?_
  refine sd E (o_mv (E.ev rfl)) rfl rfl rfl fun a E => ?_
  refine sd E (o_not (E.ev rfl)) rfl rfl rfl fun a E => ?_
  refine GL_nil ?_
  refine tgn ?_
  refine G_cond (E.ev rfl) (fun ht => ?_) (fun ht => ?_)
  · have hm := cT ht hm
    refine G_seq ?_
    refine G_region ?_
    refine sd E (o_as (E.ev rfl)) rfl rfl rfl fun a E => ?_
    refine GL_nil ?_
    refine tgn ?_
    refine G_ret ?_
    refine tgr ?_
    cases hm
    have f1 := (((ho1.trN t1).trN t2).trN t3).tr t4 (fun i => (nt_fst (rb lt1)))
    have T1 : Tr (Fz κ [k1]) s s4 := (((t1.no.trans t2.no).trans t3.no).trans (Tr.ft Fz.f t4))
    exact fin1 E rfl rfl ⟨(Tr.fin hκ T1), rfl, f1⟩
  · have hm := cF ht hm
    refine G_skip ?_
    refine tgn ?_
    refine G_seq ?_
    refine G_region ?_
    refine sd E (o_mv (E.ev rfl)) rfl rfl rfl fun a E => ?_
    refine sd E (o_fa Tryz.underlying49 rfl Tryz.sizeOf3 (E.ev rfl)) rfl rfl rfl fun a E => ?_
    have f2 := ((o1.tr t2).tr t3).tr t4
    refine sd E (o_ld Tryz.isAgg3 (E.ev rfl) ((f2.cell _).trans rfl)) rfl rfl rfl fun a E => ?_
    refine sd E (o_rem (E.ev rfl) (E.ev rfl) rfl) rfl rfl rfl fun a E => ?_
    refine sd E (o_ldA Tryz.isAgg40 Tryz.sizeOf40 (E.ev rfl) len_y1 o3.cell) rfl rfl rfl fun a E => ?_
    have f3 := (((ho1.trN t1).trN t2).trN t3).tr t4 (fun i => (nt_fst (rb lt1)))
    obtain ⟨⟨y3, X2⟩, hx2, hm⟩ := ob_some hm
    refine sh E (o_ok Tryz.call36 (E.evs rfl) (E.ev rfl) (oq_60 _ (x1 := Int.tmod x1.Number 2) (x2 := y1) f3 len_y1 hx2)) rfl rfl rfl ?_
    rintro a _ s5 ⟨t5, rfl, h1⟩ E
    refine sd E (o_as (E.ev rfl)) rfl rfl rfl fun a E => ?_
    refine GL_nil ?_
    refine tgn ?_
    refine G_ret ?_
    cases hm
    have T2 : Tr (Fz κ [k1]) s s5 := ((((t1.no.trans t2.no).trans t3.no).trans (Tr.ft Fz.f t4)).trans (Tr.fw1 Fz.w0 t5))
    exact fin1 E rfl rfl ⟨(Tr.fin hκ T2), rfl, h1⟩

end Go.Proofs.YtdkfdmalbbfbmaaGreat
