/- Models and walks, printed by a program of ours. -/
import Derived.Test.YtdkfdmalbbfbmaaMW620
/- Models and walks, printed by a program of ours. -/
namespace Go.Proofs.Ytdkfdmalbbfbmaa
open Go Go.Maps
set_option maxRecDepth 4000
set_option maxHeartbeats 1000000
-- gimmal/gimmallaw08.LogLasts
noncomputable def m_5_4k (x12 : Bool) (x14 : Int) (x19 : Int) (X3 : LogM) (X4 : Disk) : (List Frame) → Option (Lo (Int × Bool × (List Frame) × Int × Disk × LogM) (Sum (Int × Bool × (List Frame) × Int × Disk × LogM) Bool)) := fun x29 => some (.inl (x19, x12, x29, IntKind.wrap .i64 (x14 + 1), X4, X3))
noncomputable def m_5_3k (x12 : Bool) (x13 : List Frame) (x14 : Int) (x16 : LogM) (x19 : Int) (x20 : Disk) : (Int × (List Int)) → Option (Lo (Int × Bool × (List Frame) × Int × Disk × LogM) (Sum (Int × Bool × (List Frame) × Int × Disk × LogM) Bool)) := fun (x25, x26) => bif decide ((x26.length : Int) > 400) then (some (.inr (.inr true))) else (ob (mq_10 x16 x20 (⟨x25, x26⟩ : Frame)) fun (y5, X3, X4) => ob (bif y5 == 0 then (ob (ap x13 [(⟨x25, x26⟩ : Frame)]) fun x28 => some x28) else (some x13)) (m_5_4k x12 x14 x19 X3 X4))
noncomputable def m_5_2k (x1 : List Frame) (x2 : List Frame) (x12 : Bool) (x13 : List Frame) (x14 : Int) (x16 : LogM) : (Int × Disk) → Option (Lo (Int × Bool × (List Frame) × Int × Disk × LogM) (Sum (Int × Bool × (List Frame) × Int × Disk × LogM) Bool)) := fun (x19, x20) => ob (bif decide (x14 < (x1.length : Int)) then (ob (gt x1 x14) fun x23 => some (x23.Kind, x23.Words)) else (ob (gt x2 (IntKind.wrap .i64 (x14 - (x1.length : Int)))) fun x24 => some (x24.Kind, x24.Words))) (m_5_3k x12 x13 x14 x16 x19 x20)
noncomputable def m_5_7b (y9 : List Int) : ((List Int) × Int) → Option (Lo ((List Int) × Int) ((List Int) × Int)) := fun (x46, x47) => bif decide (x47 < 8) then (ob (gd (decide (0 ≤ x47) && decide (x47 < 8)) (some ())) fun x48 => ob (gt y9 x47) fun x49 => ob (ap x46 [x49]) fun x50 => some (.inl (x50, IntKind.wrap .i64 (x47 + 1)))) else (some (.inr (x46, x47)))
noncomputable def m_5_7k (x43 : Int) : ((List Int) × Int) → Option (Lo ((List Int) × Int) ((List Int) × Int)) := fun (x51, x52) => some (.inl (x51, IntKind.wrap .i64 (x43 + 1)))
noncomputable def m_5_6b (x0 : Int) (X7 : Disk) : ((List Int) × Int) → Option (Lo ((List Int) × Int) ((List Int) × Int)) := fun (x42, x43) => bif decide (x43 < (IntKind.wrap .i64 ((IntKind.wrap .i64 (Int.tmod x0 30)) + 1))) then (ob (m_14 X7 x43) fun (y9, y10) => ob (loopO (m_5_7b y9) (x42, 0)) (m_5_7k x43)) else (some (.inr (x42, x43)))
noncomputable def m_5_6k (x32 : List Frame) (x38 : Int) (y8 : List Frame) : ((List Int) × Int) → Option Bool := fun (x53, x54) => ob (m_15 1 x53) fun (y11, y12) => ob (m_11 y8 y11) fun y13 => bif !y13 then (some false) else (ob (bif decide ((y11.length : Int) > (x32.length : Int)) then (some true) else (ob (sl x32 0 (y11.length : Int)) fun x55 => ob (m_11 y11 x55) fun y14 => some (!y14))) fun t37 => bif t37 then (some true) else (some (decide ((y8.length : Int) ≥ x38))))
noncomputable def m_5_5k (x0 : Int) (x3 : List Bool) (x32 : List Frame) : (Int × Disk) → Option Bool := fun (x38, x39) => ob (mq_19 x39 x3) fun X6 => ob (m_9 X6 0 (IntKind.wrap .i64 ((IntKind.wrap .i64 (Int.tmod x0 30)) + 1)) 1) fun (y6, y7, X7) => bif y7 != 0 then (some false) else (ob (m_12 y6) fun y8 => ob (loopO (m_5_6b x0 X7) ([], 0)) (m_5_6k x32 x38 y8))
noncomputable def m_5_1b (x1 : List Frame) (x2 : List Frame) : (Int × Bool × (List Frame) × Int × Disk × LogM) → Option (Lo (Int × Bool × (List Frame) × Int × Disk × LogM) (Sum (Int × Bool × (List Frame) × Int × Disk × LogM) Bool)) := fun (x11, x12, x13, x14, x15, x16) => bif decide (x14 < (IntKind.wrap .i64 ((x1.length : Int) + (x2.length : Int)))) then (ob (bif x14 == (x1.length : Int) then (ob (mq_22 x16 x15) fun X2 => some ((x13.length : Int), X2)) else (some (x11, x15))) (m_5_2k x1 x2 x12 x13 x14 x16)) else (some (.inr (.inl (x11, x12, x13, x14, x15, x16))))
noncomputable def m_5_1k (x0 : Int) (x2 : List Frame) (x3 : List Bool) : Sum (Int × Bool × (List Frame) × Int × Disk × LogM) Bool → Option Bool
  | .inl (x30, x31, x32, x33, x34, x35) => ob (bif (x2.length : Int) == 0 then (ob (mq_22 x35 x34) fun X5 => some ((x32.length : Int), X5)) else (some (x30, x34))) (m_5_5k x0 x3 x32)
  | .inr y => some y
noncomputable def m_5 (x0 : Int) (x1 : List Frame) (x2 : List Frame) (x3 : List Bool) : Option Bool :=
  ob (m_7) fun y1 => bif !y1 then (some false) else (ob (bif decide ((x1.length : Int) > 30) then (some true) else (some (decide ((x2.length : Int) > 30)))) fun t2 => bif t2 then (some true) else (ob (m_8 (IntKind.wrap .i64 ((IntKind.wrap .i64 (Int.tmod x0 30)) + 1))) fun y2 => ob (m_9 y2 0 (IntKind.wrap .i64 ((IntKind.wrap .i64 (Int.tmod x0 30)) + 1)) 1) fun (y3, y4, X1) => bif y4 != 0 then (some false) else (ob (loopO (m_5_1b x1 x2) (0, false, [], 0, X1, y3)) (m_5_1k x0 x2 x3))))
theorem ok_5 (s : St) {x0 : Int} {x1 : List Frame} {w1 : Value} {x2 : List Frame} {w2 : Value} {x3 : List Bool} {w3 : Value} (h1 : Sl kFr s w1 x1) (h2 : Sl kFr s w2 x2) (h3 : Sl kBool s w3 x3) {r0y : Bool} (hm : m_5 x0 x1 x2 x3 = some r0y) :
    Ok Try.prog 5 ([.int .u8 x0, w1, w2, w3] : List Value).toArray s fun v s' => Tr No s s' ∧ v = .bool r0y := by
  unfold m_5 at hm
  obtain ⟨κ, hκ⟩ := s.fresh
  refine ok_of (n := 165) _ Try.func5 rfl _ rfl rfl fun a E => ?_
  refine G_seq ?_
  refine G_region ?_
  refine sd E (o_as (E.ev rfl)) rfl rfl rfl fun a E => ?_
  refine GL_nil ?_
  refine tgn ?_
  refine G_seq ?_
  refine G_seq ?_
  refine G_region ?_
  obtain ⟨y1, hx1, hm⟩ := ob_some hm
  refine sh E (o_ok Try.call7 (E.evs rfl) (E.ev rfl) (ok_7 _ hx1)) rfl rfl rfl ?_
  rintro a _ s1 ⟨t1, rfl⟩ E
  refine sd E (o_not (E.ev rfl)) rfl rfl rfl fun a E => ?_
  refine GL_nil ?_
  refine tgn ?_
  refine G_cond (E.ev rfl) (fun ht => ?_) (fun ht => ?_)
  · have hm := cT ht hm
    refine G_seq ?_
    refine G_region ?_
    refine sd E (o_as (E.ev rfl)) rfl rfl rfl fun a E => ?_
    refine GL_nil ?_
    refine tgn ?_
    refine G_ret ?_
    refine tgr ?_
    cases hm
    have T1 : Tr (Fz κ []) s s1 := t1.no
    exact fin1 E rfl rfl ⟨(Tr.fin0 hκ T1), rfl⟩
  · have hm := cF ht hm
    refine G_skip ?_
    refine tgn ?_
    refine G_seq ?_
    refine G_seq ?_
    obtain ⟨t2, hc1, hm⟩ := ob_some hm
    refine G_regm (fun a' w' => ∃ s', w' = s'.w ∧ Tr No s1 s' ∧ En [] 165 a' [(36, .bool t2), (0, .int .u8 x0), (1, w1), (2, w2), (3, w3), (8, .bool false)]) ?_ ?_
    · refine sd E (o_mv (E.ev rfl)) rfl rfl rfl fun a E => ?_
      have f1 := h1.tr t1
      refine sd E (o_lenS (xs := x1) Try.underlying22 (E.ev rfl) f1.isS) rfl rfl rfl fun a E => ?_
      refine sd E (o_bi (E.ev rfl) (E.ev rfl) rfl) rfl rfl rfl fun a E => ?_
      refine sd E (o_mv (E.ev rfl)) rfl rfl rfl fun a E => ?_
      refine bcase (E.ev (x := .tmp 32) rfl) (fun ht => ?_) (fun ht => ?_)
      · have hc1 := cT ht hc1
        rw [ht] at E
        refine sk E rfl rfl rfl fun a E => ?_
        refine sk E rfl rfl rfl fun a E => ?_
        refine sk E rfl rfl rfl fun a E => ?_
        refine sd E (o_pickT (E.ev rfl) (E.ev rfl)) rfl rfl rfl fun a E => ?_
        obtain rfl := Option.some.inj hc1
        exact GL_nil ⟨_, rfl, (Tr.refl _ _), ((((((E.nil.ad E rfl rfl).ad E rfl rfl).ad E rfl rfl).ad E rfl rfl).ad E rfl rfl).ad E rfl rfl)⟩
      · have hc1 := cF ht hc1
        rw [ht] at E
        refine sd E (o_mv (E.ev rfl)) rfl rfl rfl fun a E => ?_
        have f2 := h2.tr t1
        refine sd E (o_lenS (xs := x2) Try.underlying22 (E.ev rfl) f2.isS) rfl rfl rfl fun a E => ?_
        refine sd E (o_bi (E.ev rfl) (E.ev rfl) rfl) rfl rfl rfl fun a E => ?_
        refine sd E (o_pickF (E.ev rfl) (E.ev rfl)) rfl rfl rfl fun a E => ?_
        obtain rfl := Option.some.inj hc1
        exact GL_nil ⟨_, rfl, (Tr.refl _ _), ((((((E.nil.ad E rfl rfl).ad E rfl rfl).ad E rfl rfl).ad E rfl rfl).ad E rfl rfl).ad E rfl rfl)⟩
    rintro a _ ⟨s2, rfl, t3, E⟩
    refine tgn ?_
    refine G_cond (E.ev rfl) (fun ht => ?_) (fun ht => ?_)
    · have hm := cT ht hm
      refine G_seq ?_
      refine G_region ?_
      refine sd E (o_as (E.ev rfl)) rfl rfl rfl fun a E => ?_
      refine GL_nil ?_
      refine tgn ?_
      refine G_ret ?_
      refine tgr ?_
      cases hm
      have T2 : Tr (Fz κ []) s s2 := (t1.no.trans t3.no)
      exact fin1 E rfl rfl ⟨(Tr.fin0 hκ T2), rfl⟩
    · have hm := cF ht hm
      refine G_skip ?_
      refine tgn ?_
      refine G_seq ?_
      refine G_region ?_
      refine sd E (o_mv (E.ev rfl)) rfl rfl rfl fun a E => ?_
      refine sd E (o_rem (E.ev rfl) (E.ev rfl) rfl) rfl rfl rfl fun a E => ?_
      refine sd E (o_cv Try.underlying5 Try.underlying3 (E.ev rfl)) rfl rfl rfl fun a E => ?_
      refine sd E (o_bi (E.ev rfl) (E.ev rfl) rfl) rfl rfl rfl fun a E => ?_
      refine sd E (o_as (E.ev rfl)) rfl rfl rfl fun a E => ?_
      refine GL_nil ?_
      refine tgn ?_
      refine G_seq ?_
      refine G_region ?_
      refine sd E (o_mv (E.ev rfl)) rfl rfl rfl fun a E => ?_
      obtain ⟨y2, hx2, hm⟩ := ob_some hm
      refine sh E (o_ok Try.call8 (E.evs rfl) (E.ev rfl) (oq_8 _ (κ + 1) (x0 := IntKind.wrap .i64 ((IntKind.wrap .i64 (Int.tmod x0 30)) + 1)) hx2)) rfl rfl rfl ?_
      rintro a _ s3 ⟨t4, b1, rfl, h4⟩ E
      refine sd E (o_as (E.ev rfl)) rfl rfl rfl fun a E => ?_
      refine GL_nil ?_
      refine tgn ?_
      refine G_seq ?_
      refine G_region ?_
      refine sd E (o_mv (E.ev rfl)) rfl rfl rfl fun a E => ?_
      refine sd E (o_mv (E.ev rfl)) rfl rfl rfl fun a E => ?_
      obtain ⟨⟨y3, y4, X1⟩, hx3, hm⟩ := ob_some hm
      refine sh E (o_ok Try.call9 (E.evs rfl) (E.ev rfl) (ok_9 _ (κ + 2) (x1 := 0) (x2 := IntKind.wrap .i64 ((IntKind.wrap .i64 (Int.tmod x0 30)) + 1)) (x3 := 1) h4 hx3)) rfl rfl rfl ?_
      rintro a _ s4 ⟨t5, b2, rfl, h6, h5⟩ E
      refine sd E (o_mv (E.ev rfl)) rfl rfl rfl fun a E => ?_
      refine sd E (o_ext (v := .pointer (some ⟨b2, 0, none⟩)) (E.ev rfl) rfl) rfl rfl rfl fun a E => ?_
      refine sd E (o_ext (v := .int .i64 y4) (E.ev rfl) rfl) rfl rfl rfl fun a E => ?_
      refine sd E (o_as (E.ev rfl)) rfl rfl rfl fun a E => ?_
      refine sd E (o_as (E.ev rfl)) rfl rfl rfl fun a E => ?_
      refine GL_nil ?_
      refine tgn ?_
      refine G_seq ?_
      refine G_seq ?_
      refine G_region ?_
      refine sd E (o_mv (E.ev rfl)) rfl rfl rfl fun a E => ?_
      refine sd E (o_bi (E.ev rfl) (E.ev rfl) rfl) rfl rfl rfl fun a E => ?_
      refine GL_nil ?_
      refine tgn ?_
      refine G_cond (E.ev rfl) (fun ht => ?_) (fun ht => ?_)
      · have hm := cT ht hm
        refine G_seq ?_
        refine G_region ?_
        refine sd E (o_as (E.ev rfl)) rfl rfl rfl fun a E => ?_
        refine GL_nil ?_
        refine tgn ?_
        refine G_ret ?_
        refine tgr ?_
        cases hm
        have T3 : Tr (Fz κ []) s s4 := (((t1.no.trans t3.no).trans t4.no).trans (Tr.fw1 Fz.f t5))
        exact fin1 E rfl rfl ⟨(Tr.fin0 hκ T3), rfl⟩
      · have hm := cF ht hm
        refine G_skip ?_
        refine tgn ?_
        refine G_seq ?_
        refine G_region ?_
        refine sd E (o_as (E.ev rfl)) rfl rfl rfl fun a E => ?_
        refine GL_nil ?_
        refine tgn ?_
        refine G_seq ?_
        refine G_region ?_
        refine sd E (o_as (E.ev rfl)) rfl rfl rfl fun a E => ?_
        refine GL_nil ?_
        refine tgn ?_
        refine G_seq ?_
        refine G_seq ?_
        refine G_region ?_
        refine sd E (o_as (E.ev rfl)) rfl rfl rfl fun a E => ?_
        refine GL_nil ?_
        refine tgn ?_
        obtain ⟨r1, hl1, hm⟩ := ob_some hm
        refine G_mid1 (fun a' w' => ∃ x5 x6 x7 x8 x9 x10 s' w4, m_5_1k x0 x2 x3 (.inl (x5, x6, x7, x8, x9, x10)) = some r0y ∧ w' = s'.w ∧ Tr (Fz κ []) s4 s' ∧ Bd ((κ + 0), 1001) kFr 32 0 s' w4 x7 ∧ DiskAt (κ + 1) s' b1 x9 ∧ LogAt (κ + 2) b1 s' b2 x10 ∧ En [] 165 a' [(14, .int .i64 x5), (8, .bool x6), (13, w4), (15, .int .i64 x8), (1, w1), (2, w2), (3, w3), (9, .int .i64 (IntKind.wrap .i64 ((IntKind.wrap .i64 (Int.tmod x0 30)) + 1))), (10, .pointer (some ⟨b1, 0, none⟩)), (11, .pointer (some ⟨b2, 0, none⟩))]) ?_ ?_
        · refine G_block ?_
          refine G_lp hl1 (fun st a' w' => ∃ x5 x6 x7 x8 x9 x10 s' w4, st = (x5, x6, x7, x8, x9, x10) ∧ w' = s'.w ∧ Tr (Fz κ []) s4 s' ∧ Bd ((κ + 0), 1001) kFr 32 0 s' w4 x7 ∧ DiskAt (κ + 1) s' b1 x9 ∧ LogAt (κ + 2) b1 s' b2 x10 ∧ En [] 165 a' [(14, .int .i64 x5), (8, .bool x6), (13, w4), (15, .int .i64 x8), (1, w1), (2, w2), (3, w3), (9, .int .i64 (IntKind.wrap .i64 ((IntKind.wrap .i64 (Int.tmod x0 30)) + 1))), (10, .pointer (some ⟨b1, 0, none⟩)), (11, .pointer (some ⟨b2, 0, none⟩))]) ⟨_, _, _, _, _, _, _, _, rfl, rfl, (Tr.refl _ _), Bd.nil, h6, h5, ((((((((((E.nil.ad E rfl rfl).ad E rfl rfl).ad E rfl rfl).ad E rfl rfl).ad E rfl rfl).ad E rfl rfl).ad E rfl rfl).ad E rfl rfl).ad E rfl rfl).ad E rfl rfl)⟩ ?_
          rintro _ a _ x ⟨x11, x12, x13, x14, x15, x16, s5, w5, rfl, rfl, t6, h7, h8, h9, E⟩ hf1
          dsimp only [m_5_1b] at hf1
          refine G_seq ?_
          refine G_seq ?_
          refine G_region ?_
          refine sd E (o_mv (E.ev rfl)) rfl rfl rfl fun a E => ?_
          refine sd E (o_mv (E.ev rfl)) rfl rfl rfl fun a E => ?_
          have f3 := ((((h1.tr t1).tr t3).tr t4).tr t5).tr t6
          refine sd E (o_lenS (xs := x1) Try.underlying22 (E.ev rfl) f3.isS) rfl rfl rfl fun a E => ?_
          refine sd E (o_mv (E.ev rfl)) rfl rfl rfl fun a E => ?_
          have f4 := ((((h2.tr t1).tr t3).tr t4).tr t5).tr t6
          refine sd E (o_lenS (xs := x2) Try.underlying22 (E.ev rfl) f4.isS) rfl rfl rfl fun a E => ?_
          refine sd E (o_bi (E.ev rfl) (E.ev rfl) rfl) rfl rfl rfl fun a E => ?_
          refine sd E (o_bi (E.ev rfl) (E.ev rfl) rfl) rfl rfl rfl fun a E => ?_
          refine GL_nil ?_
          refine tgn ?_
          refine G_cond (E.ev rfl) (fun ht => ?_) (fun ht => ?_)
          · have hf1 := cT ht hf1
            refine G_skip ?_
            refine tgn ?_
            refine G_seq ?_
            refine G_block ?_
            refine G_seq ?_
            refine G_seq ?_
            refine G_region ?_
            refine sd E (o_mv (E.ev rfl)) rfl rfl rfl fun a E => ?_
            refine sd E (o_mv (E.ev rfl)) rfl rfl rfl fun a E => ?_
            refine sd E (o_lenS (xs := x1) Try.underlying22 (E.ev rfl) f3.isS) rfl rfl rfl fun a E => ?_
            refine sd E (o_bi (E.ev rfl) (E.ev rfl) rfl) rfl rfl rfl fun a E => ?_
            refine GL_nil ?_
            refine tgn ?_
            obtain ⟨r2, hl2, hf1⟩ := ob_some hf1
            refine G_mid1 (fun a' w' => ∃ x17 x18 s', m_5_2k x1 x2 x12 x13 x14 x16 (x17, x18) = some x ∧ w' = s'.w ∧ Tr (Fz κ []) s5 s' ∧ DiskAt (κ + 1) s' b1 x18 ∧ LogAt (κ + 2) b1 s' b2 x16 ∧ Bd ((κ + 0), 1001) kFr 32 0 s' w5 x13 ∧ En [] 165 a' [(14, .int .i64 x17), (1, w1), (2, w2), (3, w3), (8, .bool x12), (9, .int .i64 (IntKind.wrap .i64 ((IntKind.wrap .i64 (Int.tmod x0 30)) + 1))), (10, .pointer (some ⟨b1, 0, none⟩)), (11, .pointer (some ⟨b2, 0, none⟩)), (13, w5), (15, .int .i64 x14)]) ?_ ?_
            · refine G_cond (E.ev rfl) (fun ht => ?_) (fun ht => ?_)
              · have hl2 := cT ht hl2
                refine G_seq ?_
                refine G_region ?_
                refine sd E (o_mv (E.ev rfl)) rfl rfl rfl fun a E => ?_
                obtain ⟨X2, hx4, hl2⟩ := ob_some hl2
                refine sh E (o_ok Try.call22 (E.evs rfl) (E.ev rfl) (oq_22 _ h9 h8 (ra rfl) hx4)) rfl rfl rfl ?_
                rintro a _ s6 ⟨t7, h10⟩ E
                refine GL_nil ?_
                refine tgn ?_
                refine G_region ?_
                refine sd E (o_mv (E.ev rfl)) rfl rfl rfl fun a E => ?_
                have f5 := h7.tr t7 (nW1 (ra rfl))
                refine sd E (o_lenS (xs := x13) Try.underlying22 (E.ev rfl) f5.isS) rfl rfl rfl fun a E => ?_
                refine sd E (o_as (E.ev rfl)) rfl rfl rfl fun a E => ?_
                refine GL_nil ?_
                refine ctn ?_
                cases hl2
                have f6 := h9.tr t7 (fun i => (nW1 (ra rfl)))
                have T4 : Tr (Fz κ []) s5 s6 := (Tr.fw1 Fz.f t7)
                exact ⟨_, _, _, hf1, rfl, T4, h10, f6, f5, ((((((((((E.nil.ad E rfl rfl).ad E rfl rfl).ad E rfl rfl).ad E rfl rfl).ad E rfl rfl).ad E rfl rfl).ad E rfl rfl).ad E rfl rfl).ad E rfl rfl).ad E rfl rfl)⟩
              · have hl2 := cF ht hl2
                refine G_skip ?_
                refine ctn ?_
                cases hl2
                exact ⟨_, _, _, hf1, rfl, (Tr.refl _ _), h8, h9, h7, ((((((((((E.nil.ad E rfl rfl).ad E rfl rfl).ad E rfl rfl).ad E rfl rfl).ad E rfl rfl).ad E rfl rfl).ad E rfl rfl).ad E rfl rfl).ad E rfl rfl).ad E rfl rfl)⟩
            · rintro a _ ⟨x19, x20, s7, hf1, rfl, t8, h11, h12, h13, E⟩
              dsimp only [m_5_2k] at hf1
              refine tgn ?_
              refine G_seq ?_
              refine G_region ?_
              refine sd E (o_bd (cells := #[.int .i64 0, (.slice none 0 0)]) (places := #[(0, 1), (1, 1)]) Try.zeroValue32 Try.underlying32 (fun w => by simp [Sem.run_bind, Result.andThen, Try.sizeOf3, Try.sizeOf30]) (qs := #[]) (by simp only [List.map_toArray, List.map_cons, List.map_nil]) (by kernel_rfl)) rfl rfl rfl fun a E => ?_
              refine sh E (o_al ((κ + 0), 1002) Try.zeroValue32) rfl rfl rfl ?_
              rintro a _ s8 ⟨b3, rfl, o1, t9⟩ E
              refine shN E (o_st (o := 0) (cs' := #[.int .i64 0, (.slice none 0 0)]) (v := .agg #[.int .i64 0, (.slice none 0 0)]) Try.sizeOf32 o1 (E.ev rfl) (E.ev rfl) (Nat.le_of_ble_eq_true rfl) (one_cells rfl) rfl) rfl rfl ?_
              rintro _ s9 ⟨o2, t10⟩
              refine GL_nil ?_
              refine tgn ?_
              refine G_seq ?_
              refine G_seq ?_
              refine G_region ?_
              refine sd E (o_mv (E.ev rfl)) rfl rfl rfl fun a E => ?_
              refine sd E (o_mv (E.ev rfl)) rfl rfl rfl fun a E => ?_
              have f7 := ((f3.tr t8).tr t9).tr t10
              refine sd E (o_lenS (xs := x1) Try.underlying22 (E.ev rfl) f7.isS) rfl rfl rfl fun a E => ?_
              refine sd E (o_bi (E.ev rfl) (E.ev rfl) rfl) rfl rfl rfl fun a E => ?_
              refine GL_nil ?_
              refine tgn ?_
              obtain ⟨r3, hl3, hf1⟩ := ob_some hf1
              refine G_mid1 (fun a' w' => ∃ x21 x22 s' w6, m_5_3k x12 x13 x14 x16 x19 x20 (x21, x22) = some x ∧ w' = s'.w ∧ Tr (Fz κ []) s9 s' ∧ Sl kU s' w6 x22 ∧ Own ((κ + 0), 1002) s' b3 #[.int .i64 x21, w6] 32 ∧ DiskAt (κ + 1) s' b1 x20 ∧ LogAt (κ + 2) b1 s' b2 x16 ∧ Bd ((κ + 0), 1001) kFr 32 0 s' w5 x13 ∧ En [] 165 a' [(1, w1), (2, w2), (3, w3), (8, .bool x12), (9, .int .i64 (IntKind.wrap .i64 ((IntKind.wrap .i64 (Int.tmod x0 30)) + 1))), (10, .pointer (some ⟨b1, 0, none⟩)), (11, .pointer (some ⟨b2, 0, none⟩)), (13, w5), (14, .int .i64 x19), (15, .int .i64 x14), (16, .pointer (some ⟨b3, 0, none⟩))]) ?_ ?_
              · refine G_cond (E.ev rfl) (fun ht => ?_) (fun ht => ?_)
                · have hl3 := cT ht hl3
                  refine G_region ?_
                  refine sd E (o_mv (E.ev rfl)) rfl rfl rfl fun a E => ?_
                  refine sd E (o_mv (E.ev rfl)) rfl rfl rfl fun a E => ?_
                  obtain ⟨x23, hx5, hl3⟩ := ob_some hl3
                  obtain ⟨b4, p1, g1, h14⟩ := f7.gt hx5
                  refine sd E (o_ixg Try.underlying22 Try.sizeOf32 g1 (E.ev rfl) (E.ev rfl)) rfl rfl rfl fun a E => ?_
                  obtain ⟨w7, e1, e2, h15⟩ := h14.fr
                  refine sd E (o_ld2 Try.isAgg32 Try.sizeOf32 (E.ev rfl) e1 e2) rfl rfl rfl fun a E => ?_
                  obtain ⟨a1, c1, rfl⟩ := h15.isS
                  refine shN E (o_st (o := 0) (cs' := #[.int .i64 x23.Kind, (.slice a1 x23.Words.length c1)]) (v := .agg #[.int .i64 x23.Kind, (.slice a1 x23.Words.length c1)]) Try.sizeOf32 o2 (E.ev rfl) (E.ev rfl) (Nat.le_of_ble_eq_true rfl) (one_cells rfl) rfl) rfl rfl ?_
                  rintro _ s10 ⟨o3, t11⟩
                  refine GL_nil ?_
                  refine ctn ?_
                  cases hl3
                  have f8 := h15.tr t11
                  have f9 := ((h11.trN t9).tr t10 (fun i => (nt_fst (ra rfl)))).tr t11 (fun i => (nt_fst (ra rfl)))
                  have f10 := ((h12.trN t9).tr t10 (fun i => (nt_fst (ra rfl)))).tr t11 (fun i => (nt_fst (ra rfl)))
                  have f11 := ((h13.trN t9).tr t10 (nt_snd rfl)).tr t11 (nt_snd rfl)
                  have T5 : Tr (Fz κ []) s9 s10 := (Tr.ft Fz.f t11)
                  exact ⟨_, _, _, _, hf1, rfl, T5, f8, o3, f9, f10, f11, (((((((((((E.nil.ad E rfl rfl).ad E rfl rfl).ad E rfl rfl).ad E rfl rfl).ad E rfl rfl).ad E rfl rfl).ad E rfl rfl).ad E rfl rfl).ad E rfl rfl).ad E rfl rfl).ad E rfl rfl)⟩
                · have hl3 := cF ht hl3
                  refine G_region ?_
                  refine sd E (o_mv (E.ev rfl)) rfl rfl rfl fun a E => ?_
                  refine sd E (o_mv (E.ev rfl)) rfl rfl rfl fun a E => ?_
                  refine sd E (o_mv (E.ev rfl)) rfl rfl rfl fun a E => ?_
                  refine sd E (o_lenS (xs := x1) Try.underlying22 (E.ev rfl) f7.isS) rfl rfl rfl fun a E => ?_
                  refine sd E (o_bi (E.ev rfl) (E.ev rfl) rfl) rfl rfl rfl fun a E => ?_
                  obtain ⟨x24, hx6, hl3⟩ := ob_some hl3
                  have f12 := ((f4.tr t8).tr t9).tr t10
                  obtain ⟨b5, p2, g2, h16⟩ := f12.gt hx6
                  refine sd E (o_ixg Try.underlying22 Try.sizeOf32 g2 (E.ev rfl) (E.ev rfl)) rfl rfl rfl fun a E => ?_
                  obtain ⟨w8, e3, e4, h17⟩ := h16.fr
                  refine sd E (o_ld2 Try.isAgg32 Try.sizeOf32 (E.ev rfl) e3 e4) rfl rfl rfl fun a E => ?_
                  obtain ⟨a2, c2, rfl⟩ := h17.isS
                  refine shN E (o_st (o := 0) (cs' := #[.int .i64 x24.Kind, (.slice a2 x24.Words.length c2)]) (v := .agg #[.int .i64 x24.Kind, (.slice a2 x24.Words.length c2)]) Try.sizeOf32 o2 (E.ev rfl) (E.ev rfl) (Nat.le_of_ble_eq_true rfl) (one_cells rfl) rfl) rfl rfl ?_
                  rintro _ s11 ⟨o4, t12⟩
                  refine GL_nil ?_
                  refine ctn ?_
                  cases hl3
                  have f13 := h17.tr t12
                  have f14 := ((h11.trN t9).tr t10 (fun i => (nt_fst (ra rfl)))).tr t12 (fun i => (nt_fst (ra rfl)))
                  have f15 := ((h12.trN t9).tr t10 (fun i => (nt_fst (ra rfl)))).tr t12 (fun i => (nt_fst (ra rfl)))
                  have f16 := ((h13.trN t9).tr t10 (nt_snd rfl)).tr t12 (nt_snd rfl)
                  have T6 : Tr (Fz κ []) s9 s11 := (Tr.ft Fz.f t12)
                  exact ⟨_, _, _, _, hf1, rfl, T6, f13, o4, f14, f15, f16, (((((((((((E.nil.ad E rfl rfl).ad E rfl rfl).ad E rfl rfl).ad E rfl rfl).ad E rfl rfl).ad E rfl rfl).ad E rfl rfl).ad E rfl rfl).ad E rfl rfl).ad E rfl rfl).ad E rfl rfl)⟩
              · rintro a _ ⟨x25, x26, s12, w9, hf1, rfl, t13, h18, o5, h19, h20, h21, E⟩
                dsimp only [m_5_3k] at hf1
                refine tgn ?_
                refine G_seq ?_
                refine G_seq ?_
                refine G_region ?_
                refine sd E (o_fa Try.underlying32 rfl Try.sizeOf30 (E.ev rfl)) rfl rfl rfl fun a E => ?_
                refine sd E (o_ld Try.isAgg30 (E.ev rfl) ((o5.cell _).trans rfl)) rfl rfl rfl fun a E => ?_
                refine sd E (o_lenS (xs := x26) Try.underlying30 (E.ev rfl) h18.isS) rfl rfl rfl fun a E => ?_
                refine sd E (o_bi (E.ev rfl) (E.ev rfl) rfl) rfl rfl rfl fun a E => ?_
                refine GL_nil ?_
                refine tgn ?_
                refine G_cond (E.ev rfl) (fun ht => ?_) (fun ht => ?_)
                · have hf1 := cT ht hf1
                  refine G_seq ?_
                  refine G_region ?_
                  refine sd E (o_as (E.ev rfl)) rfl rfl rfl fun a E => ?_
                  refine GL_nil ?_
                  refine tgn ?_
                  refine G_ret ?_
                  refine tgr ?_
                  refine ebr ?_
                  refine tgr ?_
                  obtain rfl := Option.some.inj hf1
                  refine lpr fun hr => ?_
                  subst hr
                  dsimp only [m_5_1k] at hm
                  refine ebr ?_
                  refine ctr ?_
                  refine tgr ?_
                  cases hm
                  have T7 : Tr (Fz κ []) s s12 := ((((((((t1.no.trans t3.no).trans t4.no).trans (Tr.fw1 Fz.f t5)).trans t6).trans t8).trans t9.no).trans (Tr.ft Fz.f t10)).trans t13)
                  exact fin1 E rfl rfl ⟨(Tr.fin0 hκ T7), rfl⟩
                · have hf1 := cF ht hf1
                  refine G_skip ?_
                  refine tgn ?_
                  refine G_seq ?_
                  refine G_region ?_
                  refine sd E (o_mv (E.ev rfl)) rfl rfl rfl fun a E => ?_
                  obtain ⟨a3, c3, rfl⟩ := h18.isS
                  refine sd E (o_ldc (cs := #[.int .i64 x25, (.slice a3 x26.length c3)]) Try.isAgg32 Try.sizeOf32 (E.ev rfl) o5.cell) rfl rfl rfl fun a E => ?_
                  obtain ⟨⟨y5, X3, X4⟩, hx7, hf1⟩ := ob_some hf1
                  refine sh E (o_ok Try.call10 (E.evs rfl) (E.ev rfl) (oq_10 _ (x1 := (⟨x25, x26⟩ : Frame)) h20 h19 h18 (ra rfl) hx7)) rfl rfl rfl ?_
                  rintro a _ s13 ⟨t14, rfl, h22, h23⟩ E
                  refine sd E (o_bi (E.ev rfl) (E.ev rfl) rfl) rfl rfl rfl fun a E => ?_
                  refine GL_nil ?_
                  refine tgn ?_
                  obtain ⟨r4, hl4, hf1⟩ := ob_some hf1
                  refine G_mid1 (fun a' w' => ∃ x27 s' w10, m_5_4k x12 x14 x19 X3 X4 x27 = some x ∧ w' = s'.w ∧ Tr (Fz κ []) s13 s' ∧ Bd ((κ + 0), 1001) kFr 32 0 s' w10 x27 ∧ DiskAt (κ + 1) s' b1 X4 ∧ LogAt (κ + 2) b1 s' b2 X3 ∧ En [] 165 a' [(13, w10), (1, w1), (2, w2), (3, w3), (8, .bool x12), (9, .int .i64 (IntKind.wrap .i64 ((IntKind.wrap .i64 (Int.tmod x0 30)) + 1))), (10, .pointer (some ⟨b1, 0, none⟩)), (11, .pointer (some ⟨b2, 0, none⟩)), (14, .int .i64 x19), (15, .int .i64 x14)]) ?_ ?_
                  · refine G_cond (E.ev rfl) (fun ht => ?_) (fun ht => ?_)
                    · have hl4 := cT ht hl4
                      refine G_region ?_
                      refine sd E (o_mv (E.ev rfl)) rfl rfl rfl fun a E => ?_
                      have f17 := o5.tr t14 (nW2 (ra rfl) (ra rfl))
                      refine sd E (o_ldc (cs := #[.int .i64 x25, (.slice a3 x26.length c3)]) Try.isAgg32 Try.sizeOf32 (E.ev rfl) f17.cell) rfl rfl rfl fun a E => ?_
                      refine sh E (o_bs Try.underlying22 Try.sizeOf32 Try.zeroValue32 (qs := #[(0, .agg #[.int .i64 x25, (.slice a3 x26.length c3)])]) (cells := #[.int .i64 x25, (.slice a3 x26.length c3)]) (by simp only [List.map_toArray, List.map_cons, List.map_nil, E.ev (x := .tmp 93) (v := .agg #[.int .i64 x25, (.slice a3 x26.length c3)]) rfl]) rfl rfl (by kernel_rfl)) rfl rfl rfl ?_
                      rintro a _ s14 ⟨b6, rfl, h24, t15⟩ E
                      have f18 := (h18.tr t14).tr t15
                      have h25 := h24.sl (K := kFr) (xs := [(⟨x25, x26⟩ : Frame)]) ⟨_, _, rfl, ⟨_, rfl, f18⟩, rfl⟩ rfl
                      obtain ⟨x28, hx8, hl4⟩ := ob_some hl4
                      obtain ⟨hx8, hz1⟩ := ap_some hx8
                      have f19 := (h21.tr t14 (nW2 (ra rfl) (ra rfl))).trN t15
                      refine sh E (o_app Try.underlying22 Try.type32 rfl rfl rfl rfl rfl rfl f19 h25.rd (E.ev rfl) (E.ev rfl) hx8 (Nat.zero_le _)) rfl rfl rfl ?_
                      rintro a w11 s15 ⟨h26, t16⟩ E
                      rw [hz1] at h26
                      refine sd E (o_as (E.ev rfl)) rfl rfl rfl fun a E => ?_
                      refine GL_nil ?_
                      refine ctn ?_
                      cases hl4
                      have f20 := (h23.trN t15).tr t16 (fun i => (nt_fst (ra rfl)))
                      have f21 := (h22.trN t15).tr t16 (fun i => (nt_fst (ra rfl)))
                      have T8 : Tr (Fz κ []) s13 s15 := (t15.no.trans (Tr.ft Fz.f t16))
                      exact ⟨_, _, _, hf1, rfl, T8, h26, f20, f21, ((((((((((E.nil.ad E rfl rfl).ad E rfl rfl).ad E rfl rfl).ad E rfl rfl).ad E rfl rfl).ad E rfl rfl).ad E rfl rfl).ad E rfl rfl).ad E rfl rfl).ad E rfl rfl)⟩
                    · have hl4 := cF ht hl4
                      refine G_skip ?_
                      refine ctn ?_
                      cases hl4
                      have f22 := h21.tr t14 (nW2 (ra rfl) (ra rfl))
                      exact ⟨_, _, _, hf1, rfl, (Tr.refl _ _), f22, h23, h22, ((((((((((E.nil.ad E rfl rfl).ad E rfl rfl).ad E rfl rfl).ad E rfl rfl).ad E rfl rfl).ad E rfl rfl).ad E rfl rfl).ad E rfl rfl).ad E rfl rfl).ad E rfl rfl)⟩
                  · rintro a _ ⟨x29, s16, w12, hf1, rfl, t17, h27, h28, h29, E⟩
                    dsimp only [m_5_4k] at hf1
                    refine ebn ?_
                    refine tgn ?_
                    refine G_region ?_
                    refine sd E (o_mv (E.ev rfl)) rfl rfl rfl fun a E => ?_
                    refine sd E (o_bi (E.ev rfl) (E.ev rfl) rfl) rfl rfl rfl fun a E => ?_
                    refine sd E (o_as (E.ev rfl)) rfl rfl rfl fun a E => ?_
                    refine GL_nil ?_
                    obtain rfl := Option.some.inj hf1
                    have T9 : Tr (Fz κ []) s4 s16 := ((((((t6.trans t8).trans t9.no).trans (Tr.ft Fz.f t10)).trans t13).trans (Tr.fw2 Fz.f Fz.f t14)).trans t17)
                    exact lpn ⟨_, _, _, _, _, _, _, _, rfl, rfl, T9, h27, h28, h29, ((((((((((E.nil.ad E rfl rfl).ad E rfl rfl).ad E rfl rfl).ad E rfl rfl).ad E rfl rfl).ad E rfl rfl).ad E rfl rfl).ad E rfl rfl).ad E rfl rfl).ad E rfl rfl)⟩
          · have hf1 := cF ht hf1
            refine G_exit ?_
            refine tge ?_
            obtain rfl := Option.some.inj hf1
            refine lpe fun hr => ?_
            subst hr
            refine ebk ?_
            refine ctn ?_
            exact ⟨_, _, _, _, _, _, _, _, hm, rfl, t6, h7, h8, h9, ((((((((((E.nil.ad E rfl rfl).ad E rfl rfl).ad E rfl rfl).ad E rfl rfl).ad E rfl rfl).ad E rfl rfl).ad E rfl rfl).ad E rfl rfl).ad E rfl rfl).ad E rfl rfl)⟩
        · rintro a _ ⟨x30, x31, x32, x33, x34, x35, s17, w13, hm, rfl, t18, h30, h31, h32, E⟩
          dsimp only [m_5_1k] at hm
          refine tgn ?_
          refine G_seq ?_
          refine G_seq ?_
          refine G_region ?_
          refine sd E (o_mv (E.ev rfl)) rfl rfl rfl fun a E => ?_
          have f23 := ((((h2.tr t1).tr t3).tr t4).tr t5).tr t18
          refine sd E (o_lenS (xs := x2) Try.underlying22 (E.ev rfl) f23.isS) rfl rfl rfl fun a E => ?_
          refine sd E (o_bi (E.ev rfl) (E.ev rfl) rfl) rfl rfl rfl fun a E => ?_
          refine GL_nil ?_
          refine tgn ?_
          obtain ⟨r5, hl5, hm⟩ := ob_some hm
          refine G_mid1 (fun a' w' => ∃ x36 x37 s', m_5_5k x0 x3 x32 (x36, x37) = some r0y ∧ w' = s'.w ∧ Tr (Fz κ []) s17 s' ∧ DiskAt (κ + 1) s' b1 x37 ∧ Bd ((κ + 0), 1001) kFr 32 0 s' w13 x32 ∧ En [] 165 a' [(14, .int .i64 x36), (3, w3), (8, .bool x31), (9, .int .i64 (IntKind.wrap .i64 ((IntKind.wrap .i64 (Int.tmod x0 30)) + 1))), (10, .pointer (some ⟨b1, 0, none⟩)), (13, w13)]) ?_ ?_
          · refine G_cond (E.ev rfl) (fun ht => ?_) (fun ht => ?_)
            · have hl5 := cT ht hl5
              refine G_seq ?_
              refine G_region ?_
              refine sd E (o_mv (E.ev rfl)) rfl rfl rfl fun a E => ?_
              obtain ⟨X5, hx9, hl5⟩ := ob_some hl5
              refine sh E (o_ok Try.call22 (E.evs rfl) (E.ev rfl) (oq_22 _ h32 h31 (ra rfl) hx9)) rfl rfl rfl ?_
              rintro a _ s18 ⟨t19, h33⟩ E
              refine GL_nil ?_
              refine tgn ?_
              refine G_region ?_
              refine sd E (o_mv (E.ev rfl)) rfl rfl rfl fun a E => ?_
              have f24 := h30.tr t19 (nW1 (ra rfl))
              refine sd E (o_lenS (xs := x32) Try.underlying22 (E.ev rfl) f24.isS) rfl rfl rfl fun a E => ?_
              refine sd E (o_as (E.ev rfl)) rfl rfl rfl fun a E => ?_
              refine GL_nil ?_
              refine ctn ?_
              cases hl5
              have T10 : Tr (Fz κ []) s17 s18 := (Tr.fw1 Fz.f t19)
              exact ⟨_, _, _, hm, rfl, T10, h33, f24, ((((((E.nil.ad E rfl rfl).ad E rfl rfl).ad E rfl rfl).ad E rfl rfl).ad E rfl rfl).ad E rfl rfl)⟩
            · have hl5 := cF ht hl5
              refine G_skip ?_
              refine ctn ?_
              cases hl5
              exact ⟨_, _, _, hm, rfl, (Tr.refl _ _), h31, h30, ((((((E.nil.ad E rfl rfl).ad E rfl rfl).ad E rfl rfl).ad E rfl rfl).ad E rfl rfl).ad E rfl rfl)⟩
          · rintro a _ ⟨x38, x39, s19, hm, rfl, t20, h34, h35, E⟩
            dsimp only [m_5_5k] at hm
            refine tgn ?_
            refine G_seq ?_
            refine G_region ?_
            refine sd E (o_mv (E.ev rfl)) rfl rfl rfl fun a E => ?_
            refine sd E (o_mv (E.ev rfl)) rfl rfl rfl fun a E => ?_
            have f25 := (((((h3.tr t1).tr t3).tr t4).tr t5).tr t18).tr t20
            refine sh E (o_ok Try.call20 (E.evs rfl) (E.ev rfl) (ok_20 _ ((κ + 3), 0) (x0 := x3) f25)) rfl rfl rfl ?_
            rintro a _ s20 ⟨t21, b7, b8, w14, rfl, o6, o7, h36⟩ E
            obtain ⟨X6, hx10, hm⟩ := ob_some hm
            have f26 := h34.trN t21
            refine sh E (o_ok Try.call19 (E.evs rfl) (E.ev rfl) (oq_19 _ f26 o6 o7 h36 (ra rfl) hx10)) rfl rfl rfl ?_
            rintro a _ s21 ⟨t22, h37⟩ E
            refine GL_nil ?_
            refine tgn ?_
            refine G_seq ?_
            refine G_region ?_
            refine sd E (o_mv (E.ev rfl)) rfl rfl rfl fun a E => ?_
            refine sd E (o_mv (E.ev rfl)) rfl rfl rfl fun a E => ?_
            obtain ⟨⟨y6, y7, X7⟩, hx11, hm⟩ := ob_some hm
            refine sh E (o_ok Try.call9 (E.evs rfl) (E.ev rfl) (ok_9 _ (κ + 4) (x1 := 0) (x2 := IntKind.wrap .i64 ((IntKind.wrap .i64 (Int.tmod x0 30)) + 1)) (x3 := 1) h37 hx11)) rfl rfl rfl ?_
            rintro a _ s22 ⟨t23, b9, rfl, h39, h38⟩ E
            refine sd E (o_mv (E.ev rfl)) rfl rfl rfl fun a E => ?_
            refine sd E (o_ext (v := .pointer (some ⟨b9, 0, none⟩)) (E.ev rfl) rfl) rfl rfl rfl fun a E => ?_
            refine sd E (o_ext (v := .int .i64 y7) (E.ev rfl) rfl) rfl rfl rfl fun a E => ?_
            refine sd E (o_as (E.ev rfl)) rfl rfl rfl fun a E => ?_
            refine sd E (o_as (E.ev rfl)) rfl rfl rfl fun a E => ?_
            refine GL_nil ?_
            refine tgn ?_
            refine G_seq ?_
            refine G_seq ?_
            refine G_region ?_
            refine sd E (o_mv (E.ev rfl)) rfl rfl rfl fun a E => ?_
            refine sd E (o_bi (E.ev rfl) (E.ev rfl) rfl) rfl rfl rfl fun a E => ?_
            refine GL_nil ?_
            refine tgn ?_
            refine G_cond (E.ev rfl) (fun ht => ?_) (fun ht => ?_)
            · have hm := cT ht hm
              refine G_seq ?_
              refine G_region ?_
              refine sd E (o_as (E.ev rfl)) rfl rfl rfl fun a E => ?_
              refine GL_nil ?_
              refine tgn ?_
              refine G_ret ?_
              refine tgr ?_
              cases hm
              have T11 : Tr (Fz κ []) s s22 := ((((((((t1.no.trans t3.no).trans t4.no).trans (Tr.fw1 Fz.f t5)).trans t18).trans t20).trans t21.no).trans (Tr.fw2 Fz.f Fz.f t22)).trans (Tr.fw1 Fz.f t23))
              exact fin1 E rfl rfl ⟨(Tr.fin0 hκ T11), rfl⟩
            · have hm := cF ht hm
              refine G_skip ?_
              refine tgn ?_
              refine G_seq ?_
              refine G_region ?_
              refine sd E (o_mv (E.ev rfl)) rfl rfl rfl fun a E => ?_
              obtain ⟨y8, hx12, hm⟩ := ob_some hm
              refine sh E (o_ok Try.call12 (E.evs rfl) (E.ev rfl) (bd_frozen id fun tr => ok_12 _ tr h38 hx12)) rfl rfl rfl ?_
              rintro a w15 s23 ⟨t24, _, rfl, h40⟩ E
              refine sd E (o_as (E.ev rfl)) rfl rfl rfl fun a E => ?_
              refine GL_nil ?_
              refine tgn ?_
              refine G_seq ?_
              refine G_region ?_
              refine sd E (o_as (E.ev rfl)) rfl rfl rfl fun a E => ?_
              refine GL_nil ?_
              refine tgn ?_
              refine G_seq ?_
              refine G_seq ?_
              refine G_region ?_
              refine sd E (o_as (E.ev rfl)) rfl rfl rfl fun a E => ?_
              refine GL_nil ?_
              refine tgn ?_
              obtain ⟨r6, hl6, hm⟩ := ob_some hm
              refine G_mid1 (fun a' w' => ∃ x40 x41 s' w16, m_5_6k x32 x38 y8 (x40, x41) = some r0y ∧ w' = s'.w ∧ Tr (Fz κ []) s23 s' ∧ Bd ((κ + 0), 1003) kU 37 0 s' w16 x40 ∧ DiskAt (κ + 1) s' b1 X7 ∧ Bd ((κ + 0), 1001) kFr 32 0 s' w13 x32 ∧ En [] 165 a' [(20, w16), (21, .int .i64 x41), (8, .bool x31), (9, .int .i64 (IntKind.wrap .i64 ((IntKind.wrap .i64 (Int.tmod x0 30)) + 1))), (10, .pointer (some ⟨b1, 0, none⟩)), (13, w13), (14, .int .i64 x38), (19, w15)]) ?_ ?_
              · refine G_block ?_
                have f27 := h39.trN t24
                have f28 := (((h35.trN t21).tr t22 (nW2 (ra rfl) (ra rfl))).tr t23 (nW1 (ra rfl))).trN t24
                refine G_lp hl6 (fun st a' w' => ∃ x40 x41 s' w16, st = (x40, x41) ∧ w' = s'.w ∧ Tr (Fz κ []) s23 s' ∧ Bd ((κ + 0), 1003) kU 37 0 s' w16 x40 ∧ DiskAt (κ + 1) s' b1 X7 ∧ Bd ((κ + 0), 1001) kFr 32 0 s' w13 x32 ∧ En [] 165 a' [(20, w16), (21, .int .i64 x41), (8, .bool x31), (9, .int .i64 (IntKind.wrap .i64 ((IntKind.wrap .i64 (Int.tmod x0 30)) + 1))), (10, .pointer (some ⟨b1, 0, none⟩)), (13, w13), (14, .int .i64 x38), (19, w15)]) ⟨_, _, _, _, rfl, rfl, (Tr.refl _ _), Bd.nil, f27, f28, ((((((((E.nil.ad E rfl rfl).ad E rfl rfl).ad E rfl rfl).ad E rfl rfl).ad E rfl rfl).ad E rfl rfl).ad E rfl rfl).ad E rfl rfl)⟩ ?_
                rintro _ a _ x ⟨x42, x43, s24, w17, rfl, rfl, t25, h41, h42, h43, E⟩ hf6
                dsimp only [m_5_6b] at hf6
                refine G_seq ?_
                refine G_seq ?_
                refine G_region ?_
                refine sd E (o_mv (E.ev rfl)) rfl rfl rfl fun a E => ?_
                refine sd E (o_mv (E.ev rfl)) rfl rfl rfl fun a E => ?_
                refine sd E (o_bi (E.ev rfl) (E.ev rfl) rfl) rfl rfl rfl fun a E => ?_
                refine GL_nil ?_
                refine tgn ?_
                refine G_cond (E.ev rfl) (fun ht => ?_) (fun ht => ?_)
                · have hf6 := cT ht hf6
                  refine G_skip ?_
                  refine tgn ?_
                  refine G_seq ?_
                  refine G_block ?_
                  refine G_seq ?_
                  refine G_region ?_
                  refine sd E (o_mv (E.ev rfl)) rfl rfl rfl fun a E => ?_
                  refine sd E (o_mv (E.ev rfl)) rfl rfl rfl fun a E => ?_
                  obtain ⟨⟨y9, y10⟩, hx13, hf6⟩ := ob_some hf6
                  refine sh E (o_ok Try.call14 (E.evs rfl) (E.ev rfl) (oq_14 _ (x1 := x43) h42 hx13)) rfl rfl rfl ?_
                  rintro a _ s25 ⟨t26, rfl, len_y9⟩ E
                  refine sd E (o_mv (E.ev rfl)) rfl rfl rfl fun a E => ?_
                  refine sd E (o_ext (v := eA .u64 y9) (E.ev rfl) rfl) rfl rfl rfl fun a E => ?_
                  refine sd E (o_ext (v := .int .i64 y10) (E.ev rfl) rfl) rfl rfl rfl fun a E => ?_
                  refine sh E (o_ala ((κ + 0), 1004) .u64 8 Try.zeroValue38 (by kernel_rfl)) rfl rfl rfl ?_
                  rintro a _ s26 ⟨b10, rfl, o8, t27⟩ E
                  refine shN E (o_stA Try.sizeOf38 o8 (E.ev rfl) (E.ev rfl) (List.length_replicate ..) len_y9) rfl rfl ?_
                  rintro _ s27 ⟨o9, t28⟩
                  refine sd E (o_as (E.ev rfl)) rfl rfl rfl fun a E => ?_
                  refine GL_nil ?_
                  refine tgn ?_
                  refine G_seq ?_
                  refine G_region ?_
                  refine sd E (o_as (E.ev rfl)) rfl rfl rfl fun a E => ?_
                  refine GL_nil ?_
                  refine tgn ?_
                  obtain ⟨r7, hl7, hf6⟩ := ob_some hf6
                  refine G_mid1 (fun a' w' => ∃ x44 x45 s' w18, m_5_7k x43 (x44, x45) = some x ∧ w' = s'.w ∧ Tr (Fz κ []) s27 s' ∧ Bd ((κ + 0), 1003) kU 37 0 s' w18 x44 ∧ Own ((κ + 0), 1004) s' b10 (cA .u64 y9) 38 ∧ DiskAt (κ + 1) s' b1 X7 ∧ Bd ((κ + 0), 1001) kFr 32 0 s' w13 x32 ∧ En [] 165 a' [(20, w18), (24, .int .i64 x45), (8, .bool x31), (9, .int .i64 (IntKind.wrap .i64 ((IntKind.wrap .i64 (Int.tmod x0 30)) + 1))), (10, .pointer (some ⟨b1, 0, none⟩)), (13, w13), (14, .int .i64 x38), (19, w15), (21, .int .i64 x43), (22, .pointer (some ⟨b10, 0, none⟩))]) ?_ ?_
                  · refine G_block ?_
                    have f29 := ((h41.trN t26).trN t27).tr t28 (nt_snd rfl)
                    have f30 := ((h42.trN t26).trN t27).tr t28 (fun i => (nt_fst (ra rfl)))
                    have f31 := ((h43.trN t26).trN t27).tr t28 (nt_snd rfl)
                    refine G_lp hl7 (fun st a' w' => ∃ x44 x45 s' w18, st = (x44, x45) ∧ w' = s'.w ∧ Tr (Fz κ []) s27 s' ∧ Bd ((κ + 0), 1003) kU 37 0 s' w18 x44 ∧ Own ((κ + 0), 1004) s' b10 (cA .u64 y9) 38 ∧ DiskAt (κ + 1) s' b1 X7 ∧ Bd ((κ + 0), 1001) kFr 32 0 s' w13 x32 ∧ En [] 165 a' [(20, w18), (24, .int .i64 x45), (8, .bool x31), (9, .int .i64 (IntKind.wrap .i64 ((IntKind.wrap .i64 (Int.tmod x0 30)) + 1))), (10, .pointer (some ⟨b1, 0, none⟩)), (13, w13), (14, .int .i64 x38), (19, w15), (21, .int .i64 x43), (22, .pointer (some ⟨b10, 0, none⟩))]) ⟨_, _, _, _, rfl, rfl, (Tr.refl _ _), f29, o9, f30, f31, ((((((((((E.nil.ad E rfl rfl).ad E rfl rfl).ad E rfl rfl).ad E rfl rfl).ad E rfl rfl).ad E rfl rfl).ad E rfl rfl).ad E rfl rfl).ad E rfl rfl).ad E rfl rfl)⟩ ?_
                    rintro _ a _ x ⟨x46, x47, s28, w19, rfl, rfl, t29, h44, o10, h45, h46, E⟩ hf7
                    dsimp only [m_5_7b] at hf7
                    refine G_seq ?_
                    refine G_seq ?_
                    refine G_region ?_
                    refine sd E (o_mv (E.ev rfl)) rfl rfl rfl fun a E => ?_
                    refine sd E (o_bi (E.ev rfl) (E.ev rfl) rfl) rfl rfl rfl fun a E => ?_
                    refine GL_nil ?_
                    refine tgn ?_
                    refine G_cond (E.ev rfl) (fun ht => ?_) (fun ht => ?_)
                    · have hf7 := cT ht hf7
                      refine G_skip ?_
                      refine tgn ?_
                      refine G_seq ?_
                      refine G_block ?_
                      refine G_region ?_
                      refine sd E (o_mv (E.ev rfl)) rfl rfl rfl fun a E => ?_
                      refine sd E (o_mv (E.ev rfl)) rfl rfl rfl fun a E => ?_
                      obtain ⟨x48, hx14, hf7⟩ := ob_some hf7
                      refine sd E (o_ixa Try.underlying38 Try.sizeOf37 (E.ev rfl) (E.ev rfl) (ix_some hx14).1 (ix_some hx14).2) rfl rfl rfl fun a E => ?_
                      obtain ⟨x49, hx15, hf7⟩ := ob_some hf7
                      refine sd E (o_ld Try.isAgg37 (E.ev rfl) ((o10.cell _).trans (cA_get (gt_get hx15)))) rfl rfl rfl fun a E => ?_
                      refine sh E (o_bs Try.underlying30 Try.sizeOf37 Try.zeroValue37 (qs := #[(0, .int .u64 x49)]) (cells := #[.int .u64 x49]) (by simp only [List.map_toArray, List.map_cons, List.map_nil, E.ev (x := .tmp 135) (v := .int .u64 x49) rfl]) rfl rfl (by kernel_rfl)) rfl rfl rfl ?_
                      rintro a _ s29 ⟨b11, rfl, h47, t30⟩ E
                      have h48 := h47.sl (K := kU) (xs := [x49]) ⟨_, _, rfl, rfl, rfl⟩ rfl
                      obtain ⟨x50, hx16, hf7⟩ := ob_some hf7
                      obtain ⟨hx16, hz2⟩ := ap_some hx16
                      have f32 := h44.trN t30
                      refine sh E (o_app Try.underlying30 Try.type37 rfl rfl rfl rfl rfl rfl f32 h48.rd (E.ev rfl) (E.ev rfl) hx16 (Nat.zero_le _)) rfl rfl rfl ?_
                      rintro a w20 s30 ⟨h49, t31⟩ E
                      rw [hz2] at h49
                      refine sd E (o_as (E.ev rfl)) rfl rfl rfl fun a E => ?_
                      refine GL_nil ?_
                      refine ebn ?_
                      refine tgn ?_
                      refine G_region ?_
                      refine sd E (o_mv (E.ev rfl)) rfl rfl rfl fun a E => ?_
                      refine sd E (o_bi (E.ev rfl) (E.ev rfl) rfl) rfl rfl rfl fun a E => ?_
                      refine sd E (o_as (E.ev rfl)) rfl rfl rfl fun a E => ?_
                      refine GL_nil ?_
                      obtain rfl := Option.some.inj hf7
                      have f33 := (o10.trN t30).tr t31 (nt_snd rfl)
                      have f34 := (h45.trN t30).tr t31 (fun i => (nt_fst (ra rfl)))
                      have f35 := (h46.trN t30).tr t31 (nt_snd rfl)
                      have T12 : Tr (Fz κ []) s27 s30 := ((t29.trans t30.no).trans (Tr.ft Fz.f t31))
                      exact lpn ⟨_, _, _, _, rfl, rfl, T12, h49, f33, f34, f35, ((((((((((E.nil.ad E rfl rfl).ad E rfl rfl).ad E rfl rfl).ad E rfl rfl).ad E rfl rfl).ad E rfl rfl).ad E rfl rfl).ad E rfl rfl).ad E rfl rfl).ad E rfl rfl)⟩
                    · have hf7 := cF ht hf7
                      refine G_exit ?_
                      refine tge ?_
                      obtain rfl := Option.some.inj hf7
                      refine lpe fun hr => ?_
                      subst hr
                      refine ebk ?_
                      refine ctn ?_
                      exact ⟨_, _, _, _, hf6, rfl, t29, h44, o10, h45, h46, ((((((((((E.nil.ad E rfl rfl).ad E rfl rfl).ad E rfl rfl).ad E rfl rfl).ad E rfl rfl).ad E rfl rfl).ad E rfl rfl).ad E rfl rfl).ad E rfl rfl).ad E rfl rfl)⟩
                  · rintro a _ ⟨x51, x52, s31, w21, hf6, rfl, t32, h50, o11, h51, h52, E⟩
                    dsimp only [m_5_7k] at hf6
                    refine ebn ?_
                    refine tgn ?_
                    refine G_region ?_
                    refine sd E (o_mv (E.ev rfl)) rfl rfl rfl fun a E => ?_
                    refine sd E (o_bi (E.ev rfl) (E.ev rfl) rfl) rfl rfl rfl fun a E => ?_
                    refine sd E (o_as (E.ev rfl)) rfl rfl rfl fun a E => ?_
                    refine GL_nil ?_
                    obtain rfl := Option.some.inj hf6
                    have T13 : Tr (Fz κ []) s23 s31 := ((((t25.trans t26.no).trans t27.no).trans (Tr.ft Fz.f t28)).trans t32)
                    exact lpn ⟨_, _, _, _, rfl, rfl, T13, h50, h51, h52, ((((((((E.nil.ad E rfl rfl).ad E rfl rfl).ad E rfl rfl).ad E rfl rfl).ad E rfl rfl).ad E rfl rfl).ad E rfl rfl).ad E rfl rfl)⟩
                · have hf6 := cF ht hf6
                  refine G_exit ?_
                  refine tge ?_
                  obtain rfl := Option.some.inj hf6
                  refine lpe fun hr => ?_
                  subst hr
                  refine ebk ?_
                  refine ctn ?_
                  exact ⟨_, _, _, _, hm, rfl, t25, h41, h42, h43, ((((((((E.nil.ad E rfl rfl).ad E rfl rfl).ad E rfl rfl).ad E rfl rfl).ad E rfl rfl).ad E rfl rfl).ad E rfl rfl).ad E rfl rfl)⟩
              · rintro a _ ⟨x53, x54, s32, w22, hm, rfl, t33, h53, h54, h55, E⟩
                dsimp only [m_5_6k] at hm
                refine tgn ?_
                refine G_seq ?_
                refine G_region ?_
                refine sd E (o_mv (E.ev rfl)) rfl rfl rfl fun a E => ?_
                obtain ⟨s33, e5, h56, t34⟩ := h53.fz
                rw [e5]
                obtain ⟨⟨y11, y12⟩, hx17, hm⟩ := ob_some hm
                refine sh E (o_ok Try.call15 (E.evs rfl) (E.ev rfl) (ok_15 _ (x0 := 1) (x1 := x53) h56 hx17)) rfl rfl rfl ?_
                rintro a _ s34 ⟨t35, w23, rfl, h57⟩ E
                refine sd E (o_mv (E.ev rfl)) rfl rfl rfl fun a E => ?_
                refine sd E (o_ext (v := w23) (E.ev rfl) rfl) rfl rfl rfl fun a E => ?_
                refine sd E (o_ext (v := .int .i64 y12) (E.ev rfl) rfl) rfl rfl rfl fun a E => ?_
                refine sd E (o_as (E.ev rfl)) rfl rfl rfl fun a E => ?_
                refine sd E (o_as (E.ev rfl)) rfl rfl rfl fun a E => ?_
                refine GL_nil ?_
                refine tgn ?_
                refine G_seq ?_
                refine G_seq ?_
                refine G_region ?_
                refine sd E (o_mv (E.ev rfl)) rfl rfl rfl fun a E => ?_
                refine sd E (o_mv (E.ev rfl)) rfl rfl rfl fun a E => ?_
                have f36 := ((h40.tr t33).tr t34).tr t35
                obtain ⟨y13, hx18, hm⟩ := ob_some hm
                refine sh E (o_ok Try.call11 (E.evs rfl) (E.ev rfl) (ok_11 _ (x0 := y8) (x1 := y11) f36 h57 hx18)) rfl rfl rfl ?_
                rintro a _ s35 ⟨t36, rfl⟩ E
                refine sd E (o_not (E.ev rfl)) rfl rfl rfl fun a E => ?_
                refine GL_nil ?_
                refine tgn ?_
                refine G_cond (E.ev rfl) (fun ht => ?_) (fun ht => ?_)
                · have hm := cT ht hm
                  refine G_seq ?_
                  refine G_region ?_
                  refine sd E (o_as (E.ev rfl)) rfl rfl rfl fun a E => ?_
                  refine GL_nil ?_
                  refine tgn ?_
                  refine G_ret ?_
                  refine tgr ?_
                  cases hm
                  have T14 : Tr (Fz κ []) s s35 := (((((((((((((t1.no.trans t3.no).trans t4.no).trans (Tr.fw1 Fz.f t5)).trans t18).trans t20).trans t21.no).trans (Tr.fw2 Fz.f Fz.f t22)).trans (Tr.fw1 Fz.f t23)).trans t24.no).trans t33).trans (Tr.ft Fz.f t34)).trans t35.no).trans t36.no)
                  exact fin1 E rfl rfl ⟨(Tr.fin0 hκ T14), rfl⟩
                · have hm := cF ht hm
                  refine G_skip ?_
                  refine tgn ?_
                  refine G_seq ?_
                  refine G_seq ?_
                  obtain ⟨t37, hc2, hm⟩ := ob_some hm
                  refine G_regm (fun a' w' => ∃ s', w' = s'.w ∧ Tr (Fz κ []) s35 s' ∧ En [] 165 a' [(160, .bool t37), (8, .bool x31), (14, .int .i64 x38), (19, w15)]) ?_ ?_
                  · refine sd E (o_mv (E.ev rfl)) rfl rfl rfl fun a E => ?_
                    have f37 := h57.tr t36
                    refine sd E (o_lenS (xs := y11) Try.underlying22 (E.ev rfl) f37.isS) rfl rfl rfl fun a E => ?_
                    refine sd E (o_mv (E.ev rfl)) rfl rfl rfl fun a E => ?_
                    have f38 := ((h55.tr t34 (nt_snd rfl)).trN t35).trN t36
                    refine sd E (o_lenS (xs := x32) Try.underlying22 (E.ev rfl) f38.isS) rfl rfl rfl fun a E => ?_
                    refine sd E (o_bi (E.ev rfl) (E.ev rfl) rfl) rfl rfl rfl fun a E => ?_
                    refine sd E (o_mv (E.ev rfl)) rfl rfl rfl fun a E => ?_
                    refine bcase (E.ev (x := .tmp 152) rfl) (fun ht => ?_) (fun ht => ?_)
                    · have hc2 := cT ht hc2
                      rw [ht] at E
                      refine sk E rfl rfl rfl fun a E => ?_
                      refine sk E rfl rfl rfl fun a E => ?_
                      refine sk E rfl rfl rfl fun a E => ?_
                      refine sk E rfl rfl rfl fun a E => ?_
                      refine sk E rfl rfl rfl fun a E => ?_
                      refine sk E rfl rfl rfl fun a E => ?_
                      refine sk E rfl rfl rfl fun a E => ?_
                      refine sd E (o_pickT (E.ev rfl) (E.ev rfl)) rfl rfl rfl fun a E => ?_
                      obtain rfl := Option.some.inj hc2
                      exact GL_nil ⟨_, rfl, (Tr.refl _ _), ((((E.nil.ad E rfl rfl).ad E rfl rfl).ad E rfl rfl).ad E rfl rfl)⟩
                    · have hc2 := cF ht hc2
                      rw [ht] at E
                      refine sd E (o_mv (E.ev rfl)) rfl rfl rfl fun a E => ?_
                      refine sd E (o_mv (E.ev rfl)) rfl rfl rfl fun a E => ?_
                      refine sd E (o_mv (E.ev rfl)) rfl rfl rfl fun a E => ?_
                      refine sd E (o_lenS (xs := y11) Try.underlying22 (E.ev rfl) f37.isS) rfl rfl rfl fun a E => ?_
                      obtain ⟨s36, e6, h58, t38⟩ := f38.fz
                      rw [e6]
                      obtain ⟨x55, hx19, hc2⟩ := ob_some hc2
                      obtain ⟨w24, g3, h59⟩ := h58.sl hx19
                      refine sd E (o_slH Try.underlying22 Try.sizeOf32 g3 (E.ev rfl) (E.ev rfl)) rfl rfl rfl fun a E => ?_
                      have f39 := f37.tr t38
                      obtain ⟨y14, hx20, hc2⟩ := ob_some hc2
                      refine sh E (o_ok Try.call11 (E.evs rfl) (E.ev rfl) (ok_11 _ (x0 := y11) (x1 := x55) f39 h59 hx20)) rfl rfl rfl ?_
                      rintro a _ s37 ⟨t39, rfl⟩ E
                      refine sd E (o_not (E.ev rfl)) rfl rfl rfl fun a E => ?_
                      refine sd E (o_pickF (E.ev rfl) (E.ev rfl)) rfl rfl rfl fun a E => ?_
                      obtain rfl := Option.some.inj hc2
                      exact GL_nil ⟨_, rfl, ((Tr.ft Fz.f t38).trans t39.no), ((((E.nil.ad E rfl rfl).ad E rfl rfl).ad E rfl rfl).ad E rfl rfl)⟩
                  rintro a _ ⟨s38, rfl, t40, E⟩
                  refine tgn ?_
                  refine G_cond (E.ev rfl) (fun ht => ?_) (fun ht => ?_)
                  · have hm := cT ht hm
                    refine G_seq ?_
                    refine G_region ?_
                    refine sd E (o_as (E.ev rfl)) rfl rfl rfl fun a E => ?_
                    refine GL_nil ?_
                    refine tgn ?_
                    refine G_ret ?_
                    refine tgr ?_
                    cases hm
                    have T15 : Tr (Fz κ []) s s38 := ((((((((((((((t1.no.trans t3.no).trans t4.no).trans (Tr.fw1 Fz.f t5)).trans t18).trans t20).trans t21.no).trans (Tr.fw2 Fz.f Fz.f t22)).trans (Tr.fw1 Fz.f t23)).trans t24.no).trans t33).trans (Tr.ft Fz.f t34)).trans t35.no).trans t36.no).trans t40)
                    exact fin1 E rfl rfl ⟨(Tr.fin0 hκ T15), rfl⟩
                  · have hm := cF ht hm
                    refine G_skip ?_
                    refine tgn ?_
                    refine G_seq ?_
                    refine G_region ?_
                    refine sd E (o_mv (E.ev rfl)) rfl rfl rfl fun a E => ?_
                    have f40 := (f36.tr t36).tr t40
                    refine sd E (o_lenS (xs := y8) Try.underlying22 (E.ev rfl) f40.isS) rfl rfl rfl fun a E => ?_
                    refine sd E (o_mv (E.ev rfl)) rfl rfl rfl fun a E => ?_
                    refine sd E (o_bi (E.ev rfl) (E.ev rfl) rfl) rfl rfl rfl fun a E => ?_
                    refine sd E (o_as (E.ev rfl)) rfl rfl rfl fun a E => ?_
                    refine GL_nil ?_
                    refine tgn ?_
                    refine G_ret ?_
                    cases hm
                    have T16 : Tr (Fz κ []) s s38 := ((((((((((((((t1.no.trans t3.no).trans t4.no).trans (Tr.fw1 Fz.f t5)).trans t18).trans t20).trans t21.no).trans (Tr.fw2 Fz.f Fz.f t22)).trans (Tr.fw1 Fz.f t23)).trans t24.no).trans t33).trans (Tr.ft Fz.f t34)).trans t35.no).trans t36.no).trans t40)
                    exact fin1 E rfl rfl ⟨(Tr.fin0 hκ T16), rfl⟩

-- gimmal/gimmallaw08.LogLost
noncomputable def m_4_3b (x47 : RLog) (y21 : List Frame) : Int → Option (Lo Int Int) := fun x50 => ob (bif decide (x50 < (y21.length : Int)) then (bif decide (x50 < (x47.L.length : Int)) then (ob (sl y21 x50 (IntKind.wrap .i64 (x50 + 1))) fun x51 => ob (sl x47.L x50 (IntKind.wrap .i64 (x50 + 1))) fun x52 => ob (m_11 x51 x52) fun y23 => some y23) else (some false)) else (some false)) fun t43 => bif t43 then (some (.inl (IntKind.wrap .i64 (x50 + 1)))) else (some (.inr x50))
noncomputable def m_4_3k (x47 : RLog) (y21 : List Frame) : Int → Option Bool := fun x53 => ob (bif decide (x53 < (x47.L.length : Int)) then (bif decide (x53 < (y21.length : Int)) then (ob (gt y21 x53) fun x54 => ob (gt x47.L x53) fun x55 => bif x54.Kind == x55.Kind then (ob (gt y21 x53) fun x56 => ob (gt x47.L x53) fun x57 => some ((x56.Words.length : Int) == (x57.Words.length : Int))) else (some false)) else (some false)) else (some false)) fun t48 => some t48
noncomputable def m_4_2b (x2 : List Frame) : (Bool × Int × Disk × RDisk × LogM × RLog) → Option (Lo (Bool × Int × Disk × RDisk × LogM × RLog) (Sum (Bool × Int × Disk × RDisk × LogM × RLog) Bool)) := fun (x33, x34, x35, x36, x37, x38) => bif decide (x34 < (x2.length : Int)) then (ob (gt x2 x34) fun x39 => bif decide ((x39.Words.length : Int) > 400) then (some (.inr (.inr true))) else (ob (gt x2 x34) fun x40 => ob (mq_10 x37 x35 x40) fun (y14, X11, X12) => ob (gt x2 x34) fun x41 => ob (m_18 x38 x36 x41) fun (y15, X13, X14) => some (.inl (x33, IntKind.wrap .i64 (x34 + 1), X12, X14, X11, X13)))) else (some (.inr (.inl (x33, x34, x35, x36, x37, x38))))
noncomputable def m_4_2k (x0 : Int) (x4 : List Bool) : Sum (Bool × Int × Disk × RDisk × LogM × RLog) Bool → Option Bool
  | .inl (x42, x43, x44, x45, x46, x47) => ob (mq_19 x44 x4) fun X15 => ob (m_21 x45 x4) fun X16 => ob (m_9 X15 0 (IntKind.wrap .i64 ((IntKind.wrap .i64 (Int.tmod x0 20)) + 1)) 1) fun (y16, y17, X17) => ob (m_17 X16 0 (IntKind.wrap .i64 ((IntKind.wrap .i64 (Int.tmod x0 20)) + 1)) 1) fun (y18, X18) => ob (bif y17 != 0 then (some true) else (ob (m_12 y16) fun y19 => ob (m_11 y19 y18.L) fun y20 => some (!y20))) fun t33 => bif t33 then (some false) else (ob (m_12 y16) fun y21 => ob (bif decide ((y21.length : Int) ≤ (x47.L.length : Int)) then (ob (sl x47.L 0 (y21.length : Int)) fun x48 => ob (m_11 y21 x48) fun y22 => some y22) else (some false)) fun t39 => bif t39 then (some true) else (ob (loopO (m_4_3b x47 y21) 0) (m_4_3k x47 y21)))
  | .inr y => some y
noncomputable def m_4_1b (x1 : List Frame) : (Bool × Int × Disk × RDisk × LogM × RLog) → Option (Lo (Bool × Int × Disk × RDisk × LogM × RLog) (Sum (Bool × Int × Disk × RDisk × LogM × RLog) Bool)) := fun (x12, x13, x14, x15, x16, x17) => bif decide (x13 < (x1.length : Int)) then (ob (gt x1 x13) fun x18 => bif decide ((x18.Words.length : Int) > 400) then (some (.inr (.inr true))) else (ob (gt x1 x13) fun x19 => ob (mq_10 x16 x14 x19) fun (y7, X3, X4) => ob (gt x1 x13) fun x20 => ob (m_18 x17 x15 x20) fun (y8, X5, X6) => some (.inl (x12, IntKind.wrap .i64 (x13 + 1), X4, X6, X3, X5)))) else (some (.inr (.inl (x12, x13, x14, x15, x16, x17))))
noncomputable def m_4_1k (x0 : Int) (x2 : List Frame) (x3 : List Bool) (x4 : List Bool) : Sum (Bool × Int × Disk × RDisk × LogM × RLog) Bool → Option Bool
  | .inl (x21, x22, x23, x24, x25, x26) => ob (mq_19 x23 x3) fun X7 => ob (m_21 x24 x3) fun X8 => ob (m_9 X7 0 (IntKind.wrap .i64 ((IntKind.wrap .i64 (Int.tmod x0 20)) + 1)) 1) fun (y9, y10, X9) => ob (m_17 X8 0 (IntKind.wrap .i64 ((IntKind.wrap .i64 (Int.tmod x0 20)) + 1)) 1) fun (y11, X10) => ob (bif y10 != 0 then (some true) else (ob (m_12 y9) fun y12 => ob (m_11 y12 y11.L) fun y13 => some (!y13))) fun t19 => bif t19 then (some false) else (ob (loopO (m_4_2b x2) (x21, 0, X9, X10, y9, y11)) (m_4_2k x0 x4))
  | .inr y => some y
noncomputable def m_4 (x0 : Int) (x1 : List Frame) (x2 : List Frame) (x3 : List Bool) (x4 : List Bool) : Option Bool :=
  ob (m_7) fun y1 => bif !y1 then (some false) else (ob (bif decide ((x1.length : Int) > 20) then (some true) else (bif decide ((x2.length : Int) > 20) then (some true) else (bif decide ((x3.length : Int) > 100) then (some true) else (some (decide ((x4.length : Int) > 100)))))) fun t2 => bif t2 then (some true) else (ob (m_8 (IntKind.wrap .i64 ((IntKind.wrap .i64 (Int.tmod x0 20)) + 1))) fun y2 => ob (m_16 (IntKind.wrap .i64 ((IntKind.wrap .i64 (Int.tmod x0 20)) + 1))) fun y3 => ob (m_9 y2 0 (IntKind.wrap .i64 ((IntKind.wrap .i64 (Int.tmod x0 20)) + 1)) 1) fun (y4, y5, X1) => ob (m_17 y3 0 (IntKind.wrap .i64 ((IntKind.wrap .i64 (Int.tmod x0 20)) + 1)) 1) fun (y6, X2) => ob (bif y5 != 0 then (some true) else (some false)) fun t8 => bif t8 then (some false) else (ob (loopO (m_4_1b x1) (false, 0, X1, X2, y4, y6)) (m_4_1k x0 x2 x3 x4))))
theorem ok_4 (s : St) {x0 : Int} {x1 : List Frame} {w1 : Value} {x2 : List Frame} {w2 : Value} {x3 : List Bool} {w3 : Value} {x4 : List Bool} {w4 : Value} (h1 : Sl kFr s w1 x1) (h2 : Sl kFr s w2 x2) (h3 : Sl kBool s w3 x3) (h4 : Sl kBool s w4 x4) {r0y : Bool} (hm : m_4 x0 x1 x2 x3 x4 = some r0y) :
    Ok Try.prog 4 ([.int .u8 x0, w1, w2, w3, w4] : List Value).toArray s fun v s' => Tr No s s' ∧ v = .bool r0y := by
  unfold m_4 at hm
  obtain ⟨κ, hκ⟩ := s.fresh
  refine ok_of (n := 253) _ Try.func4 rfl _ rfl rfl fun a E => ?_
  refine G_seq ?_
  refine G_region ?_
  refine sd E (o_as (E.ev rfl)) rfl rfl rfl fun a E => ?_
  refine GL_nil ?_
  refine tgn ?_
  refine G_seq ?_
  refine G_seq ?_
  refine G_region ?_
  obtain ⟨y1, hx1, hm⟩ := ob_some hm
  refine sh E (o_ok Try.call7 (E.evs rfl) (E.ev rfl) (ok_7 _ hx1)) rfl rfl rfl ?_
  rintro a _ s1 ⟨t1, rfl⟩ E
  refine sd E (o_not (E.ev rfl)) rfl rfl rfl fun a E => ?_
  refine GL_nil ?_
  refine tgn ?_
  refine G_cond (E.ev rfl) (fun ht => ?_) (fun ht => ?_)
  · have hm := cT ht hm
    refine G_seq ?_
    refine G_region ?_
    refine sd E (o_as (E.ev rfl)) rfl rfl rfl fun a E => ?_
    refine GL_nil ?_
    refine tgn ?_
    refine G_ret ?_
    refine tgr ?_
    cases hm
    have T1 : Tr (Fz κ []) s s1 := t1.no
    exact fin1 E rfl rfl ⟨(Tr.fin0 hκ T1), rfl⟩
  · have hm := cF ht hm
    refine G_skip ?_
    refine tgn ?_
    refine G_seq ?_
    refine G_seq ?_
    obtain ⟨t2, hc1, hm⟩ := ob_some hm
    refine G_regm (fun a' w' => ∃ s', w' = s'.w ∧ Tr No s1 s' ∧ En [] 253 a' [(41, .bool t2), (0, .int .u8 x0), (1, w1), (2, w2), (3, w3), (4, w4), (10, .bool false)]) ?_ ?_
    · refine sd E (o_mv (E.ev rfl)) rfl rfl rfl fun a E => ?_
      have f1 := h1.tr t1
      refine sd E (o_lenS (xs := x1) Try.underlying22 (E.ev rfl) f1.isS) rfl rfl rfl fun a E => ?_
      refine sd E (o_bi (E.ev rfl) (E.ev rfl) rfl) rfl rfl rfl fun a E => ?_
      refine sd E (o_mv (E.ev rfl)) rfl rfl rfl fun a E => ?_
      refine bcase (E.ev (x := .tmp 27) rfl) (fun ht => ?_) (fun ht => ?_)
      · have hc1 := cT ht hc1
        rw [ht] at E
        refine sk E rfl rfl rfl fun a E => ?_
        refine sk E rfl rfl rfl fun a E => ?_
        refine sk E rfl rfl rfl fun a E => ?_
        refine sd E (o_pickT (E.ev rfl) (E.ev rfl)) rfl rfl rfl fun a E => ?_
        refine sd E (o_mv (E.ev rfl)) rfl rfl rfl fun a E => ?_
        refine sk E rfl rfl rfl fun a E => ?_
        refine sk E rfl rfl rfl fun a E => ?_
        refine sk E rfl rfl rfl fun a E => ?_
        refine sd E (o_pickT (E.ev rfl) (E.ev rfl)) rfl rfl rfl fun a E => ?_
        refine sd E (o_mv (E.ev rfl)) rfl rfl rfl fun a E => ?_
        refine sk E rfl rfl rfl fun a E => ?_
        refine sk E rfl rfl rfl fun a E => ?_
        refine sk E rfl rfl rfl fun a E => ?_
        refine sd E (o_pickT (E.ev rfl) (E.ev rfl)) rfl rfl rfl fun a E => ?_
        obtain rfl := Option.some.inj hc1
        exact GL_nil ⟨_, rfl, (Tr.refl _ _), (((((((E.nil.ad E rfl rfl).ad E rfl rfl).ad E rfl rfl).ad E rfl rfl).ad E rfl rfl).ad E rfl rfl).ad E rfl rfl)⟩
      · have hc1 := cF ht hc1
        rw [ht] at E
        refine sd E (o_mv (E.ev rfl)) rfl rfl rfl fun a E => ?_
        have f2 := h2.tr t1
        refine sd E (o_lenS (xs := x2) Try.underlying22 (E.ev rfl) f2.isS) rfl rfl rfl fun a E => ?_
        refine sd E (o_bi (E.ev rfl) (E.ev rfl) rfl) rfl rfl rfl fun a E => ?_
        refine sd E (o_pickF (E.ev rfl) (E.ev rfl)) rfl rfl rfl fun a E => ?_
        refine sd E (o_mv (E.ev rfl)) rfl rfl rfl fun a E => ?_
        refine bcase (E.ev (x := .tmp 32) rfl) (fun ht => ?_) (fun ht => ?_)
        · have hc1 := cT ht hc1
          rw [ht] at E
          refine sk E rfl rfl rfl fun a E => ?_
          refine sk E rfl rfl rfl fun a E => ?_
          refine sk E rfl rfl rfl fun a E => ?_
          refine sd E (o_pickT (E.ev rfl) (E.ev rfl)) rfl rfl rfl fun a E => ?_
          refine sd E (o_mv (E.ev rfl)) rfl rfl rfl fun a E => ?_
          refine sk E rfl rfl rfl fun a E => ?_
          refine sk E rfl rfl rfl fun a E => ?_
          refine sk E rfl rfl rfl fun a E => ?_
          refine sd E (o_pickT (E.ev rfl) (E.ev rfl)) rfl rfl rfl fun a E => ?_
          obtain rfl := Option.some.inj hc1
          exact GL_nil ⟨_, rfl, (Tr.refl _ _), (((((((E.nil.ad E rfl rfl).ad E rfl rfl).ad E rfl rfl).ad E rfl rfl).ad E rfl rfl).ad E rfl rfl).ad E rfl rfl)⟩
        · have hc1 := cF ht hc1
          rw [ht] at E
          refine sd E (o_mv (E.ev rfl)) rfl rfl rfl fun a E => ?_
          have f3 := h3.tr t1
          refine sd E (o_lenS (xs := x3) Try.underlying44 (E.ev rfl) f3.isS) rfl rfl rfl fun a E => ?_
          refine sd E (o_bi (E.ev rfl) (E.ev rfl) rfl) rfl rfl rfl fun a E => ?_
          refine sd E (o_pickF (E.ev rfl) (E.ev rfl)) rfl rfl rfl fun a E => ?_
          refine sd E (o_mv (E.ev rfl)) rfl rfl rfl fun a E => ?_
          refine bcase (E.ev (x := .tmp 37) rfl) (fun ht => ?_) (fun ht => ?_)
          · have hc1 := cT ht hc1
            rw [ht] at E
            refine sk E rfl rfl rfl fun a E => ?_
            refine sk E rfl rfl rfl fun a E => ?_
            refine sk E rfl rfl rfl fun a E => ?_
            refine sd E (o_pickT (E.ev rfl) (E.ev rfl)) rfl rfl rfl fun a E => ?_
            obtain rfl := Option.some.inj hc1
            exact GL_nil ⟨_, rfl, (Tr.refl _ _), (((((((E.nil.ad E rfl rfl).ad E rfl rfl).ad E rfl rfl).ad E rfl rfl).ad E rfl rfl).ad E rfl rfl).ad E rfl rfl)⟩
          · have hc1 := cF ht hc1
            rw [ht] at E
            refine sd E (o_mv (E.ev rfl)) rfl rfl rfl fun a E => ?_
            have f4 := h4.tr t1
            refine sd E (o_lenS (xs := x4) Try.underlying44 (E.ev rfl) f4.isS) rfl rfl rfl fun a E => ?_
            refine sd E (o_bi (E.ev rfl) (E.ev rfl) rfl) rfl rfl rfl fun a E => ?_
            refine sd E (o_pickF (E.ev rfl) (E.ev rfl)) rfl rfl rfl fun a E => ?_
            obtain rfl := Option.some.inj hc1
            exact GL_nil ⟨_, rfl, (Tr.refl _ _), (((((((E.nil.ad E rfl rfl).ad E rfl rfl).ad E rfl rfl).ad E rfl rfl).ad E rfl rfl).ad E rfl rfl).ad E rfl rfl)⟩
    rintro a _ ⟨s2, rfl, t3, E⟩
    refine tgn ?_
    refine G_cond (E.ev rfl) (fun ht => ?_) (fun ht => ?_)
    · have hm := cT ht hm
      refine G_seq ?_
      refine G_region ?_
      refine sd E (o_as (E.ev rfl)) rfl rfl rfl fun a E => ?_
      refine GL_nil ?_
      refine tgn ?_
      refine G_ret ?_
      refine tgr ?_
      cases hm
      have T2 : Tr (Fz κ []) s s2 := (t1.no.trans t3.no)
      exact fin1 E rfl rfl ⟨(Tr.fin0 hκ T2), rfl⟩
    · have hm := cF ht hm
      refine G_skip ?_
      refine tgn ?_
      refine G_seq ?_
      refine G_region ?_
      refine sd E (o_mv (E.ev rfl)) rfl rfl rfl fun a E => ?_
      refine sd E (o_rem (E.ev rfl) (E.ev rfl) rfl) rfl rfl rfl fun a E => ?_
      refine sd E (o_cv Try.underlying5 Try.underlying3 (E.ev rfl)) rfl rfl rfl fun a E => ?_
      refine sd E (o_bi (E.ev rfl) (E.ev rfl) rfl) rfl rfl rfl fun a E => ?_
      refine sd E (o_as (E.ev rfl)) rfl rfl rfl fun a E => ?_
      refine GL_nil ?_
      refine tgn ?_
      refine G_seq ?_
      refine G_region ?_
      refine sd E (o_mv (E.ev rfl)) rfl rfl rfl fun a E => ?_
      obtain ⟨y2, hx2, hm⟩ := ob_some hm
      refine sh E (o_ok Try.call8 (E.evs rfl) (E.ev rfl) (oq_8 _ (κ + 1) (x0 := IntKind.wrap .i64 ((IntKind.wrap .i64 (Int.tmod x0 20)) + 1)) hx2)) rfl rfl rfl ?_
      rintro a _ s3 ⟨t4, b1, rfl, h5⟩ E
      refine sd E (o_mv (E.ev rfl)) rfl rfl rfl fun a E => ?_
      obtain ⟨y3, hx3, hm⟩ := ob_some hm
      refine sh E (o_ok Try.call16 (E.evs rfl) (E.ev rfl) (ok_16 _ (κ + 2) (x0 := IntKind.wrap .i64 ((IntKind.wrap .i64 (Int.tmod x0 20)) + 1)) hx3)) rfl rfl rfl ?_
      rintro a _ s4 ⟨t5, b2, rfl, h6⟩ E
      refine sd E (o_as (E.ev rfl)) rfl rfl rfl fun a E => ?_
      refine sd E (o_as (E.ev rfl)) rfl rfl rfl fun a E => ?_
      refine GL_nil ?_
      refine tgn ?_
      refine G_seq ?_
      refine G_region ?_
      refine sd E (o_mv (E.ev rfl)) rfl rfl rfl fun a E => ?_
      refine sd E (o_mv (E.ev rfl)) rfl rfl rfl fun a E => ?_
      have f5 := h5.trN t5
      obtain ⟨⟨y4, y5, X1⟩, hx4, hm⟩ := ob_some hm
      refine sh E (o_ok Try.call9 (E.evs rfl) (E.ev rfl) (ok_9 _ (κ + 3) (x1 := 0) (x2 := IntKind.wrap .i64 ((IntKind.wrap .i64 (Int.tmod x0 20)) + 1)) (x3 := 1) f5 hx4)) rfl rfl rfl ?_
      rintro a _ s5 ⟨t6, b3, rfl, h8, h7⟩ E
      refine sd E (o_mv (E.ev rfl)) rfl rfl rfl fun a E => ?_
      refine sd E (o_ext (v := .pointer (some ⟨b3, 0, none⟩)) (E.ev rfl) rfl) rfl rfl rfl fun a E => ?_
      refine sd E (o_ext (v := .int .i64 y5) (E.ev rfl) rfl) rfl rfl rfl fun a E => ?_
      refine sd E (o_as (E.ev rfl)) rfl rfl rfl fun a E => ?_
      refine sd E (o_as (E.ev rfl)) rfl rfl rfl fun a E => ?_
      refine GL_nil ?_
      refine tgn ?_
      refine G_seq ?_
      refine G_region ?_
      refine sd E (o_mv (E.ev rfl)) rfl rfl rfl fun a E => ?_
      refine sd E (o_mv (E.ev rfl)) rfl rfl rfl fun a E => ?_
      have f6 := h6.tr t6 (fun i => (nW1 (ra rfl)))
      obtain ⟨⟨y6, X2⟩, hx5, hm⟩ := ob_some hm
      refine sh E (o_ok Try.call17 (E.evs rfl) (E.ev rfl) (ok_17 _ (κ + 4) (x1 := 0) (x2 := IntKind.wrap .i64 ((IntKind.wrap .i64 (Int.tmod x0 20)) + 1)) (x3 := 1) f6 hx5)) rfl rfl rfl ?_
      rintro a _ s6 ⟨t7, b4, rfl, h10, h9⟩ E
      refine sd E (o_as (E.ev rfl)) rfl rfl rfl fun a E => ?_
      refine GL_nil ?_
      refine tgn ?_
      refine G_seq ?_
      refine G_seq ?_
      obtain ⟨t8, hc2, hm⟩ := ob_some hm
      refine G_regm (fun a' w' => ∃ s', w' = s'.w ∧ Tr No s6 s' ∧ En [] 253 a' [(64, .bool t8), (1, w1), (2, w2), (3, w3), (4, w4), (10, .bool false), (11, .int .i64 (IntKind.wrap .i64 ((IntKind.wrap .i64 (Int.tmod x0 20)) + 1))), (12, .pointer (some ⟨b1, 0, none⟩)), (13, .pointer (some ⟨b2, 0, none⟩)), (14, .pointer (some ⟨b3, 0, none⟩)), (15, .int .i64 y5), (16, .pointer (some ⟨b4, 0, none⟩))]) ?_ ?_
      · refine sd E (o_mv (E.ev rfl)) rfl rfl rfl fun a E => ?_
        refine sd E (o_bi (E.ev rfl) (E.ev rfl) rfl) rfl rfl rfl fun a E => ?_
        refine sd E (o_mv (E.ev rfl)) rfl rfl rfl fun a E => ?_
        refine bcase (E.ev (x := .tmp 61) rfl) (fun ht => ?_) (fun ht => ?_)
        · have hc2 := cT ht hc2
          rw [ht] at E
          refine sk E rfl rfl rfl fun a E => ?_
          refine sk E rfl rfl rfl fun a E => ?_
          refine sd E (o_pickT (E.ev rfl) (E.ev rfl)) rfl rfl rfl fun a E => ?_
          obtain rfl := Option.some.inj hc2
          exact GL_nil ⟨_, rfl, (Tr.refl _ _), ((((((((((((E.nil.ad E rfl rfl).ad E rfl rfl).ad E rfl rfl).ad E rfl rfl).ad E rfl rfl).ad E rfl rfl).ad E rfl rfl).ad E rfl rfl).ad E rfl rfl).ad E rfl rfl).ad E rfl rfl).ad E rfl rfl)⟩
        · have hc2 := cF ht hc2
          rw [ht] at E
          refine sd E (o_mv (E.ev rfl)) rfl rfl rfl fun a E => ?_
          refine sd E (o_eqp Try.underlying26 (E.ev rfl) (E.ev rfl)) rfl rfl rfl fun a E => ?_
          refine sd E (o_pickF (E.ev rfl) (E.ev rfl)) rfl rfl rfl fun a E => ?_
          obtain rfl := Option.some.inj hc2
          exact GL_nil ⟨_, rfl, (Tr.refl _ _), ((((((((((((E.nil.ad E rfl rfl).ad E rfl rfl).ad E rfl rfl).ad E rfl rfl).ad E rfl rfl).ad E rfl rfl).ad E rfl rfl).ad E rfl rfl).ad E rfl rfl).ad E rfl rfl).ad E rfl rfl).ad E rfl rfl)⟩
      rintro a _ ⟨s7, rfl, t9, E⟩
      refine tgn ?_
      refine G_cond (E.ev rfl) (fun ht => ?_) (fun ht => ?_)
      · have hm := cT ht hm
        refine G_seq ?_
        refine G_region ?_
        refine sd E (o_as (E.ev rfl)) rfl rfl rfl fun a E => ?_
        refine GL_nil ?_
        refine tgn ?_
        refine G_ret ?_
        refine tgr ?_
        cases hm
        have T3 : Tr (Fz κ []) s s7 := ((((((t1.no.trans t3.no).trans t4.no).trans t5.no).trans (Tr.fw1 Fz.f t6)).trans (Tr.fw1 Fz.f t7)).trans t9.no)
        exact fin1 E rfl rfl ⟨(Tr.fin0 hκ T3), rfl⟩
      · have hm := cF ht hm
        refine G_skip ?_
        refine tgn ?_
        refine G_seq ?_
        refine G_seq ?_
        refine G_region ?_
        refine sd E (o_as (E.ev rfl)) rfl rfl rfl fun a E => ?_
        refine GL_nil ?_
        refine tgn ?_
        obtain ⟨r1, hl1, hm⟩ := ob_some hm
        refine G_mid1 (fun a' w' => ∃ x6 x7 x8 x9 x10 x11 s', m_4_1k x0 x2 x3 x4 (.inl (x6, x7, x8, x9, x10, x11)) = some r0y ∧ w' = s'.w ∧ Tr (Fz κ []) s7 s' ∧ DiskAt (κ + 1) s' b1 x8 ∧ RDiskAt (κ + 2) s' b2 x9 ∧ LogAt (κ + 3) b1 s' b3 x10 ∧ RLogAt (κ + 4) b2 s' b4 x11 ∧ En [] 253 a' [(10, .bool x6), (17, .int .i64 x7), (1, w1), (2, w2), (3, w3), (4, w4), (11, .int .i64 (IntKind.wrap .i64 ((IntKind.wrap .i64 (Int.tmod x0 20)) + 1))), (12, .pointer (some ⟨b1, 0, none⟩)), (13, .pointer (some ⟨b2, 0, none⟩)), (14, .pointer (some ⟨b3, 0, none⟩)), (15, .int .i64 y5), (16, .pointer (some ⟨b4, 0, none⟩))]) ?_ ?_
        · refine G_block ?_
          have f7 := (h8.tr t7 (fun i => (nW1 (ra rfl)))).trN t9
          have f8 := h10.trN t9
          have f9 := (h7.tr t7 (fun i => (nW1 (ra rfl)))).trN t9
          have f10 := h9.trN t9
          refine G_lp hl1 (fun st a' w' => ∃ x6 x7 x8 x9 x10 x11 s', st = (x6, x7, x8, x9, x10, x11) ∧ w' = s'.w ∧ Tr (Fz κ []) s7 s' ∧ DiskAt (κ + 1) s' b1 x8 ∧ RDiskAt (κ + 2) s' b2 x9 ∧ LogAt (κ + 3) b1 s' b3 x10 ∧ RLogAt (κ + 4) b2 s' b4 x11 ∧ En [] 253 a' [(10, .bool x6), (17, .int .i64 x7), (1, w1), (2, w2), (3, w3), (4, w4), (11, .int .i64 (IntKind.wrap .i64 ((IntKind.wrap .i64 (Int.tmod x0 20)) + 1))), (12, .pointer (some ⟨b1, 0, none⟩)), (13, .pointer (some ⟨b2, 0, none⟩)), (14, .pointer (some ⟨b3, 0, none⟩)), (15, .int .i64 y5), (16, .pointer (some ⟨b4, 0, none⟩))]) ⟨_, _, _, _, _, _, _, rfl, rfl, (Tr.refl _ _), f7, f8, f9, f10, ((((((((((((E.nil.ad E rfl rfl).ad E rfl rfl).ad E rfl rfl).ad E rfl rfl).ad E rfl rfl).ad E rfl rfl).ad E rfl rfl).ad E rfl rfl).ad E rfl rfl).ad E rfl rfl).ad E rfl rfl).ad E rfl rfl)⟩ ?_
          rintro _ a _ x ⟨x12, x13, x14, x15, x16, x17, s8, rfl, rfl, t10, h11, h12, h13, h14, E⟩ hf1
          dsimp only [m_4_1b] at hf1
          refine G_seq ?_
          refine G_seq ?_
          refine G_region ?_
          refine sd E (o_mv (E.ev rfl)) rfl rfl rfl fun a E => ?_
          refine sd E (o_mv (E.ev rfl)) rfl rfl rfl fun a E => ?_
          have f11 := (((((((h1.tr t1).tr t3).tr t4).tr t5).tr t6).tr t7).tr t9).tr t10
          refine sd E (o_lenS (xs := x1) Try.underlying22 (E.ev rfl) f11.isS) rfl rfl rfl fun a E => ?_
          refine sd E (o_bi (E.ev rfl) (E.ev rfl) rfl) rfl rfl rfl fun a E => ?_
          refine GL_nil ?_
          refine tgn ?_
          refine G_cond (E.ev rfl) (fun ht => ?_) (fun ht => ?_)
          · have hf1 := cT ht hf1
            refine G_skip ?_
            refine tgn ?_
            refine G_seq ?_
            refine G_block ?_
            refine G_seq ?_
            refine G_seq ?_
            refine G_region ?_
            refine sd E (o_mv (E.ev rfl)) rfl rfl rfl fun a E => ?_
            refine sd E (o_mv (E.ev rfl)) rfl rfl rfl fun a E => ?_
            obtain ⟨x18, hx6, hf1⟩ := ob_some hf1
            obtain ⟨b5, p1, g1, h15⟩ := f11.gt hx6
            refine sd E (o_ixg Try.underlying22 Try.sizeOf32 g1 (E.ev rfl) (E.ev rfl)) rfl rfl rfl fun a E => ?_
            refine sd E (o_fa Try.underlying32 rfl Try.sizeOf30 (E.ev rfl)) rfl rfl rfl fun a E => ?_
            obtain ⟨w5, e1, e2, h16⟩ := h15.fr
            refine sd E (o_ld Try.isAgg30 (E.ev rfl) e2) rfl rfl rfl fun a E => ?_
            refine sd E (o_lenS (xs := x18.Words) Try.underlying30 (E.ev rfl) h16.isS) rfl rfl rfl fun a E => ?_
            refine sd E (o_bi (E.ev rfl) (E.ev rfl) rfl) rfl rfl rfl fun a E => ?_
            refine GL_nil ?_
            refine tgn ?_
            refine G_cond (E.ev rfl) (fun ht => ?_) (fun ht => ?_)
            · have hf1 := cT ht hf1
              refine G_seq ?_
              refine G_region ?_
              refine sd E (o_as (E.ev rfl)) rfl rfl rfl fun a E => ?_
              refine GL_nil ?_
              refine tgn ?_
              refine G_ret ?_
              refine tgr ?_
              refine ebr ?_
              refine tgr ?_
              obtain rfl := Option.some.inj hf1
              refine lpr fun hr => ?_
              subst hr
              dsimp only [m_4_1k] at hm
              refine ebr ?_
              refine ctr ?_
              refine tgr ?_
              cases hm
              have T4 : Tr (Fz κ []) s s8 := (((((((t1.no.trans t3.no).trans t4.no).trans t5.no).trans (Tr.fw1 Fz.f t6)).trans (Tr.fw1 Fz.f t7)).trans t9.no).trans t10)
              exact fin1 E rfl rfl ⟨(Tr.fin0 hκ T4), rfl⟩
            · have hf1 := cF ht hf1
              refine G_skip ?_
              refine tgn ?_
              refine G_seq ?_
              refine G_region ?_
              refine sd E (o_mv (E.ev rfl)) rfl rfl rfl fun a E => ?_
              refine sd E (o_mv (E.ev rfl)) rfl rfl rfl fun a E => ?_
              refine sd E (o_mv (E.ev rfl)) rfl rfl rfl fun a E => ?_
              obtain ⟨x19, hx7, hf1⟩ := ob_some hf1
              obtain ⟨b6, p2, g2, h17⟩ := f11.gt hx7
              refine sd E (o_ixg Try.underlying22 Try.sizeOf32 g2 (E.ev rfl) (E.ev rfl)) rfl rfl rfl fun a E => ?_
              obtain ⟨w6, e3, e4, h18⟩ := h17.fr
              refine sd E (o_ld2 Try.isAgg32 Try.sizeOf32 (E.ev rfl) e3 e4) rfl rfl rfl fun a E => ?_
              obtain ⟨a1, c1, rfl⟩ := h18.isS
              obtain ⟨⟨y7, X3, X4⟩, hx8, hf1⟩ := ob_some hf1
              refine sh E (o_ok Try.call10 (E.evs rfl) (E.ev rfl) (oq_10 _ (x1 := x19) h13 h11 h18 (ra rfl) hx8)) rfl rfl rfl ?_
              rintro a _ s9 ⟨t11, rfl, h19, h20⟩ E
              refine GL_nil ?_
              refine tgn ?_
              refine G_region ?_
              refine sd E (o_mv (E.ev rfl)) rfl rfl rfl fun a E => ?_
              refine sd E (o_mv (E.ev rfl)) rfl rfl rfl fun a E => ?_
              refine sd E (o_mv (E.ev rfl)) rfl rfl rfl fun a E => ?_
              obtain ⟨x20, hx9, hf1⟩ := ob_some hf1
              have f12 := f11.tr t11
              obtain ⟨b7, p3, g3, h21⟩ := f12.gt hx9
              refine sd E (o_ixg Try.underlying22 Try.sizeOf32 g3 (E.ev rfl) (E.ev rfl)) rfl rfl rfl fun a E => ?_
              obtain ⟨w7, e5, e6, h22⟩ := h21.fr
              refine sd E (o_ld2 Try.isAgg32 Try.sizeOf32 (E.ev rfl) e5 e6) rfl rfl rfl fun a E => ?_
              obtain ⟨a2, c2, rfl⟩ := h22.isS
              have f13 := h14.tr t11 (fun i => (nW2 (ra rfl) (ra rfl)))
              have f14 := h12.tr t11 (fun i => (nW2 (ra rfl) (ra rfl)))
              obtain ⟨⟨y8, X5, X6⟩, hx10, hf1⟩ := ob_some hf1
              refine sh E (o_ok Try.call18 (E.evs rfl) (E.ev rfl) (ok_18 _ (x1 := x20) f13 f14 h22 (ra rfl) hx10)) rfl rfl rfl ?_
              rintro a _ s10 ⟨t12, rfl, h23, h24⟩ E
              refine GL_nil ?_
              refine ebn ?_
              refine tgn ?_
              refine G_region ?_
              refine sd E (o_mv (E.ev rfl)) rfl rfl rfl fun a E => ?_
              refine sd E (o_bi (E.ev rfl) (E.ev rfl) rfl) rfl rfl rfl fun a E => ?_
              refine sd E (o_as (E.ev rfl)) rfl rfl rfl fun a E => ?_
              refine GL_nil ?_
              obtain rfl := Option.some.inj hf1
              have f15 := h20.tr t12 (fun i => (nW2 (ra rfl) (ra rfl)))
              have f16 := h19.tr t12 (fun i => (nW2 (ra rfl) (ra rfl)))
              have T5 : Tr (Fz κ []) s7 s10 := ((t10.trans (Tr.fw2 Fz.f Fz.f t11)).trans (Tr.fw2 Fz.f Fz.f t12))
              exact lpn ⟨_, _, _, _, _, _, _, rfl, rfl, T5, f15, h24, f16, h23, ((((((((((((E.nil.ad E rfl rfl).ad E rfl rfl).ad E rfl rfl).ad E rfl rfl).ad E rfl rfl).ad E rfl rfl).ad E rfl rfl).ad E rfl rfl).ad E rfl rfl).ad E rfl rfl).ad E rfl rfl).ad E rfl rfl)⟩
          · have hf1 := cF ht hf1
            refine G_exit ?_
            refine tge ?_
            obtain rfl := Option.some.inj hf1
            refine lpe fun hr => ?_
            subst hr
            refine ebk ?_
            refine ctn ?_
            exact ⟨_, _, _, _, _, _, _, hm, rfl, t10, h11, h12, h13, h14, ((((((((((((E.nil.ad E rfl rfl).ad E rfl rfl).ad E rfl rfl).ad E rfl rfl).ad E rfl rfl).ad E rfl rfl).ad E rfl rfl).ad E rfl rfl).ad E rfl rfl).ad E rfl rfl).ad E rfl rfl).ad E rfl rfl)⟩
        · rintro a _ ⟨x21, x22, x23, x24, x25, x26, s11, hm, rfl, t13, h25, h26, h27, h28, E⟩
          dsimp only [m_4_1k] at hm
          refine tgn ?_
          refine G_seq ?_
          refine G_region ?_
          refine sd E (o_mv (E.ev rfl)) rfl rfl rfl fun a E => ?_
          refine sd E (o_mv (E.ev rfl)) rfl rfl rfl fun a E => ?_
          have f17 := (((((((h3.tr t1).tr t3).tr t4).tr t5).tr t6).tr t7).tr t9).tr t13
          refine sh E (o_ok Try.call20 (E.evs rfl) (E.ev rfl) (ok_20 _ ((κ + 5), 0) (x0 := x3) f17)) rfl rfl rfl ?_
          rintro a _ s12 ⟨t14, b8, b9, w8, rfl, o1, o2, h29⟩ E
          obtain ⟨X7, hx11, hm⟩ := ob_some hm
          have f18 := h25.trN t14
          refine sh E (o_ok Try.call19 (E.evs rfl) (E.ev rfl) (oq_19 _ f18 o1 o2 h29 (ra rfl) hx11)) rfl rfl rfl ?_
          rintro a _ s13 ⟨t15, h30⟩ E
          refine GL_nil ?_
          refine tgn ?_
          refine G_seq ?_
          refine G_region ?_
          refine sd E (o_mv (E.ev rfl)) rfl rfl rfl fun a E => ?_
          refine sd E (o_mv (E.ev rfl)) rfl rfl rfl fun a E => ?_
          have f19 := (h26.trN t14).tr t15 (fun i => (nW2 (ra rfl) (ra rfl)))
          have f20 := (f17.tr t14).tr t15
          obtain ⟨X8, hx12, hm⟩ := ob_some hm
          refine sh E (o_ok Try.call21 (E.evs rfl) (E.ev rfl) (ok_21 _ (x1 := x3) f19 f20 hx12)) rfl rfl rfl ?_
          rintro a _ s14 ⟨t16, h31⟩ E
          refine GL_nil ?_
          refine tgn ?_
          refine G_seq ?_
          refine G_region ?_
          refine sd E (o_mv (E.ev rfl)) rfl rfl rfl fun a E => ?_
          refine sd E (o_mv (E.ev rfl)) rfl rfl rfl fun a E => ?_
          have f21 := h30.tr t16 (fun i => (nW1 (ra rfl)))
          obtain ⟨⟨y9, y10, X9⟩, hx13, hm⟩ := ob_some hm
          refine sh E (o_ok Try.call9 (E.evs rfl) (E.ev rfl) (ok_9 _ (κ + 6) (x1 := 0) (x2 := IntKind.wrap .i64 ((IntKind.wrap .i64 (Int.tmod x0 20)) + 1)) (x3 := 1) f21 hx13)) rfl rfl rfl ?_
          rintro a _ s15 ⟨t17, b10, rfl, h33, h32⟩ E
          refine sd E (o_mv (E.ev rfl)) rfl rfl rfl fun a E => ?_
          refine sd E (o_ext (v := .pointer (some ⟨b10, 0, none⟩)) (E.ev rfl) rfl) rfl rfl rfl fun a E => ?_
          refine sd E (o_ext (v := .int .i64 y10) (E.ev rfl) rfl) rfl rfl rfl fun a E => ?_
          refine sd E (o_as (E.ev rfl)) rfl rfl rfl fun a E => ?_
          refine sd E (o_as (E.ev rfl)) rfl rfl rfl fun a E => ?_
          refine GL_nil ?_
          refine tgn ?_
          refine G_seq ?_
          refine G_region ?_
          refine sd E (o_mv (E.ev rfl)) rfl rfl rfl fun a E => ?_
          refine sd E (o_mv (E.ev rfl)) rfl rfl rfl fun a E => ?_
          have f22 := h31.tr t17 (fun i => (nW1 (ra rfl)))
          obtain ⟨⟨y11, X10⟩, hx14, hm⟩ := ob_some hm
          refine sh E (o_ok Try.call17 (E.evs rfl) (E.ev rfl) (ok_17 _ (κ + 7) (x1 := 0) (x2 := IntKind.wrap .i64 ((IntKind.wrap .i64 (Int.tmod x0 20)) + 1)) (x3 := 1) f22 hx14)) rfl rfl rfl ?_
          rintro a _ s16 ⟨t18, b11, rfl, h35, h34⟩ E
          refine sd E (o_as (E.ev rfl)) rfl rfl rfl fun a E => ?_
          refine GL_nil ?_
          refine tgn ?_
          refine G_seq ?_
          refine G_seq ?_
          obtain ⟨t19, hc3, hm⟩ := ob_some hm
          refine G_drwm (κ + 8) (by rfl) [0, 1, 2, 3, 5, 6, 7, 8, 4, 9, 10, 11] (by kernel_rfl) (fun a' w' => ∃ s', w' = s'.w ∧ Tr No s16 s' ∧ En [] 253 a' [(117, .bool t19), (2, w2), (4, w4), (10, .bool x21), (11, .int .i64 (IntKind.wrap .i64 ((IntKind.wrap .i64 (Int.tmod x0 20)) + 1))), (12, .pointer (some ⟨b1, 0, none⟩)), (13, .pointer (some ⟨b2, 0, none⟩)), (14, .pointer (some ⟨b10, 0, none⟩)), (15, .int .i64 y10), (16, .pointer (some ⟨b11, 0, none⟩))]) ?_ ?_
          · intro s17 t20
            refine dp E rfl (fun w => (o_mv (E.ev rfl))) rfl rfl rfl fun a E => ?_
            refine dp E rfl (fun w => (o_bi (E.ev rfl) (E.ev rfl) rfl)) rfl rfl rfl fun a E => ?_
            refine dp E rfl (fun w => (o_mv (E.ev rfl))) rfl rfl rfl fun a E => ?_
            refine bcase (E.ev (x := .tmp 108) rfl) (fun ht => ?_) (fun ht => ?_)
            · have hc3 := cT ht hc3
              rw [ht] at E
              refine dk E rfl rfl rfl rfl fun a E => ?_
              refine dk E rfl rfl rfl rfl fun a E => ?_
              refine dk E rfl rfl rfl rfl fun a E => ?_
              refine dk E rfl rfl rfl rfl fun a E => ?_
              refine dk E rfl rfl rfl rfl fun a E => ?_
              refine dk E rfl rfl rfl rfl fun a E => ?_
              refine dk E rfl rfl rfl rfl fun a E => ?_
              refine dk E rfl rfl rfl rfl fun a E => ?_
              refine dp E rfl (fun w => (o_pickT (E.ev rfl) (E.ev rfl))) rfl rfl rfl fun a E => ?_
              obtain rfl := Option.some.inj hc3
              exact gd_nil ⟨_, rfl, t20, ((((((((((E.nil.ad E rfl rfl).ad E rfl rfl).ad E rfl rfl).ad E rfl rfl).ad E rfl rfl).ad E rfl rfl).ad E rfl rfl).ad E rfl rfl).ad E rfl rfl).ad E rfl rfl)⟩
            · have hc3 := cF ht hc3
              rw [ht] at E
              refine dp E rfl (fun w => (o_mv (E.ev rfl))) rfl rfl rfl fun a E => ?_
              refine dp E rfl (fun w => (o_mv (E.ev rfl))) rfl rfl rfl fun a E => ?_
              refine dp E rfl (fun w => (o_nc (E.ev rfl))) rfl rfl rfl fun a E => ?_
              have f23 := h34.trN t20
              obtain ⟨w9, o3, h36⟩ := f23
              refine dp E rfl (fun w => (o_fa Try.underlying55 rfl Try.sizeOf22 (E.ev rfl))) rfl rfl rfl fun a E => ?_
              refine dr E rfl (fun s' t => (o_ld Try.isAgg22 (E.ev rfl) (((o3.trN t).cell _).trans rfl))) rfl rfl rfl (by kernel_rfl) fun a E => ?_
              have f24 := (h32.tr t18 (fun i => (nW1 (ra rfl)))).trN t20
              obtain ⟨y12, hx15, hc3⟩ := ob_some hc3
              refine dh E rfl (o_ok Try.call12 (E.evs rfl) (E.ev rfl) (bd_frozen id fun tr => ok_12 _ tr f24 hx15)) (fun _ _ h => h.1) rfl rfl rfl (by kernel_rfl) ?_
              rintro a w10 s18 ⟨t21, _, rfl, h37⟩ E
              have f25 := h36.tr t21
              obtain ⟨y13, hx16, hc3⟩ := ob_some hc3
              refine dh E rfl (o_ok Try.call11 (E.evs rfl) (E.ev rfl) (ok_11 _ (x0 := y12) (x1 := y11.L) h37 f25 hx16)) (fun _ _ h => h.1) rfl rfl rfl (by kernel_rfl) ?_
              rintro a _ s19 ⟨t22, rfl⟩ E
              refine dp E rfl (fun w => (o_not (E.ev rfl))) rfl rfl rfl fun a E => ?_
              refine dp E rfl (fun w => (o_pickF (E.ev rfl) (E.ev rfl))) rfl rfl rfl fun a E => ?_
              obtain rfl := Option.some.inj hc3
              exact gd_nil ⟨_, rfl, ((t20.trans t21).trans t22), ((((((((((E.nil.ad E rfl rfl).ad E rfl rfl).ad E rfl rfl).ad E rfl rfl).ad E rfl rfl).ad E rfl rfl).ad E rfl rfl).ad E rfl rfl).ad E rfl rfl).ad E rfl rfl)⟩
          rintro a _ ⟨s20, rfl, t23, E⟩
          refine tgn ?_
          refine G_cond (E.ev rfl) (fun ht => ?_) (fun ht => ?_)
          · have hm := cT ht hm
            refine G_seq ?_
            refine G_region ?_
            refine sd E (o_as (E.ev rfl)) rfl rfl rfl fun a E => ?_
            refine GL_nil ?_
            refine tgn ?_
            refine G_ret ?_
            refine tgr ?_
            cases hm
            have T6 : Tr (Fz κ []) s s20 := (((((((((((((t1.no.trans t3.no).trans t4.no).trans t5.no).trans (Tr.fw1 Fz.f t6)).trans (Tr.fw1 Fz.f t7)).trans t9.no).trans t13).trans t14.no).trans (Tr.fw2 Fz.f Fz.f t15)).trans (Tr.fw1 Fz.f t16)).trans (Tr.fw1 Fz.f t17)).trans (Tr.fw1 Fz.f t18)).trans t23.no)
            exact fin1 E rfl rfl ⟨(Tr.fin0 hκ T6), rfl⟩
          · have hm := cF ht hm
            refine G_skip ?_
            refine tgn ?_
            refine G_seq ?_
            refine G_seq ?_
            refine G_region ?_
            refine sd E (o_as (E.ev rfl)) rfl rfl rfl fun a E => ?_
            refine GL_nil ?_
            refine tgn ?_
            obtain ⟨r2, hl2, hm⟩ := ob_some hm
            refine G_mid1 (fun a' w' => ∃ x27 x28 x29 x30 x31 x32 s', m_4_2k x0 x4 (.inl (x27, x28, x29, x30, x31, x32)) = some r0y ∧ w' = s'.w ∧ Tr (Fz κ []) s20 s' ∧ DiskAt (κ + 1) s' b1 x29 ∧ RDiskAt (κ + 2) s' b2 x30 ∧ LogAt (κ + 6) b1 s' b10 x31 ∧ RLogAt (κ + 7) b2 s' b11 x32 ∧ En [] 253 a' [(10, .bool x27), (18, .int .i64 x28), (2, w2), (4, w4), (11, .int .i64 (IntKind.wrap .i64 ((IntKind.wrap .i64 (Int.tmod x0 20)) + 1))), (12, .pointer (some ⟨b1, 0, none⟩)), (13, .pointer (some ⟨b2, 0, none⟩)), (14, .pointer (some ⟨b10, 0, none⟩)), (15, .int .i64 y10), (16, .pointer (some ⟨b11, 0, none⟩))]) ?_ ?_
            · refine G_block ?_
              have f26 := (h33.tr t18 (fun i => (nW1 (ra rfl)))).trN t23
              have f27 := h35.trN t23
              have f28 := (h32.tr t18 (fun i => (nW1 (ra rfl)))).trN t23
              have f29 := h34.trN t23
              refine G_lp hl2 (fun st a' w' => ∃ x27 x28 x29 x30 x31 x32 s', st = (x27, x28, x29, x30, x31, x32) ∧ w' = s'.w ∧ Tr (Fz κ []) s20 s' ∧ DiskAt (κ + 1) s' b1 x29 ∧ RDiskAt (κ + 2) s' b2 x30 ∧ LogAt (κ + 6) b1 s' b10 x31 ∧ RLogAt (κ + 7) b2 s' b11 x32 ∧ En [] 253 a' [(10, .bool x27), (18, .int .i64 x28), (2, w2), (4, w4), (11, .int .i64 (IntKind.wrap .i64 ((IntKind.wrap .i64 (Int.tmod x0 20)) + 1))), (12, .pointer (some ⟨b1, 0, none⟩)), (13, .pointer (some ⟨b2, 0, none⟩)), (14, .pointer (some ⟨b10, 0, none⟩)), (15, .int .i64 y10), (16, .pointer (some ⟨b11, 0, none⟩))]) ⟨_, _, _, _, _, _, _, rfl, rfl, (Tr.refl _ _), f26, f27, f28, f29, ((((((((((E.nil.ad E rfl rfl).ad E rfl rfl).ad E rfl rfl).ad E rfl rfl).ad E rfl rfl).ad E rfl rfl).ad E rfl rfl).ad E rfl rfl).ad E rfl rfl).ad E rfl rfl)⟩ ?_
              rintro _ a _ x ⟨x33, x34, x35, x36, x37, x38, s21, rfl, rfl, t24, h38, h39, h40, h41, E⟩ hf2
              dsimp only [m_4_2b] at hf2
              refine G_seq ?_
              refine G_seq ?_
              refine G_region ?_
              refine sd E (o_mv (E.ev rfl)) rfl rfl rfl fun a E => ?_
              refine sd E (o_mv (E.ev rfl)) rfl rfl rfl fun a E => ?_
              have f30 := ((((((((((((((h2.tr t1).tr t3).tr t4).tr t5).tr t6).tr t7).tr t9).tr t13).tr t14).tr t15).tr t16).tr t17).tr t18).tr t23).tr t24
              refine sd E (o_lenS (xs := x2) Try.underlying22 (E.ev rfl) f30.isS) rfl rfl rfl fun a E => ?_
              refine sd E (o_bi (E.ev rfl) (E.ev rfl) rfl) rfl rfl rfl fun a E => ?_
              refine GL_nil ?_
              refine tgn ?_
              refine G_cond (E.ev rfl) (fun ht => ?_) (fun ht => ?_)
              · have hf2 := cT ht hf2
                refine G_skip ?_
                refine tgn ?_
                refine G_seq ?_
                refine G_block ?_
                refine G_seq ?_
                refine G_seq ?_
                refine G_region ?_
                refine sd E (o_mv (E.ev rfl)) rfl rfl rfl fun a E => ?_
                refine sd E (o_mv (E.ev rfl)) rfl rfl rfl fun a E => ?_
                obtain ⟨x39, hx17, hf2⟩ := ob_some hf2
                obtain ⟨b12, p4, g4, h42⟩ := f30.gt hx17
                refine sd E (o_ixg Try.underlying22 Try.sizeOf32 g4 (E.ev rfl) (E.ev rfl)) rfl rfl rfl fun a E => ?_
                refine sd E (o_fa Try.underlying32 rfl Try.sizeOf30 (E.ev rfl)) rfl rfl rfl fun a E => ?_
                obtain ⟨w11, e7, e8, h43⟩ := h42.fr
                refine sd E (o_ld Try.isAgg30 (E.ev rfl) e8) rfl rfl rfl fun a E => ?_
                refine sd E (o_lenS (xs := x39.Words) Try.underlying30 (E.ev rfl) h43.isS) rfl rfl rfl fun a E => ?_
                refine sd E (o_bi (E.ev rfl) (E.ev rfl) rfl) rfl rfl rfl fun a E => ?_
                refine GL_nil ?_
                refine tgn ?_
                refine G_cond (E.ev rfl) (fun ht => ?_) (fun ht => ?_)
                · have hf2 := cT ht hf2
                  refine G_seq ?_
                  refine G_region ?_
                  refine sd E (o_as (E.ev rfl)) rfl rfl rfl fun a E => ?_
                  refine GL_nil ?_
                  refine tgn ?_
                  refine G_ret ?_
                  refine tgr ?_
                  refine ebr ?_
                  refine tgr ?_
                  obtain rfl := Option.some.inj hf2
                  refine lpr fun hr => ?_
                  subst hr
                  dsimp only [m_4_2k] at hm
                  refine ebr ?_
                  refine ctr ?_
                  refine tgr ?_
                  cases hm
                  have T7 : Tr (Fz κ []) s s21 := ((((((((((((((t1.no.trans t3.no).trans t4.no).trans t5.no).trans (Tr.fw1 Fz.f t6)).trans (Tr.fw1 Fz.f t7)).trans t9.no).trans t13).trans t14.no).trans (Tr.fw2 Fz.f Fz.f t15)).trans (Tr.fw1 Fz.f t16)).trans (Tr.fw1 Fz.f t17)).trans (Tr.fw1 Fz.f t18)).trans t23.no).trans t24)
                  exact fin1 E rfl rfl ⟨(Tr.fin0 hκ T7), rfl⟩
                · have hf2 := cF ht hf2
                  refine G_skip ?_
                  refine tgn ?_
                  refine G_seq ?_
                  refine G_region ?_
                  refine sd E (o_mv (E.ev rfl)) rfl rfl rfl fun a E => ?_
                  refine sd E (o_mv (E.ev rfl)) rfl rfl rfl fun a E => ?_
                  refine sd E (o_mv (E.ev rfl)) rfl rfl rfl fun a E => ?_
                  obtain ⟨x40, hx18, hf2⟩ := ob_some hf2
                  obtain ⟨b13, p5, g5, h44⟩ := f30.gt hx18
                  refine sd E (o_ixg Try.underlying22 Try.sizeOf32 g5 (E.ev rfl) (E.ev rfl)) rfl rfl rfl fun a E => ?_
                  obtain ⟨w12, e9, e10, h45⟩ := h44.fr
                  refine sd E (o_ld2 Try.isAgg32 Try.sizeOf32 (E.ev rfl) e9 e10) rfl rfl rfl fun a E => ?_
                  obtain ⟨a3, c3, rfl⟩ := h45.isS
                  obtain ⟨⟨y14, X11, X12⟩, hx19, hf2⟩ := ob_some hf2
                  refine sh E (o_ok Try.call10 (E.evs rfl) (E.ev rfl) (oq_10 _ (x1 := x40) h40 h38 h45 (ra rfl) hx19)) rfl rfl rfl ?_
                  rintro a _ s22 ⟨t25, rfl, h46, h47⟩ E
                  refine GL_nil ?_
                  refine tgn ?_
                  refine G_region ?_
                  refine sd E (o_mv (E.ev rfl)) rfl rfl rfl fun a E => ?_
                  refine sd E (o_mv (E.ev rfl)) rfl rfl rfl fun a E => ?_
                  refine sd E (o_mv (E.ev rfl)) rfl rfl rfl fun a E => ?_
                  obtain ⟨x41, hx20, hf2⟩ := ob_some hf2
                  have f31 := f30.tr t25
                  obtain ⟨b14, p6, g6, h48⟩ := f31.gt hx20
                  refine sd E (o_ixg Try.underlying22 Try.sizeOf32 g6 (E.ev rfl) (E.ev rfl)) rfl rfl rfl fun a E => ?_
                  obtain ⟨w13, e11, e12, h49⟩ := h48.fr
                  refine sd E (o_ld2 Try.isAgg32 Try.sizeOf32 (E.ev rfl) e11 e12) rfl rfl rfl fun a E => ?_
                  obtain ⟨a4, c4, rfl⟩ := h49.isS
                  have f32 := h41.tr t25 (fun i => (nW2 (ra rfl) (ra rfl)))
                  have f33 := h39.tr t25 (fun i => (nW2 (ra rfl) (ra rfl)))
                  obtain ⟨⟨y15, X13, X14⟩, hx21, hf2⟩ := ob_some hf2
                  refine sh E (o_ok Try.call18 (E.evs rfl) (E.ev rfl) (ok_18 _ (x1 := x41) f32 f33 h49 (ra rfl) hx21)) rfl rfl rfl ?_
                  rintro a _ s23 ⟨t26, rfl, h50, h51⟩ E
                  refine GL_nil ?_
                  refine ebn ?_
                  refine tgn ?_
                  refine G_region ?_
                  refine sd E (o_mv (E.ev rfl)) rfl rfl rfl fun a E => ?_
                  refine sd E (o_bi (E.ev rfl) (E.ev rfl) rfl) rfl rfl rfl fun a E => ?_
                  refine sd E (o_as (E.ev rfl)) rfl rfl rfl fun a E => ?_
                  refine GL_nil ?_
                  obtain rfl := Option.some.inj hf2
                  have f34 := h47.tr t26 (fun i => (nW2 (ra rfl) (ra rfl)))
                  have f35 := h46.tr t26 (fun i => (nW2 (ra rfl) (ra rfl)))
                  have T8 : Tr (Fz κ []) s20 s23 := ((t24.trans (Tr.fw2 Fz.f Fz.f t25)).trans (Tr.fw2 Fz.f Fz.f t26))
                  exact lpn ⟨_, _, _, _, _, _, _, rfl, rfl, T8, f34, h51, f35, h50, ((((((((((E.nil.ad E rfl rfl).ad E rfl rfl).ad E rfl rfl).ad E rfl rfl).ad E rfl rfl).ad E rfl rfl).ad E rfl rfl).ad E rfl rfl).ad E rfl rfl).ad E rfl rfl)⟩
              · have hf2 := cF ht hf2
                refine G_exit ?_
                refine tge ?_
                obtain rfl := Option.some.inj hf2
                refine lpe fun hr => ?_
                subst hr
                refine ebk ?_
                refine ctn ?_
                exact ⟨_, _, _, _, _, _, _, hm, rfl, t24, h38, h39, h40, h41, ((((((((((E.nil.ad E rfl rfl).ad E rfl rfl).ad E rfl rfl).ad E rfl rfl).ad E rfl rfl).ad E rfl rfl).ad E rfl rfl).ad E rfl rfl).ad E rfl rfl).ad E rfl rfl)⟩
            · rintro a _ ⟨x42, x43, x44, x45, x46, x47, s24, hm, rfl, t27, h52, h53, h54, h55, E⟩
              dsimp only [m_4_2k] at hm
              refine tgn ?_
              refine G_seq ?_
              refine G_region ?_
              refine sd E (o_mv (E.ev rfl)) rfl rfl rfl fun a E => ?_
              refine sd E (o_nc (E.ev rfl)) rfl rfl rfl fun a E => ?_
              obtain ⟨w14, o4, h56⟩ := h55
              refine sd E (o_fa Try.underlying55 rfl Try.sizeOf22 (E.ev rfl)) rfl rfl rfl fun a E => ?_
              refine sd E (o_ld Try.isAgg22 (E.ev rfl) ((o4.cell _).trans rfl)) rfl rfl rfl fun a E => ?_
              refine sd E (o_as (E.ev rfl)) rfl rfl rfl fun a E => ?_
              refine GL_nil ?_
              refine tgn ?_
              refine G_seq ?_
              refine G_region ?_
              refine sd E (o_mv (E.ev rfl)) rfl rfl rfl fun a E => ?_
              refine sd E (o_mv (E.ev rfl)) rfl rfl rfl fun a E => ?_
              have f36 := ((((((((((((((h4.tr t1).tr t3).tr t4).tr t5).tr t6).tr t7).tr t9).tr t13).tr t14).tr t15).tr t16).tr t17).tr t18).tr t23).tr t27
              refine sh E (o_ok Try.call20 (E.evs rfl) (E.ev rfl) (ok_20 _ ((κ + 9), 0) (x0 := x4) f36)) rfl rfl rfl ?_
              rintro a _ s25 ⟨t28, b15, b16, w15, rfl, o5, o6, h57⟩ E
              obtain ⟨X15, hx22, hm⟩ := ob_some hm
              have f37 := h52.trN t28
              refine sh E (o_ok Try.call19 (E.evs rfl) (E.ev rfl) (oq_19 _ f37 o5 o6 h57 (ra rfl) hx22)) rfl rfl rfl ?_
              rintro a _ s26 ⟨t29, h58⟩ E
              refine GL_nil ?_
              refine tgn ?_
              refine G_seq ?_
              refine G_region ?_
              refine sd E (o_mv (E.ev rfl)) rfl rfl rfl fun a E => ?_
              refine sd E (o_mv (E.ev rfl)) rfl rfl rfl fun a E => ?_
              have f38 := (h53.trN t28).tr t29 (fun i => (nW2 (ra rfl) (ra rfl)))
              have f39 := (f36.tr t28).tr t29
              obtain ⟨X16, hx23, hm⟩ := ob_some hm
              refine sh E (o_ok Try.call21 (E.evs rfl) (E.ev rfl) (ok_21 _ (x1 := x4) f38 f39 hx23)) rfl rfl rfl ?_
              rintro a _ s27 ⟨t30, h59⟩ E
              refine GL_nil ?_
              refine tgn ?_
              refine G_seq ?_
              refine G_region ?_
              refine sd E (o_mv (E.ev rfl)) rfl rfl rfl fun a E => ?_
              refine sd E (o_mv (E.ev rfl)) rfl rfl rfl fun a E => ?_
              have f40 := h58.tr t30 (fun i => (nW1 (ra rfl)))
              obtain ⟨⟨y16, y17, X17⟩, hx24, hm⟩ := ob_some hm
              refine sh E (o_ok Try.call9 (E.evs rfl) (E.ev rfl) (ok_9 _ (κ + 10) (x1 := 0) (x2 := IntKind.wrap .i64 ((IntKind.wrap .i64 (Int.tmod x0 20)) + 1)) (x3 := 1) f40 hx24)) rfl rfl rfl ?_
              rintro a _ s28 ⟨t31, b17, rfl, h61, h60⟩ E
              refine sd E (o_mv (E.ev rfl)) rfl rfl rfl fun a E => ?_
              refine sd E (o_ext (v := .pointer (some ⟨b17, 0, none⟩)) (E.ev rfl) rfl) rfl rfl rfl fun a E => ?_
              refine sd E (o_ext (v := .int .i64 y17) (E.ev rfl) rfl) rfl rfl rfl fun a E => ?_
              refine sd E (o_as (E.ev rfl)) rfl rfl rfl fun a E => ?_
              refine sd E (o_as (E.ev rfl)) rfl rfl rfl fun a E => ?_
              refine GL_nil ?_
              refine tgn ?_
              refine G_seq ?_
              refine G_region ?_
              refine sd E (o_mv (E.ev rfl)) rfl rfl rfl fun a E => ?_
              refine sd E (o_mv (E.ev rfl)) rfl rfl rfl fun a E => ?_
              have f41 := h59.tr t31 (fun i => (nW1 (ra rfl)))
              obtain ⟨⟨y18, X18⟩, hx25, hm⟩ := ob_some hm
              refine sh E (o_ok Try.call17 (E.evs rfl) (E.ev rfl) (ok_17 _ (κ + 11) (x1 := 0) (x2 := IntKind.wrap .i64 ((IntKind.wrap .i64 (Int.tmod x0 20)) + 1)) (x3 := 1) f41 hx25)) rfl rfl rfl ?_
              rintro a _ s29 ⟨t32, b18, rfl, h63, h62⟩ E
              refine sd E (o_as (E.ev rfl)) rfl rfl rfl fun a E => ?_
              refine GL_nil ?_
              refine tgn ?_
              refine G_seq ?_
              refine G_seq ?_
              obtain ⟨t33, hc4, hm⟩ := ob_some hm
              refine G_drwm (κ + 12) (by rfl) [0, 1, 2, 3, 5, 6, 7, 8, 4, 9, 10, 11] (by kernel_rfl) (fun a' w' => ∃ s', w' = s'.w ∧ Tr No s29 s' ∧ En [] 253 a' [(174, .bool t33), (10, .bool x42), (14, .pointer (some ⟨b17, 0, none⟩)), (19, w14)]) ?_ ?_
              · intro s30 t34
                refine dp E rfl (fun w => (o_mv (E.ev rfl))) rfl rfl rfl fun a E => ?_
                refine dp E rfl (fun w => (o_bi (E.ev rfl) (E.ev rfl) rfl)) rfl rfl rfl fun a E => ?_
                refine dp E rfl (fun w => (o_mv (E.ev rfl))) rfl rfl rfl fun a E => ?_
                refine bcase (E.ev (x := .tmp 165) rfl) (fun ht => ?_) (fun ht => ?_)
                · have hc4 := cT ht hc4
                  rw [ht] at E
                  refine dk E rfl rfl rfl rfl fun a E => ?_
                  refine dk E rfl rfl rfl rfl fun a E => ?_
                  refine dk E rfl rfl rfl rfl fun a E => ?_
                  refine dk E rfl rfl rfl rfl fun a E => ?_
                  refine dk E rfl rfl rfl rfl fun a E => ?_
                  refine dk E rfl rfl rfl rfl fun a E => ?_
                  refine dk E rfl rfl rfl rfl fun a E => ?_
                  refine dk E rfl rfl rfl rfl fun a E => ?_
                  refine dp E rfl (fun w => (o_pickT (E.ev rfl) (E.ev rfl))) rfl rfl rfl fun a E => ?_
                  obtain rfl := Option.some.inj hc4
                  exact gd_nil ⟨_, rfl, t34, ((((E.nil.ad E rfl rfl).ad E rfl rfl).ad E rfl rfl).ad E rfl rfl)⟩
                · have hc4 := cF ht hc4
                  rw [ht] at E
                  refine dp E rfl (fun w => (o_mv (E.ev rfl))) rfl rfl rfl fun a E => ?_
                  refine dp E rfl (fun w => (o_mv (E.ev rfl))) rfl rfl rfl fun a E => ?_
                  refine dp E rfl (fun w => (o_nc (E.ev rfl))) rfl rfl rfl fun a E => ?_
                  have f42 := h62.trN t34
                  obtain ⟨w16, o7, h64⟩ := f42
                  refine dp E rfl (fun w => (o_fa Try.underlying55 rfl Try.sizeOf22 (E.ev rfl))) rfl rfl rfl fun a E => ?_
                  refine dr E rfl (fun s' t => (o_ld Try.isAgg22 (E.ev rfl) (((o7.trN t).cell _).trans rfl))) rfl rfl rfl (by kernel_rfl) fun a E => ?_
                  have f43 := (h60.tr t32 (fun i => (nW1 (ra rfl)))).trN t34
                  obtain ⟨y19, hx26, hc4⟩ := ob_some hc4
                  refine dh E rfl (o_ok Try.call12 (E.evs rfl) (E.ev rfl) (bd_frozen id fun tr => ok_12 _ tr f43 hx26)) (fun _ _ h => h.1) rfl rfl rfl (by kernel_rfl) ?_
                  rintro a w17 s31 ⟨t35, _, rfl, h65⟩ E
                  have f44 := h64.tr t35
                  obtain ⟨y20, hx27, hc4⟩ := ob_some hc4
                  refine dh E rfl (o_ok Try.call11 (E.evs rfl) (E.ev rfl) (ok_11 _ (x0 := y19) (x1 := y18.L) h65 f44 hx27)) (fun _ _ h => h.1) rfl rfl rfl (by kernel_rfl) ?_
                  rintro a _ s32 ⟨t36, rfl⟩ E
                  refine dp E rfl (fun w => (o_not (E.ev rfl))) rfl rfl rfl fun a E => ?_
                  refine dp E rfl (fun w => (o_pickF (E.ev rfl) (E.ev rfl))) rfl rfl rfl fun a E => ?_
                  obtain rfl := Option.some.inj hc4
                  exact gd_nil ⟨_, rfl, ((t34.trans t35).trans t36), ((((E.nil.ad E rfl rfl).ad E rfl rfl).ad E rfl rfl).ad E rfl rfl)⟩
              rintro a _ ⟨s33, rfl, t37, E⟩
              refine tgn ?_
              refine G_cond (E.ev rfl) (fun ht => ?_) (fun ht => ?_)
              · have hm := cT ht hm
                refine G_seq ?_
                refine G_region ?_
                refine sd E (o_as (E.ev rfl)) rfl rfl rfl fun a E => ?_
                refine GL_nil ?_
                refine tgn ?_
                refine G_ret ?_
                refine tgr ?_
                cases hm
                have T9 : Tr (Fz κ []) s s33 := ((((((((((((((((((((t1.no.trans t3.no).trans t4.no).trans t5.no).trans (Tr.fw1 Fz.f t6)).trans (Tr.fw1 Fz.f t7)).trans t9.no).trans t13).trans t14.no).trans (Tr.fw2 Fz.f Fz.f t15)).trans (Tr.fw1 Fz.f t16)).trans (Tr.fw1 Fz.f t17)).trans (Tr.fw1 Fz.f t18)).trans t23.no).trans t27).trans t28.no).trans (Tr.fw2 Fz.f Fz.f t29)).trans (Tr.fw1 Fz.f t30)).trans (Tr.fw1 Fz.f t31)).trans (Tr.fw1 Fz.f t32)).trans t37.no)
                exact fin1 E rfl rfl ⟨(Tr.fin0 hκ T9), rfl⟩
              · have hm := cF ht hm
                refine G_skip ?_
                refine tgn ?_
                refine G_seq ?_
                refine G_region ?_
                refine sd E (o_mv (E.ev rfl)) rfl rfl rfl fun a E => ?_
                have f45 := (h60.tr t32 (fun i => (nW1 (ra rfl)))).trN t37
                obtain ⟨y21, hx28, hm⟩ := ob_some hm
                refine sh E (o_ok Try.call12 (E.evs rfl) (E.ev rfl) (bd_frozen id fun tr => ok_12 _ tr f45 hx28)) rfl rfl rfl ?_
                rintro a w18 s34 ⟨t38, _, rfl, h66⟩ E
                refine sd E (o_as (E.ev rfl)) rfl rfl rfl fun a E => ?_
                refine GL_nil ?_
                refine tgn ?_
                refine G_seq ?_
                refine G_seq ?_
                have f46 := ((((((h56.tr t28).tr t29).tr t30).tr t31).tr t32).tr t37).tr t38
                have f47 := ((((((o4.trN t28).tr t29 (nW2 (ra rfl) (ra rfl))).tr t30 (nW1 (ra rfl))).tr t31 (nW1 (ra rfl))).tr t32 (nW1 (ra rfl))).trN t37).trN t38
                have h67 : RLogAt (κ + 7) b2 s34 b11 (⟨x47.From, x47.N, x47.Epoch, x47.L⟩ : RLog) := ⟨_, f47, f46⟩
                obtain ⟨t39, hc5, hm⟩ := ob_some hm
                refine G_regm (fun a' w' => ∃ s', w' = s'.w ∧ Tr (Fz κ []) s34 s' ∧ En [] 253 a' [(189, .bool t39), (10, .bool x42), (19, w14), (20, w18)]) ?_ ?_
                · refine sd E (o_mv (E.ev rfl)) rfl rfl rfl fun a E => ?_
                  refine sd E (o_lenS (xs := y21) Try.underlying22 (E.ev rfl) h66.isS) rfl rfl rfl fun a E => ?_
                  refine sd E (o_mv (E.ev rfl)) rfl rfl rfl fun a E => ?_
                  refine sd E (o_lenS (xs := x47.L) Try.underlying22 (E.ev rfl) f46.isS) rfl rfl rfl fun a E => ?_
                  refine sd E (o_bi (E.ev rfl) (E.ev rfl) rfl) rfl rfl rfl fun a E => ?_
                  refine sd E (o_mv (E.ev rfl)) rfl rfl rfl fun a E => ?_
                  refine bcase (E.ev (x := .tmp 182) rfl) (fun ht => ?_) (fun ht => ?_)
                  · have hc5 := cT ht hc5
                    rw [ht] at E
                    refine sd E (o_mv (E.ev rfl)) rfl rfl rfl fun a E => ?_
                    refine sd E (o_mv (E.ev rfl)) rfl rfl rfl fun a E => ?_
                    refine sd E (o_mv (E.ev rfl)) rfl rfl rfl fun a E => ?_
                    refine sd E (o_lenS (xs := y21) Try.underlying22 (E.ev rfl) h66.isS) rfl rfl rfl fun a E => ?_
                    obtain ⟨x48, hx29, hc5⟩ := ob_some hc5
                    obtain ⟨w19, g7, h68⟩ := f46.sl hx29
                    refine sd E (o_slH Try.underlying22 Try.sizeOf32 g7 (E.ev rfl) (E.ev rfl)) rfl rfl rfl fun a E => ?_
                    obtain ⟨y22, hx30, hc5⟩ := ob_some hc5
                    refine sh E (o_ok Try.call11 (E.evs rfl) (E.ev rfl) (ok_11 _ (x0 := y21) (x1 := x48) h66 h68 hx30)) rfl rfl rfl ?_
                    rintro a _ s35 ⟨t40, rfl⟩ E
                    refine sd E (o_pickT (E.ev rfl) (E.ev rfl)) rfl rfl rfl fun a E => ?_
                    obtain rfl := Option.some.inj hc5
                    exact GL_nil ⟨_, rfl, t40.no, ((((E.nil.ad E rfl rfl).ad E rfl rfl).ad E rfl rfl).ad E rfl rfl)⟩
                  · have hc5 := cF ht hc5
                    rw [ht] at E
                    refine sk E rfl rfl rfl fun a E => ?_
                    refine sk E rfl rfl rfl fun a E => ?_
                    refine sk E rfl rfl rfl fun a E => ?_
                    refine sk E rfl rfl rfl fun a E => ?_
                    refine sk E rfl rfl rfl fun a E => ?_
                    refine sk E rfl rfl rfl fun a E => ?_
                    refine sd E (o_pickF (E.ev rfl) (E.ev rfl)) rfl rfl rfl fun a E => ?_
                    obtain rfl := Option.some.inj hc5
                    exact GL_nil ⟨_, rfl, (Tr.refl _ _), ((((E.nil.ad E rfl rfl).ad E rfl rfl).ad E rfl rfl).ad E rfl rfl)⟩
                rintro a _ ⟨s36, rfl, t41, E⟩
                refine tgn ?_
                refine G_cond (E.ev rfl) (fun ht => ?_) (fun ht => ?_)
                · have hm := cT ht hm
                  refine G_seq ?_
                  refine G_region ?_
                  refine sd E (o_as (E.ev rfl)) rfl rfl rfl fun a E => ?_
                  refine GL_nil ?_
                  refine tgn ?_
                  refine G_ret ?_
                  refine tgr ?_
                  cases hm
                  have T10 : Tr (Fz κ []) s s36 := ((((((((((((((((((((((t1.no.trans t3.no).trans t4.no).trans t5.no).trans (Tr.fw1 Fz.f t6)).trans (Tr.fw1 Fz.f t7)).trans t9.no).trans t13).trans t14.no).trans (Tr.fw2 Fz.f Fz.f t15)).trans (Tr.fw1 Fz.f t16)).trans (Tr.fw1 Fz.f t17)).trans (Tr.fw1 Fz.f t18)).trans t23.no).trans t27).trans t28.no).trans (Tr.fw2 Fz.f Fz.f t29)).trans (Tr.fw1 Fz.f t30)).trans (Tr.fw1 Fz.f t31)).trans (Tr.fw1 Fz.f t32)).trans t37.no).trans t38.no).trans t41)
                  exact fin1 E rfl rfl ⟨(Tr.fin0 hκ T10), rfl⟩
                · have hm := cF ht hm
                  refine G_skip ?_
                  refine tgn ?_
                  refine G_seq ?_
                  refine G_region ?_
                  refine sd E (o_as (E.ev rfl)) rfl rfl rfl fun a E => ?_
                  refine GL_nil ?_
                  refine tgn ?_
                  obtain ⟨r3, hl3, hm⟩ := ob_some hm
                  refine G_mid (fun a' w' => ∃ x49 s', m_4_3k x47 y21 x49 = some r0y ∧ w' = s'.w ∧ Tr (Fz κ []) s36 s' ∧ En [] 253 a' [(21, .int .i64 x49), (10, .bool x42), (19, w14), (20, w18)]) ?_ ?_
                  · refine G_block ?_
                    refine G_lp hl3 (fun st a' w' => ∃ x49 s', st = x49 ∧ w' = s'.w ∧ Tr (Fz κ []) s36 s' ∧ En [] 253 a' [(21, .int .i64 x49), (10, .bool x42), (19, w14), (20, w18)]) ⟨_, _, rfl, rfl, (Tr.refl _ _), ((((E.nil.ad E rfl rfl).ad E rfl rfl).ad E rfl rfl).ad E rfl rfl)⟩ ?_
                    rintro x50 a _ x ⟨_, s37, rfl, rfl, t42, E⟩ hf3
                    dsimp only [m_4_3b] at hf3
                    refine G_seq ?_
                    refine G_seq ?_
                    obtain ⟨t43, hc6, hf3⟩ := ob_some hf3
                    refine G_drwm (κ + 13) (by rfl) [0, 1, 2, 3, 4, 5, 6, 7, 8, 9, 10, 11, 12, 13, 14, 15, 16, 17, 18, 19, 20, 21, 22] (by kernel_rfl) (fun a' w' => ∃ s', w' = s'.w ∧ Tr No s37 s' ∧ En [] 253 a' [(212, .bool t43), (10, .bool x42), (19, w14), (20, w18), (21, .int .i64 x50)]) ?_ ?_
                    · intro s38 t44
                      refine dp E rfl (fun w => (o_mv (E.ev rfl))) rfl rfl rfl fun a E => ?_
                      refine dp E rfl (fun w => (o_mv (E.ev rfl))) rfl rfl rfl fun a E => ?_
                      have f48 := ((h66.tr t41).tr t42).tr t44
                      refine dp E rfl (fun w => (o_lenS (xs := y21) Try.underlying22 (E.ev rfl) f48.isS)) rfl rfl rfl fun a E => ?_
                      refine dp E rfl (fun w => (o_bi (E.ev rfl) (E.ev rfl) rfl)) rfl rfl rfl fun a E => ?_
                      refine dp E rfl (fun w => (o_mv (E.ev rfl))) rfl rfl rfl fun a E => ?_
                      refine bcase (E.ev (x := .tmp 194) rfl) (fun ht => ?_) (fun ht => ?_)
                      · have hc6 := cT ht hc6
                        rw [ht] at E
                        refine dp E rfl (fun w => (o_mv (E.ev rfl))) rfl rfl rfl fun a E => ?_
                        refine dp E rfl (fun w => (o_mv (E.ev rfl))) rfl rfl rfl fun a E => ?_
                        have f49 := ((f46.tr t41).tr t42).tr t44
                        refine dp E rfl (fun w => (o_lenS (xs := x47.L) Try.underlying22 (E.ev rfl) f49.isS)) rfl rfl rfl fun a E => ?_
                        refine dp E rfl (fun w => (o_bi (E.ev rfl) (E.ev rfl) rfl)) rfl rfl rfl fun a E => ?_
                        refine dp E rfl (fun w => (o_pickT (E.ev rfl) (E.ev rfl))) rfl rfl rfl fun a E => ?_
                        refine dp E rfl (fun w => (o_mv (E.ev rfl))) rfl rfl rfl fun a E => ?_
                        refine bcase (E.ev (x := .tmp 200) rfl) (fun ht => ?_) (fun ht => ?_)
                        · have hc6 := cT ht hc6
                          rw [ht] at E
                          refine dp E rfl (fun w => (o_mv (E.ev rfl))) rfl rfl rfl fun a E => ?_
                          refine dp E rfl (fun w => (o_mv (E.ev rfl))) rfl rfl rfl fun a E => ?_
                          refine dp E rfl (fun w => (o_mv (E.ev rfl))) rfl rfl rfl fun a E => ?_
                          refine dp E rfl (fun w => (o_bi (E.ev rfl) (E.ev rfl) rfl)) rfl rfl rfl fun a E => ?_
                          obtain ⟨x51, hx31, hc6⟩ := ob_some hc6
                          obtain ⟨w20, g8, h69⟩ := f48.sl hx31
                          refine dp E rfl (fun w => (o_slLH Try.underlying22 Try.sizeOf32 g8 (E.ev rfl) (E.ev rfl) (E.ev rfl))) rfl rfl rfl fun a E => ?_
                          refine dp E rfl (fun w => (o_mv (E.ev rfl))) rfl rfl rfl fun a E => ?_
                          refine dp E rfl (fun w => (o_mv (E.ev rfl))) rfl rfl rfl fun a E => ?_
                          refine dp E rfl (fun w => (o_mv (E.ev rfl))) rfl rfl rfl fun a E => ?_
                          refine dp E rfl (fun w => (o_bi (E.ev rfl) (E.ev rfl) rfl)) rfl rfl rfl fun a E => ?_
                          obtain ⟨x52, hx32, hc6⟩ := ob_some hc6
                          obtain ⟨w21, g9, h70⟩ := f49.sl hx32
                          refine dp E rfl (fun w => (o_slLH Try.underlying22 Try.sizeOf32 g9 (E.ev rfl) (E.ev rfl) (E.ev rfl))) rfl rfl rfl fun a E => ?_
                          obtain ⟨y23, hx33, hc6⟩ := ob_some hc6
                          refine dh E rfl (o_ok Try.call11 (E.evs rfl) (E.ev rfl) (ok_11 _ (x0 := x51) (x1 := x52) h69 h70 hx33)) (fun _ _ h => h.1) rfl rfl rfl (by kernel_rfl) ?_
                          rintro a _ s39 ⟨t45, rfl⟩ E
                          refine dp E rfl (fun w => (o_pickT (E.ev rfl) (E.ev rfl))) rfl rfl rfl fun a E => ?_
                          obtain rfl := Option.some.inj hc6
                          exact gd_nil ⟨_, rfl, (t44.trans t45), (((((E.nil.ad E rfl rfl).ad E rfl rfl).ad E rfl rfl).ad E rfl rfl).ad E rfl rfl)⟩
                        · have hc6 := cF ht hc6
                          rw [ht] at E
                          refine dk E rfl rfl rfl rfl fun a E => ?_
                          refine dk E rfl rfl rfl rfl fun a E => ?_
                          refine dk E rfl rfl rfl rfl fun a E => ?_
                          refine dk E rfl rfl rfl rfl fun a E => ?_
                          refine dk E rfl rfl rfl rfl fun a E => ?_
                          refine dk E rfl rfl rfl rfl fun a E => ?_
                          refine dk E rfl rfl rfl rfl fun a E => ?_
                          refine dk E rfl rfl rfl rfl fun a E => ?_
                          refine dk E rfl rfl rfl rfl fun a E => ?_
                          refine dk E rfl rfl rfl rfl fun a E => ?_
                          refine dk E rfl rfl rfl rfl fun a E => ?_
                          refine dp E rfl (fun w => (o_pickF (E.ev rfl) (E.ev rfl))) rfl rfl rfl fun a E => ?_
                          obtain rfl := Option.some.inj hc6
                          exact gd_nil ⟨_, rfl, t44, (((((E.nil.ad E rfl rfl).ad E rfl rfl).ad E rfl rfl).ad E rfl rfl).ad E rfl rfl)⟩
                      · have hc6 := cF ht hc6
                        rw [ht] at E
                        refine dk E rfl rfl rfl rfl fun a E => ?_
                        refine dk E rfl rfl rfl rfl fun a E => ?_
                        refine dk E rfl rfl rfl rfl fun a E => ?_
                        refine dk E rfl rfl rfl rfl fun a E => ?_
                        refine dp E rfl (fun w => (o_pickF (E.ev rfl) (E.ev rfl))) rfl rfl rfl fun a E => ?_
                        refine dp E rfl (fun w => (o_mv (E.ev rfl))) rfl rfl rfl fun a E => ?_
                        refine dk E rfl rfl rfl rfl fun a E => ?_
                        refine dk E rfl rfl rfl rfl fun a E => ?_
                        refine dk E rfl rfl rfl rfl fun a E => ?_
                        refine dk E rfl rfl rfl rfl fun a E => ?_
                        refine dk E rfl rfl rfl rfl fun a E => ?_
                        refine dk E rfl rfl rfl rfl fun a E => ?_
                        refine dk E rfl rfl rfl rfl fun a E => ?_
                        refine dk E rfl rfl rfl rfl fun a E => ?_
                        refine dk E rfl rfl rfl rfl fun a E => ?_
                        refine dk E rfl rfl rfl rfl fun a E => ?_
                        refine dk E rfl rfl rfl rfl fun a E => ?_
                        refine dp E rfl (fun w => (o_pickF (E.ev rfl) (E.ev rfl))) rfl rfl rfl fun a E => ?_
                        obtain rfl := Option.some.inj hc6
                        exact gd_nil ⟨_, rfl, t44, (((((E.nil.ad E rfl rfl).ad E rfl rfl).ad E rfl rfl).ad E rfl rfl).ad E rfl rfl)⟩
                    rintro a _ ⟨s40, rfl, t46, E⟩
                    refine tgn ?_
                    refine G_cond (E.ev rfl) (fun ht => ?_) (fun ht => ?_)
                    · have hf3 := cT ht hf3
                      refine G_skip ?_
                      refine tgn ?_
                      refine G_block ?_
                      refine G_region ?_
                      refine sd E (o_mv (E.ev rfl)) rfl rfl rfl fun a E => ?_
                      refine sd E (o_bi (E.ev rfl) (E.ev rfl) rfl) rfl rfl rfl fun a E => ?_
                      refine sd E (o_as (E.ev rfl)) rfl rfl rfl fun a E => ?_
                      refine GL_nil ?_
                      refine ebn ?_
                      obtain rfl := Option.some.inj hf3
                      have T11 : Tr (Fz κ []) s36 s40 := (t42.trans t46.no)
                      exact lpn ⟨_, _, rfl, rfl, T11, ((((E.nil.ad E rfl rfl).ad E rfl rfl).ad E rfl rfl).ad E rfl rfl)⟩
                    · have hf3 := cF ht hf3
                      refine G_exit ?_
                      refine tge ?_
                      obtain rfl := Option.some.inj hf3
                      refine lpe fun hr => ?_
                      subst hr
                      refine ebk ?_
                      refine ctn ?_
                      have T12 : Tr (Fz κ []) s36 s40 := (t42.trans t46.no)
                      exact ⟨_, _, hm, rfl, T12, ((((E.nil.ad E rfl rfl).ad E rfl rfl).ad E rfl rfl).ad E rfl rfl)⟩
                  · rintro a _ ⟨x53, s41, hm, rfl, t47, E⟩
                    dsimp only [m_4_3k] at hm
                    refine G_seq ?_
                    obtain ⟨t48, hc7, hm⟩ := ob_some hm
                    refine G_drwm (κ + 14) (by rfl) [0, 1, 2, 3, 4, 5, 6, 7, 8, 9, 10, 11, 12, 13, 14, 15, 16, 17, 18, 19, 20, 21, 22, 23, 24, 25, 26, 27, 28, 29, 30, 31, 32, 33, 34, 35, 36, 37, 38] (by kernel_rfl) (fun a' w' => ∃ s', w' = s'.w ∧ Tr No s41 s' ∧ En [] 253 a' [(10, .bool t48)]) ?_ ?_
                    · intro s42 t49
                      refine dp E rfl (fun w => (o_mv (E.ev rfl))) rfl rfl rfl fun a E => ?_
                      refine dp E rfl (fun w => (o_mv (E.ev rfl))) rfl rfl rfl fun a E => ?_
                      have f50 := ((f46.tr t41).tr t47).tr t49
                      refine dp E rfl (fun w => (o_lenS (xs := x47.L) Try.underlying22 (E.ev rfl) f50.isS)) rfl rfl rfl fun a E => ?_
                      refine dp E rfl (fun w => (o_bi (E.ev rfl) (E.ev rfl) rfl)) rfl rfl rfl fun a E => ?_
                      refine dp E rfl (fun w => (o_mv (E.ev rfl))) rfl rfl rfl fun a E => ?_
                      refine bcase (E.ev (x := .tmp 219) rfl) (fun ht => ?_) (fun ht => ?_)
                      · have hc7 := cT ht hc7
                        rw [ht] at E
                        refine dp E rfl (fun w => (o_mv (E.ev rfl))) rfl rfl rfl fun a E => ?_
                        refine dp E rfl (fun w => (o_mv (E.ev rfl))) rfl rfl rfl fun a E => ?_
                        have f51 := ((h66.tr t41).tr t47).tr t49
                        refine dp E rfl (fun w => (o_lenS (xs := y21) Try.underlying22 (E.ev rfl) f51.isS)) rfl rfl rfl fun a E => ?_
                        refine dp E rfl (fun w => (o_bi (E.ev rfl) (E.ev rfl) rfl)) rfl rfl rfl fun a E => ?_
                        refine dp E rfl (fun w => (o_pickT (E.ev rfl) (E.ev rfl))) rfl rfl rfl fun a E => ?_
                        refine dp E rfl (fun w => (o_mv (E.ev rfl))) rfl rfl rfl fun a E => ?_
                        refine bcase (E.ev (x := .tmp 225) rfl) (fun ht => ?_) (fun ht => ?_)
                        · have hc7 := cT ht hc7
                          rw [ht] at E
                          refine dp E rfl (fun w => (o_mv (E.ev rfl))) rfl rfl rfl fun a E => ?_
                          refine dp E rfl (fun w => (o_mv (E.ev rfl))) rfl rfl rfl fun a E => ?_
                          obtain ⟨x54, hx34, hc7⟩ := ob_some hc7
                          obtain ⟨b19, p7, g10, h71⟩ := f51.gt hx34
                          refine dp E rfl (fun w => (o_ixg Try.underlying22 Try.sizeOf32 g10 (E.ev rfl) (E.ev rfl))) rfl rfl rfl fun a E => ?_
                          refine dp E rfl (fun w => (o_fa Try.underlying32 rfl Try.sizeOf3 (E.ev rfl))) rfl rfl rfl fun a E => ?_
                          obtain ⟨w22, e13, e14, h72⟩ := h71.fr
                          refine dq E rfl (fun s' t => (o_ld Try.isAgg3 (E.ev rfl) (h71.ckl t e13))) rfl rfl rfl (by kernel_rfl) fun a E => ?_
                          refine dp E rfl (fun w => (o_mv (E.ev rfl))) rfl rfl rfl fun a E => ?_
                          refine dp E rfl (fun w => (o_mv (E.ev rfl))) rfl rfl rfl fun a E => ?_
                          obtain ⟨x55, hx35, hc7⟩ := ob_some hc7
                          obtain ⟨b20, p8, g11, h73⟩ := f50.gt hx35
                          refine dp E rfl (fun w => (o_ixg Try.underlying22 Try.sizeOf32 g11 (E.ev rfl) (E.ev rfl))) rfl rfl rfl fun a E => ?_
                          refine dp E rfl (fun w => (o_fa Try.underlying32 rfl Try.sizeOf3 (E.ev rfl))) rfl rfl rfl fun a E => ?_
                          obtain ⟨w23, e15, e16, h74⟩ := h73.fr
                          refine dq E rfl (fun s' t => (o_ld Try.isAgg3 (E.ev rfl) (h73.ckl t e15))) rfl rfl rfl (by kernel_rfl) fun a E => ?_
                          refine dp E rfl (fun w => (o_bi (E.ev rfl) (E.ev rfl) rfl)) rfl rfl rfl fun a E => ?_
                          refine dp E rfl (fun w => (o_pickT (E.ev rfl) (E.ev rfl))) rfl rfl rfl fun a E => ?_
                          refine dp E rfl (fun w => (o_mv (E.ev rfl))) rfl rfl rfl fun a E => ?_
                          refine bcase (E.ev (x := .tmp 238) rfl) (fun ht => ?_) (fun ht => ?_)
                          · have hc7 := cT ht hc7
                            rw [ht] at E
                            refine dp E rfl (fun w => (o_mv (E.ev rfl))) rfl rfl rfl fun a E => ?_
                            refine dp E rfl (fun w => (o_mv (E.ev rfl))) rfl rfl rfl fun a E => ?_
                            obtain ⟨x56, hx36, hc7⟩ := ob_some hc7
                            obtain ⟨b21, p9, g12, h75⟩ := f51.gt hx36
                            refine dp E rfl (fun w => (o_ixg Try.underlying22 Try.sizeOf32 g12 (E.ev rfl) (E.ev rfl))) rfl rfl rfl fun a E => ?_
                            refine dp E rfl (fun w => (o_fa Try.underlying32 rfl Try.sizeOf30 (E.ev rfl))) rfl rfl rfl fun a E => ?_
                            obtain ⟨w24, e17, e18, h76⟩ := h75.fr
                            refine dq E rfl (fun s' t => (o_ld Try.isAgg30 (E.ev rfl) (h75.ckl t e18))) rfl rfl rfl (by kernel_rfl) fun a E => ?_
                            refine dp E rfl (fun w => (o_lenS (xs := x56.Words) Try.underlying30 (E.ev rfl) h76.isS)) rfl rfl rfl fun a E => ?_
                            refine dp E rfl (fun w => (o_mv (E.ev rfl))) rfl rfl rfl fun a E => ?_
                            refine dp E rfl (fun w => (o_mv (E.ev rfl))) rfl rfl rfl fun a E => ?_
                            obtain ⟨x57, hx37, hc7⟩ := ob_some hc7
                            obtain ⟨b22, p10, g13, h77⟩ := f50.gt hx37
                            refine dp E rfl (fun w => (o_ixg Try.underlying22 Try.sizeOf32 g13 (E.ev rfl) (E.ev rfl))) rfl rfl rfl fun a E => ?_
                            refine dp E rfl (fun w => (o_fa Try.underlying32 rfl Try.sizeOf30 (E.ev rfl))) rfl rfl rfl fun a E => ?_
                            obtain ⟨w25, e19, e20, h78⟩ := h77.fr
                            refine dq E rfl (fun s' t => (o_ld Try.isAgg30 (E.ev rfl) (h77.ckl t e20))) rfl rfl rfl (by kernel_rfl) fun a E => ?_
                            refine dp E rfl (fun w => (o_lenS (xs := x57.Words) Try.underlying30 (E.ev rfl) h78.isS)) rfl rfl rfl fun a E => ?_
                            refine dp E rfl (fun w => (o_bi (E.ev rfl) (E.ev rfl) rfl)) rfl rfl rfl fun a E => ?_
                            refine dp E rfl (fun w => (o_pickT (E.ev rfl) (E.ev rfl))) rfl rfl rfl fun a E => ?_
                            refine dp E rfl (fun w => (o_as (E.ev rfl))) rfl rfl rfl fun a E => ?_
                            obtain rfl := Option.some.inj hc7
                            exact gd_nil ⟨_, rfl, t49, (E.nil.ad E rfl rfl)⟩
                          · have hc7 := cF ht hc7
                            rw [ht] at E
                            refine dk E rfl rfl rfl rfl fun a E => ?_
                            refine dk E rfl rfl rfl rfl fun a E => ?_
                            refine dk E rfl rfl rfl rfl fun a E => ?_
                            refine dk E rfl rfl rfl rfl fun a E => ?_
                            refine dk E rfl rfl rfl rfl fun a E => ?_
                            refine dk E rfl rfl rfl rfl fun a E => ?_
                            refine dk E rfl rfl rfl rfl fun a E => ?_
                            refine dk E rfl rfl rfl rfl fun a E => ?_
                            refine dk E rfl rfl rfl rfl fun a E => ?_
                            refine dk E rfl rfl rfl rfl fun a E => ?_
                            refine dk E rfl rfl rfl rfl fun a E => ?_
                            refine dk E rfl rfl rfl rfl fun a E => ?_
                            refine dk E rfl rfl rfl rfl fun a E => ?_
                            refine dp E rfl (fun w => (o_pickF (E.ev rfl) (E.ev rfl))) rfl rfl rfl fun a E => ?_
                            refine dp E rfl (fun w => (o_as (E.ev rfl))) rfl rfl rfl fun a E => ?_
                            obtain rfl := Option.some.inj hc7
                            exact gd_nil ⟨_, rfl, t49, (E.nil.ad E rfl rfl)⟩
                        · have hc7 := cF ht hc7
                          rw [ht] at E
                          refine dk E rfl rfl rfl rfl fun a E => ?_
                          refine dk E rfl rfl rfl rfl fun a E => ?_
                          refine dk E rfl rfl rfl rfl fun a E => ?_
                          refine dk E rfl rfl rfl rfl fun a E => ?_
                          refine dk E rfl rfl rfl rfl fun a E => ?_
                          refine dk E rfl rfl rfl rfl fun a E => ?_
                          refine dk E rfl rfl rfl rfl fun a E => ?_
                          refine dk E rfl rfl rfl rfl fun a E => ?_
                          refine dk E rfl rfl rfl rfl fun a E => ?_
                          refine dk E rfl rfl rfl rfl fun a E => ?_
                          refine dk E rfl rfl rfl rfl fun a E => ?_
                          refine dp E rfl (fun w => (o_pickF (E.ev rfl) (E.ev rfl))) rfl rfl rfl fun a E => ?_
                          refine dp E rfl (fun w => (o_mv (E.ev rfl))) rfl rfl rfl fun a E => ?_
                          refine dk E rfl rfl rfl rfl fun a E => ?_
                          refine dk E rfl rfl rfl rfl fun a E => ?_
                          refine dk E rfl rfl rfl rfl fun a E => ?_
                          refine dk E rfl rfl rfl rfl fun a E => ?_
                          refine dk E rfl rfl rfl rfl fun a E => ?_
                          refine dk E rfl rfl rfl rfl fun a E => ?_
                          refine dk E rfl rfl rfl rfl fun a E => ?_
                          refine dk E rfl rfl rfl rfl fun a E => ?_
                          refine dk E rfl rfl rfl rfl fun a E => ?_
                          refine dk E rfl rfl rfl rfl fun a E => ?_
                          refine dk E rfl rfl rfl rfl fun a E => ?_
                          refine dk E rfl rfl rfl rfl fun a E => ?_
                          refine dk E rfl rfl rfl rfl fun a E => ?_
                          refine dp E rfl (fun w => (o_pickF (E.ev rfl) (E.ev rfl))) rfl rfl rfl fun a E => ?_
                          refine dp E rfl (fun w => (o_as (E.ev rfl))) rfl rfl rfl fun a E => ?_
                          obtain rfl := Option.some.inj hc7
                          exact gd_nil ⟨_, rfl, t49, (E.nil.ad E rfl rfl)⟩
                      · have hc7 := cF ht hc7
                        rw [ht] at E
                        refine dk E rfl rfl rfl rfl fun a E => ?_
                        refine dk E rfl rfl rfl rfl fun a E => ?_
                        refine dk E rfl rfl rfl rfl fun a E => ?_
                        refine dk E rfl rfl rfl rfl fun a E => ?_
                        refine dp E rfl (fun w => (o_pickF (E.ev rfl) (E.ev rfl))) rfl rfl rfl fun a E => ?_
                        refine dp E rfl (fun w => (o_mv (E.ev rfl))) rfl rfl rfl fun a E => ?_
                        refine dk E rfl rfl rfl rfl fun a E => ?_
                        refine dk E rfl rfl rfl rfl fun a E => ?_
                        refine dk E rfl rfl rfl rfl fun a E => ?_
                        refine dk E rfl rfl rfl rfl fun a E => ?_
                        refine dk E rfl rfl rfl rfl fun a E => ?_
                        refine dk E rfl rfl rfl rfl fun a E => ?_
                        refine dk E rfl rfl rfl rfl fun a E => ?_
                        refine dk E rfl rfl rfl rfl fun a E => ?_
                        refine dk E rfl rfl rfl rfl fun a E => ?_
                        refine dk E rfl rfl rfl rfl fun a E => ?_
                        refine dk E rfl rfl rfl rfl fun a E => ?_
                        refine dp E rfl (fun w => (o_pickF (E.ev rfl) (E.ev rfl))) rfl rfl rfl fun a E => ?_
                        refine dp E rfl (fun w => (o_mv (E.ev rfl))) rfl rfl rfl fun a E => ?_
                        refine dk E rfl rfl rfl rfl fun a E => ?_
                        refine dk E rfl rfl rfl rfl fun a E => ?_
                        refine dk E rfl rfl rfl rfl fun a E => ?_
                        refine dk E rfl rfl rfl rfl fun a E => ?_
                        refine dk E rfl rfl rfl rfl fun a E => ?_
                        refine dk E rfl rfl rfl rfl fun a E => ?_
                        refine dk E rfl rfl rfl rfl fun a E => ?_
                        refine dk E rfl rfl rfl rfl fun a E => ?_
                        refine dk E rfl rfl rfl rfl fun a E => ?_
                        refine dk E rfl rfl rfl rfl fun a E => ?_
                        refine dk E rfl rfl rfl rfl fun a E => ?_
                        refine dk E rfl rfl rfl rfl fun a E => ?_
                        refine dk E rfl rfl rfl rfl fun a E => ?_
                        refine dp E rfl (fun w => (o_pickF (E.ev rfl) (E.ev rfl))) rfl rfl rfl fun a E => ?_
                        refine dp E rfl (fun w => (o_as (E.ev rfl))) rfl rfl rfl fun a E => ?_
                        obtain rfl := Option.some.inj hc7
                        exact gd_nil ⟨_, rfl, t49, (E.nil.ad E rfl rfl)⟩
                    rintro a _ ⟨s43, rfl, t50, E⟩
                    refine tgn ?_
                    refine G_ret ?_
                    cases hm
                    have T13 : Tr (Fz κ []) s s43 := ((((((((((((((((((((((((t1.no.trans t3.no).trans t4.no).trans t5.no).trans (Tr.fw1 Fz.f t6)).trans (Tr.fw1 Fz.f t7)).trans t9.no).trans t13).trans t14.no).trans (Tr.fw2 Fz.f Fz.f t15)).trans (Tr.fw1 Fz.f t16)).trans (Tr.fw1 Fz.f t17)).trans (Tr.fw1 Fz.f t18)).trans t23.no).trans t27).trans t28.no).trans (Tr.fw2 Fz.f Fz.f t29)).trans (Tr.fw1 Fz.f t30)).trans (Tr.fw1 Fz.f t31)).trans (Tr.fw1 Fz.f t32)).trans t37.no).trans t38.no).trans t41).trans t47).trans t50.no)
                    exact fin1 E rfl rfl ⟨(Tr.fin0 hκ T13), rfl⟩

end Go.Proofs.Ytdkfdmalbbfbmaa
