/- Models and walks, printed by a program of ours. -/
import Derived.Test.YtdkfdmalbbfbmaaGreatMWL30
/- Models and walks, printed by a program of ours. -/
namespace Go.Proofs.YtdkfdmalbbfbmaaGreat
open Go Go.Maps
set_option maxRecDepth 4000
set_option maxHeartbeats 1000000
-- gimmal/gimmallaw22.VaultLasts
noncomputable def m_L3_3k (x16 : RDisk) (x18 : RVault) (X5 : VaultM) (X6 : Disk) : Int → Option (Int × Disk × RDisk × VaultM × RVault) := fun x26 => ob (m_L13 x18 x16) fun (y11, X7, X8) => some (x26, X6, X8, X5, X7)
noncomputable def m_L3_2k (x12 : Bool) (x14 : Int) : (Int × Disk × RDisk × VaultM × RVault) → Option (Lo (Bool × Int × Int × Disk × RDisk × VaultM × RVault) (Sum (Bool × Int × Int × Disk × RDisk × VaultM × RVault) Bool)) := fun (x27, x28, x29, x30, x31) => some (.inl (x12, x27, IntKind.wrap .i64 (x14 + 1), x28, x29, x30, x31))
noncomputable def m_L3_1b (x2 : List OpV) : (Bool × Int × Int × Disk × RDisk × VaultM × RVault) → Option (Lo (Bool × Int × Int × Disk × RDisk × VaultM × RVault) (Sum (Bool × Int × Int × Disk × RDisk × VaultM × RVault) Bool)) := fun (x12, x13, x14, x15, x16, x17, x18) => ob (bif decide (x14 < (x2.length : Int)) then (some (decide (x14 < 30))) else (some false)) fun t9 => bif t9 then (ob (gt x2 x14) fun x19 => bif decide ((x19.F.Words.length : Int) > 400) then (some (.inr (.inr true))) else (ob (bif (Int.tmod x19.Kind 8) == 4 then (ob (m_136 x17 x15) fun X3 => ob (m_45 x16) fun X4 => ob (m_L11 x18) fun y8 => some ((y8.length : Int), X3, X4, x17, x18)) else (bif (Int.tmod x19.Kind 8) == 5 then (ob (m_26 x17 x15) fun (y9, X5, X6) => ob (bif y9 == 0 then (ob (m_L11 x18) fun y10 => some (y10.length : Int)) else (some x13)) (m_L3_3k x16 x18 X5 X6)) else (ob (m_27 x17 x15 (⟨x19.F.Kind, x19.F.Words⟩ : Frame)) fun (y12, X9, X10) => ob (m_18 x18.Log x16 (⟨x19.F.Kind, x19.F.Words⟩ : Frame)) fun (y13, X11, X12) => some (x13, X10, X12, X9, (⟨x18.Area, (⟨x18.At.Number, x18.At.Epoch, x18.At.Area, x18.At.Words⟩ : Anchor), x18.S, X11⟩ : RVault))))) (m_L3_2k x12 x14))) else (some (.inr (.inl (x12, x13, x14, x15, x16, x17, x18))))
noncomputable def m_L3_1k (x1 : Int) (x3 : List Bool) : Sum (Bool × Int × Int × Disk × RDisk × VaultM × RVault) Bool → Option Bool
  | .inl (x32, x33, x34, x35, x36, x37, x38) => ob (m_L11 x38) fun y14 => ob (mq_19 x35 x3) fun X13 => ob (m_21 x36 x3) fun X14 => ob (m_24 X13 (IntKind.wrap .i64 ((IntKind.wrap .i64 (Int.tmod x1 6)) + 1))) fun (y15, y16, X15) => ob (m_L8 X14 (IntKind.wrap .i64 ((IntKind.wrap .i64 (Int.tmod x1 6)) + 1))) fun (y17, y18, X16) => bif y16 != y18 then (some false) else (bif y18 != 0 then (some false) else (ob (m_25 y15) fun y19 => ob (m_L11 y17) fun y20 => ob (m_11 y19 y20) fun y21 => bif !y21 then (some false) else (ob (bif decide ((y19.length : Int) > (y14.length : Int)) then (some true) else (ob (sl y14 0 (y19.length : Int)) fun x39 => ob (m_11 y19 x39) fun y22 => some (!y22))) fun t34 => bif t34 then (some true) else (some (decide ((y19.length : Int) ≥ x33))))))
  | .inr y => some y
noncomputable def m_L3 (x0 : Int) (x1 : Int) (x2 : List OpV) (x3 : List Bool) : Option Bool :=
  ob (m_23) fun y1 => bif !y1 then (some false) else (bif decide ((x3.length : Int) > 100) then (some true) else (ob (m_8 (IntKind.wrap .i64 ((IntKind.wrap .i64 (3 + (IntKind.wrap .i64 (2 * (IntKind.wrap .i64 ((IntKind.wrap .i64 (Int.tmod x1 6)) + 1)))))) + (IntKind.wrap .i64 (Int.tmod x0 12))))) fun y2 => ob (m_16 (IntKind.wrap .i64 ((IntKind.wrap .i64 (3 + (IntKind.wrap .i64 (2 * (IntKind.wrap .i64 ((IntKind.wrap .i64 (Int.tmod x1 6)) + 1)))))) + (IntKind.wrap .i64 (Int.tmod x0 12))))) fun y3 => ob (m_24 y2 (IntKind.wrap .i64 ((IntKind.wrap .i64 (Int.tmod x1 6)) + 1))) fun (y4, y5, X1) => ob (m_L8 y3 (IntKind.wrap .i64 ((IntKind.wrap .i64 (Int.tmod x1 6)) + 1))) fun (y6, y7, X2) => ob (bif y5 != 0 then (some true) else (some false)) fun t6 => bif t6 then (some false) else (ob (loopO (m_L3_1b x2) (false, 0, 0, X1, X2, y4, y6)) (m_L3_1k x1 x3))))
theorem ok_L3 (s : St) {x0 : Int} {x1 : Int} {x2 : List OpV} {w1 : Value} {x3 : List Bool} {w2 : Value} (h1 : Sl kOpV s w1 x2) (h2 : Sl kBool s w2 x3) {r0y : Bool} (hm : m_L3 x0 x1 x2 x3 = some r0y) :
    Ok Tryz.prog 3 ([.int .u8 x0, .int .u8 x1, w1, w2] : List Value).toArray s fun v s' => Tr No s s' ∧ v = .bool r0y := by
  unfold m_L3 at hm
  obtain ⟨κ, hκ⟩ := s.fresh
  refine ok_of (n := 175) _ Tryz.func3 rfl _ rfl rfl fun a E => ?_
  refine G_seq ?_
  refine G_region ?_
  refine sd E (o_as (E.ev rfl)) rfl rfl rfl fun a E => ?_
  refine GL_nil ?_
  refine tgn ?_
  refine G_seq ?_
  refine G_seq ?_
  refine G_region ?_
  obtain ⟨y1, hx1, hm⟩ := ob_some hm
  refine sh E (o_ok Tryz.call4 (E.evs rfl) (E.ev rfl) (ok_23 _ hx1)) rfl rfl rfl ?_
  rintro a _ s1 ⟨t1, rfl⟩ E
  refine sd E (o_not (E.ev rfl)) rfl rfl rfl fun a E => ?_
  refine GL_nil ?_
  refine tgn ?_
  refine G_cond (E.ev rfl) (fun ht => ?_) (fun ht => ?_)
  · have hm := cT ht hm
    refine G_seq ?_
    refine G_region ?_
    refine sd E (o_as (E.ev rfl)) rfl rfl rfl fun a E => ?_
    refine GL_nil ?_
    refine tgn ?_
    refine G_ret ?_
    refine tgr ?_
    cases hm
    have T1 : Tr (Fz κ []) s s1 := t1.no
    exact fin1 E rfl rfl ⟨(Tr.fin0 hκ T1), rfl⟩
  · have hm := cF ht hm
    refine G_skip ?_
    refine tgn ?_
    refine G_seq ?_
    refine G_seq ?_
    refine G_region ?_
    refine sd E (o_mv (E.ev rfl)) rfl rfl rfl fun a E => ?_
    have f1 := h2.tr t1
    refine sd E (o_lenS (xs := x3) Tryz.underlying23 (E.ev rfl) f1.isS) rfl rfl rfl fun a E => ?_
    refine sd E (o_bi (E.ev rfl) (E.ev rfl) rfl) rfl rfl rfl fun a E => ?_
    refine GL_nil ?_
    refine tgn ?_
    refine G_cond (E.ev rfl) (fun ht => ?_) (fun ht => ?_)
    · have hm := cT ht hm
      refine G_seq ?_
      refine G_region ?_
      refine sd E (o_as (E.ev rfl)) rfl rfl rfl fun a E => ?_
      refine GL_nil ?_
      refine tgn ?_
      refine G_ret ?_
      refine tgr ?_
      cases hm
      have T2 : Tr (Fz κ []) s s1 := t1.no
      exact fin1 E rfl rfl ⟨(Tr.fin0 hκ T2), rfl⟩
    · have hm := cF ht hm
      refine G_skip ?_
      refine tgn ?_
      refine G_seq ?_
      refine G_region ?_
      refine sd E (o_mv (E.ev rfl)) rfl rfl rfl fun a E => ?_
      refine sd E (o_rem (E.ev rfl) (E.ev rfl) rfl) rfl rfl rfl fun a E => ?_
      refine sd E (o_cv Tryz.underlying5 Tryz.underlying3 (E.ev rfl)) rfl rfl rfl fun a E => ?_
      refine sd E (o_bi (E.ev rfl) (E.ev rfl) rfl) rfl rfl rfl fun a E => ?_
      refine sd E (o_as (E.ev rfl)) rfl rfl rfl fun a E => ?_
      refine GL_nil ?_
      refine tgn ?_
      refine G_seq ?_
      refine G_region ?_
      refine sd E (o_mv (E.ev rfl)) rfl rfl rfl fun a E => ?_
      refine sd E (o_bi (E.ev rfl) (E.ev rfl) rfl) rfl rfl rfl fun a E => ?_
      refine sd E (o_bi (E.ev rfl) (E.ev rfl) rfl) rfl rfl rfl fun a E => ?_
      refine sd E (o_mv (E.ev rfl)) rfl rfl rfl fun a E => ?_
      refine sd E (o_rem (E.ev rfl) (E.ev rfl) rfl) rfl rfl rfl fun a E => ?_
      refine sd E (o_cv Tryz.underlying5 Tryz.underlying3 (E.ev rfl)) rfl rfl rfl fun a E => ?_
      refine sd E (o_bi (E.ev rfl) (E.ev rfl) rfl) rfl rfl rfl fun a E => ?_
      obtain ⟨y2, hx2, hm⟩ := ob_some hm
      refine sh E (o_ok Tryz.call5 (E.evs rfl) (E.ev rfl) (oq_8 _ (κ + 1) (x0 := IntKind.wrap .i64 ((IntKind.wrap .i64 (3 + (IntKind.wrap .i64 (2 * (IntKind.wrap .i64 ((IntKind.wrap .i64 (Int.tmod x1 6)) + 1)))))) + (IntKind.wrap .i64 (Int.tmod x0 12)))) hx2)) rfl rfl rfl ?_
      rintro a _ s2 ⟨t2, b1, rfl, h3⟩ E
      refine sd E (o_mv (E.ev rfl)) rfl rfl rfl fun a E => ?_
      refine sd E (o_bi (E.ev rfl) (E.ev rfl) rfl) rfl rfl rfl fun a E => ?_
      refine sd E (o_bi (E.ev rfl) (E.ev rfl) rfl) rfl rfl rfl fun a E => ?_
      refine sd E (o_mv (E.ev rfl)) rfl rfl rfl fun a E => ?_
      refine sd E (o_rem (E.ev rfl) (E.ev rfl) rfl) rfl rfl rfl fun a E => ?_
      refine sd E (o_cv Tryz.underlying5 Tryz.underlying3 (E.ev rfl)) rfl rfl rfl fun a E => ?_
      refine sd E (o_bi (E.ev rfl) (E.ev rfl) rfl) rfl rfl rfl fun a E => ?_
      obtain ⟨y3, hx3, hm⟩ := ob_some hm
      refine sh E (o_ok Tryz.call6 (E.evs rfl) (E.ev rfl) (ok_16 _ (κ + 2) (x0 := IntKind.wrap .i64 ((IntKind.wrap .i64 (3 + (IntKind.wrap .i64 (2 * (IntKind.wrap .i64 ((IntKind.wrap .i64 (Int.tmod x1 6)) + 1)))))) + (IntKind.wrap .i64 (Int.tmod x0 12)))) hx3)) rfl rfl rfl ?_
      rintro a _ s3 ⟨t3, b2, rfl, h4⟩ E
      refine sd E (o_as (E.ev rfl)) rfl rfl rfl fun a E => ?_
      refine sd E (o_as (E.ev rfl)) rfl rfl rfl fun a E => ?_
      refine GL_nil ?_
      refine tgn ?_
      refine G_seq ?_
      refine G_region ?_
      refine sd E (o_mv (E.ev rfl)) rfl rfl rfl fun a E => ?_
      refine sd E (o_mv (E.ev rfl)) rfl rfl rfl fun a E => ?_
      have f2 := h3.trN t3
      obtain ⟨⟨y4, y5, X1⟩, hx4, hm⟩ := ob_some hm
      refine sh E (o_ok Tryz.call7 (E.evs rfl) (E.ev rfl) (ok_24 _ (κ + 3) (κ + 4) (x1 := IntKind.wrap .i64 ((IntKind.wrap .i64 (Int.tmod x1 6)) + 1)) f2 hx4)) rfl rfl rfl ?_
      rintro a _ s4 ⟨t4, b3, rfl, h6, h5⟩ E
      refine sd E (o_mv (E.ev rfl)) rfl rfl rfl fun a E => ?_
      refine sd E (o_ext (v := .pointer (some ⟨b3, 0, none⟩)) (E.ev rfl) rfl) rfl rfl rfl fun a E => ?_
      refine sd E (o_ext (v := .int .i64 y5) (E.ev rfl) rfl) rfl rfl rfl fun a E => ?_
      refine sd E (o_as (E.ev rfl)) rfl rfl rfl fun a E => ?_
      refine sd E (o_as (E.ev rfl)) rfl rfl rfl fun a E => ?_
      refine GL_nil ?_
      refine tgn ?_
      refine G_seq ?_
      refine G_region ?_
      refine sd E (o_mv (E.ev rfl)) rfl rfl rfl fun a E => ?_
      refine sd E (o_mv (E.ev rfl)) rfl rfl rfl fun a E => ?_
      have f3 := h4.tr t4 (fun i => (nW1 (ra rfl)))
      obtain ⟨⟨y6, y7, X2⟩, hx5, hm⟩ := ob_some hm
      refine sh E (o_ok Tryz.call8 (E.evs rfl) (E.ev rfl) (ok_L8 _ (κ + 5) (κ + 6) (x1 := IntKind.wrap .i64 ((IntKind.wrap .i64 (Int.tmod x1 6)) + 1)) f3 hx5)) rfl rfl rfl ?_
      rintro a _ s5 ⟨t5, b4, rfl, h8, h7⟩ E
      refine sd E (o_mv (E.ev rfl)) rfl rfl rfl fun a E => ?_
      refine sd E (o_ext (v := .pointer (some ⟨b4, 0, none⟩)) (E.ev rfl) rfl) rfl rfl rfl fun a E => ?_
      refine sd E (o_ext (v := .int .i64 y7) (E.ev rfl) rfl) rfl rfl rfl fun a E => ?_
      refine sd E (o_as (E.ev rfl)) rfl rfl rfl fun a E => ?_
      refine sd E (o_as (E.ev rfl)) rfl rfl rfl fun a E => ?_
      refine GL_nil ?_
      refine tgn ?_
      refine G_seq ?_
      refine G_seq ?_
      obtain ⟨t6, hc1, hm⟩ := ob_some hm
      refine G_regm (fun a' w' => ∃ s', w' = s'.w ∧ Tr No s5 s' ∧ En [] 175 a' [(71, .bool t6), (2, w1), (3, w2), (8, .bool false), (9, .int .i64 (IntKind.wrap .i64 ((IntKind.wrap .i64 (Int.tmod x1 6)) + 1))), (10, .pointer (some ⟨b1, 0, none⟩)), (11, .pointer (some ⟨b2, 0, none⟩)), (12, .pointer (some ⟨b3, 0, none⟩)), (14, .pointer (some ⟨b4, 0, none⟩))]) ?_ ?_
      · refine sd E (o_mv (E.ev rfl)) rfl rfl rfl fun a E => ?_
        refine sd E (o_bi (E.ev rfl) (E.ev rfl) rfl) rfl rfl rfl fun a E => ?_
        refine sd E (o_mv (E.ev rfl)) rfl rfl rfl fun a E => ?_
        refine bcase (E.ev (x := .tmp 64) rfl) (fun ht => ?_) (fun ht => ?_)
        · have hc1 := cT ht hc1
          rw [ht] at E
          refine sk E rfl rfl rfl fun a E => ?_
          refine sk E rfl rfl rfl fun a E => ?_
          refine sd E (o_pickT (E.ev rfl) (E.ev rfl)) rfl rfl rfl fun a E => ?_
          refine sd E (o_mv (E.ev rfl)) rfl rfl rfl fun a E => ?_
          refine sk E rfl rfl rfl fun a E => ?_
          refine sk E rfl rfl rfl fun a E => ?_
          refine sd E (o_pickT (E.ev rfl) (E.ev rfl)) rfl rfl rfl fun a E => ?_
          obtain rfl := Option.some.inj hc1
          exact GL_nil ⟨_, rfl, (Tr.refl _ _), (((((((((E.nil.ad E rfl rfl).ad E rfl rfl).ad E rfl rfl).ad E rfl rfl).ad E rfl rfl).ad E rfl rfl).ad E rfl rfl).ad E rfl rfl).ad E rfl rfl)⟩
        · have hc1 := cF ht hc1
          rw [ht] at E
          refine sd E (o_mv (E.ev rfl)) rfl rfl rfl fun a E => ?_
          refine sd E (o_eqp Tryz.underlying29 (E.ev rfl) (E.ev rfl)) rfl rfl rfl fun a E => ?_
          refine sd E (o_pickF (E.ev rfl) (E.ev rfl)) rfl rfl rfl fun a E => ?_
          refine sd E (o_mv (E.ev rfl)) rfl rfl rfl fun a E => ?_
          refine sd E (o_mv (E.ev rfl)) rfl rfl rfl fun a E => ?_
          refine sd E (o_eqp Tryz.underlying33 (E.ev rfl) (E.ev rfl)) rfl rfl rfl fun a E => ?_
          refine sd E (o_pickF (E.ev rfl) (E.ev rfl)) rfl rfl rfl fun a E => ?_
          obtain rfl := Option.some.inj hc1
          exact GL_nil ⟨_, rfl, (Tr.refl _ _), (((((((((E.nil.ad E rfl rfl).ad E rfl rfl).ad E rfl rfl).ad E rfl rfl).ad E rfl rfl).ad E rfl rfl).ad E rfl rfl).ad E rfl rfl).ad E rfl rfl)⟩
      rintro a _ ⟨s6, rfl, t7, E⟩
      refine tgn ?_
      refine G_cond (E.ev rfl) (fun ht => ?_) (fun ht => ?_)
      · have hm := cT ht hm
        refine G_seq ?_
        refine G_region ?_
        refine sd E (o_as (E.ev rfl)) rfl rfl rfl fun a E => ?_
        refine GL_nil ?_
        refine tgn ?_
        refine G_ret ?_
        refine tgr ?_
        cases hm
        have T3 : Tr (Fz κ []) s s6 := (((((t1.no.trans t2.no).trans t3.no).trans (Tr.fw1 Fz.f t4)).trans (Tr.fw1 Fz.f t5)).trans t7.no)
        exact fin1 E rfl rfl ⟨(Tr.fin0 hκ T3), rfl⟩
      · have hm := cF ht hm
        refine G_skip ?_
        refine tgn ?_
        refine G_seq ?_
        refine G_region ?_
        refine sd E (o_as (E.ev rfl)) rfl rfl rfl fun a E => ?_
        refine GL_nil ?_
        refine tgn ?_
        refine G_seq ?_
        refine G_seq ?_
        refine G_region ?_
        refine sd E (o_as (E.ev rfl)) rfl rfl rfl fun a E => ?_
        refine GL_nil ?_
        refine tgn ?_
        obtain ⟨r1, hl1, hm⟩ := ob_some hm
        refine G_mid1 (fun a' w' => ∃ x5 x6 x7 x8 x9 x10 x11 s', m_L3_1k x1 x3 (.inl (x5, x6, x7, x8, x9, x10, x11)) = some r0y ∧ w' = s'.w ∧ Tr (Fz κ []) s6 s' ∧ DiskAt (κ + 1) s' b1 x8 ∧ RDiskAt (κ + 2) s' b2 x9 ∧ VaultAt (κ + 3) (κ + 4) b1 s' b3 x10 ∧ RVaultAt (κ + 5) (κ + 6) b2 s' b4 x11 ∧ En [] 175 a' [(8, .bool x5), (16, .int .i64 x6), (17, .int .i64 x7), (2, w1), (3, w2), (9, .int .i64 (IntKind.wrap .i64 ((IntKind.wrap .i64 (Int.tmod x1 6)) + 1))), (10, .pointer (some ⟨b1, 0, none⟩)), (11, .pointer (some ⟨b2, 0, none⟩)), (12, .pointer (some ⟨b3, 0, none⟩)), (14, .pointer (some ⟨b4, 0, none⟩))]) ?_ ?_
        · refine G_block ?_
          have f4 := (h6.tr t5 (fun i => (nW1 (ra rfl)))).trN t7
          have f5 := h8.trN t7
          have f6 := (h5.tr t5 (fun i => (nW1 (ra rfl))) (fun i => (nW1 (ra rfl)))).trN t7
          have f7 := h7.trN t7
          refine G_lp hl1 (fun st a' w' => ∃ x5 x6 x7 x8 x9 x10 x11 s', st = (x5, x6, x7, x8, x9, x10, x11) ∧ w' = s'.w ∧ Tr (Fz κ []) s6 s' ∧ DiskAt (κ + 1) s' b1 x8 ∧ RDiskAt (κ + 2) s' b2 x9 ∧ VaultAt (κ + 3) (κ + 4) b1 s' b3 x10 ∧ RVaultAt (κ + 5) (κ + 6) b2 s' b4 x11 ∧ En [] 175 a' [(8, .bool x5), (16, .int .i64 x6), (17, .int .i64 x7), (2, w1), (3, w2), (9, .int .i64 (IntKind.wrap .i64 ((IntKind.wrap .i64 (Int.tmod x1 6)) + 1))), (10, .pointer (some ⟨b1, 0, none⟩)), (11, .pointer (some ⟨b2, 0, none⟩)), (12, .pointer (some ⟨b3, 0, none⟩)), (14, .pointer (some ⟨b4, 0, none⟩))]) ⟨_, _, _, _, _, _, _, _, rfl, rfl, (Tr.refl _ _), f4, f5, f6, f7, ((((((((((E.nil.ad E rfl rfl).ad E rfl rfl).ad E rfl rfl).ad E rfl rfl).ad E rfl rfl).ad E rfl rfl).ad E rfl rfl).ad E rfl rfl).ad E rfl rfl).ad E rfl rfl)⟩ ?_
          rintro _ a _ x ⟨x12, x13, x14, x15, x16, x17, x18, s7, rfl, rfl, t8, h9, h10, h11, h12, E⟩ hf1
          dsimp only [m_L3_1b] at hf1
          refine G_seq ?_
          refine G_seq ?_
          obtain ⟨t9, hc2, hf1⟩ := ob_some hf1
          refine G_regm (fun a' w' => ∃ s', w' = s'.w ∧ Tr No s7 s' ∧ En [] 175 a' [(79, .bool t9), (2, w1), (3, w2), (8, .bool x12), (9, .int .i64 (IntKind.wrap .i64 ((IntKind.wrap .i64 (Int.tmod x1 6)) + 1))), (10, .pointer (some ⟨b1, 0, none⟩)), (11, .pointer (some ⟨b2, 0, none⟩)), (12, .pointer (some ⟨b3, 0, none⟩)), (14, .pointer (some ⟨b4, 0, none⟩)), (16, .int .i64 x13), (17, .int .i64 x14)]) ?_ ?_
          · refine sd E (o_mv (E.ev rfl)) rfl rfl rfl fun a E => ?_
            refine sd E (o_mv (E.ev rfl)) rfl rfl rfl fun a E => ?_
            have f8 := ((((((h1.tr t1).tr t2).tr t3).tr t4).tr t5).tr t7).tr t8
            refine sd E (o_lenS (xs := x2) Tryz.underlying22 (E.ev rfl) f8.isS) rfl rfl rfl fun a E => ?_
            refine sd E (o_bi (E.ev rfl) (E.ev rfl) rfl) rfl rfl rfl fun a E => ?_
            refine sd E (o_mv (E.ev rfl)) rfl rfl rfl fun a E => ?_
            refine bcase (E.ev (x := .tmp 76) rfl) (fun ht => ?_) (fun ht => ?_)
            · have hc2 := cT ht hc2
              rw [ht] at E
              refine sd E (o_mv (E.ev rfl)) rfl rfl rfl fun a E => ?_
              refine sd E (o_bi (E.ev rfl) (E.ev rfl) rfl) rfl rfl rfl fun a E => ?_
              refine sd E (o_pickT (E.ev rfl) (E.ev rfl)) rfl rfl rfl fun a E => ?_
              obtain rfl := Option.some.inj hc2
              exact GL_nil ⟨_, rfl, (Tr.refl _ _), (((((((((((E.nil.ad E rfl rfl).ad E rfl rfl).ad E rfl rfl).ad E rfl rfl).ad E rfl rfl).ad E rfl rfl).ad E rfl rfl).ad E rfl rfl).ad E rfl rfl).ad E rfl rfl).ad E rfl rfl)⟩
            · have hc2 := cF ht hc2
              rw [ht] at E
              refine sk E rfl rfl rfl fun a E => ?_
              refine sk E rfl rfl rfl fun a E => ?_
              refine sd E (o_pickF (E.ev rfl) (E.ev rfl)) rfl rfl rfl fun a E => ?_
              obtain rfl := Option.some.inj hc2
              exact GL_nil ⟨_, rfl, (Tr.refl _ _), (((((((((((E.nil.ad E rfl rfl).ad E rfl rfl).ad E rfl rfl).ad E rfl rfl).ad E rfl rfl).ad E rfl rfl).ad E rfl rfl).ad E rfl rfl).ad E rfl rfl).ad E rfl rfl).ad E rfl rfl)⟩
          rintro a _ ⟨s8, rfl, t10, E⟩
          refine tgn ?_
          refine G_cond (E.ev rfl) (fun ht => ?_) (fun ht => ?_)
          · have hf1 := cT ht hf1
            refine G_skip ?_
            refine tgn ?_
            refine G_seq ?_
            refine G_block ?_
            refine G_seq ?_
            refine G_region ?_
            refine sd E (o_mv (E.ev rfl)) rfl rfl rfl fun a E => ?_
            refine sd E (o_mv (E.ev rfl)) rfl rfl rfl fun a E => ?_
            obtain ⟨x19, hx6, hf1⟩ := ob_some hf1
            have f9 := (((((((h1.tr t1).tr t2).tr t3).tr t4).tr t5).tr t7).tr t8).tr t10
            obtain ⟨b5, p1, g1, h13⟩ := f9.gt hx6
            refine sd E (o_ixg Tryz.underlying22 Tryz.sizeOf42 g1 (E.ev rfl) (E.ev rfl)) rfl rfl rfl fun a E => ?_
            obtain ⟨w3, w4, e1, e2, e3, e4, e5, e6, e7, e8, e9, e10, e11, e12, e13, h14, h15⟩ := h13.el13OpV
            refine sd E (o_ldn Tryz.isAgg42 Tryz.sizeOf42 (E.ev rfl) [.int .u8 x19.Kind, .int .i64 x19.F.Kind, w3, w4, .int .i64 x19.I, .int .u64 ((x19.S[0]?).getD 0), .int .u64 ((x19.S[1]?).getD 0), .int .u64 ((x19.S[2]?).getD 0), .int .u64 ((x19.S[3]?).getD 0), .int .u64 ((x19.S[4]?).getD 0), .int .u64 ((x19.S[5]?).getD 0), .int .u64 ((x19.S[6]?).getD 0), .int .u64 ((x19.S[7]?).getD 0)] rfl ⟨e1, e2, e3, e4, e5, e6, e7, e8, e9, e10, e11, e12, e13, trivial⟩) rfl rfl rfl fun a E => ?_
            refine sh E (o_al ((κ + 0), 1001) Tryz.zeroValue42) rfl rfl rfl ?_
            rintro a _ s9 ⟨b6, rfl, o1, t11⟩ E
            have f10 := h14.tr t11
            obtain ⟨a1, c1, rfl⟩ := f10.isS
            have f11 := h15.tr t11
            obtain ⟨a2, c2, rfl⟩ := f11.isS
            refine shN E (o_st (o := 0) (cs' := #[.int .u8 x19.Kind, .int .i64 x19.F.Kind, (.slice a1 x19.F.Words.length c1), (.slice a2 x19.Keep.length c2), .int .i64 x19.I, .int .u64 ((x19.S[0]?).getD 0), .int .u64 ((x19.S[1]?).getD 0), .int .u64 ((x19.S[2]?).getD 0), .int .u64 ((x19.S[3]?).getD 0), .int .u64 ((x19.S[4]?).getD 0), .int .u64 ((x19.S[5]?).getD 0), .int .u64 ((x19.S[6]?).getD 0), .int .u64 ((x19.S[7]?).getD 0)]) (v := .agg #[.int .u8 x19.Kind, .int .i64 x19.F.Kind, (.slice a1 x19.F.Words.length c1), (.slice a2 x19.Keep.length c2), .int .i64 x19.I, .int .u64 ((x19.S[0]?).getD 0), .int .u64 ((x19.S[1]?).getD 0), .int .u64 ((x19.S[2]?).getD 0), .int .u64 ((x19.S[3]?).getD 0), .int .u64 ((x19.S[4]?).getD 0), .int .u64 ((x19.S[5]?).getD 0), .int .u64 ((x19.S[6]?).getD 0), .int .u64 ((x19.S[7]?).getD 0)]) Tryz.sizeOf42 o1 (E.ev rfl) (E.ev rfl) (Nat.le_of_ble_eq_true rfl) (one_cells rfl) rfl) rfl rfl ?_
            rintro _ s10 ⟨o2, t12⟩
            refine GL_nil ?_
            refine tgn ?_
            refine G_seq ?_
            refine G_seq ?_
            refine G_region ?_
            refine sd E (o_fa Tryz.underlying42 rfl Tryz.sizeOf38 (E.ev rfl)) rfl rfl rfl fun a E => ?_
            refine sd E (o_fa Tryz.underlying38 rfl Tryz.sizeOf36 (E.ev rfl)) rfl rfl rfl fun a E => ?_
            refine sd E (o_ld Tryz.isAgg36 (E.ev rfl) ((o2.cell _).trans rfl)) rfl rfl rfl fun a E => ?_
            have f12 := f10.tr t12
            refine sd E (o_lenS (xs := x19.F.Words) Tryz.underlying36 (E.ev rfl) f12.isS) rfl rfl rfl fun a E => ?_
            refine sd E (o_bi (E.ev rfl) (E.ev rfl) rfl) rfl rfl rfl fun a E => ?_
            refine GL_nil ?_
            refine tgn ?_
            refine G_cond (E.ev rfl) (fun ht => ?_) (fun ht => ?_)
            · have hf1 := cT ht hf1
              refine G_seq ?_
              refine G_region ?_
              refine sd E (o_as (E.ev rfl)) rfl rfl rfl fun a E => ?_
              refine GL_nil ?_
              refine tgn ?_
              refine G_ret ?_
              refine tgr ?_
              refine ebr ?_
              refine tgr ?_
              obtain rfl := Option.some.inj hf1
              refine lpr fun hr => ?_
              subst hr
              dsimp only [m_L3_1k] at hm
              refine ebr ?_
              refine ctr ?_
              refine tgr ?_
              cases hm
              have T4 : Tr (Fz κ []) s s10 := (((((((((t1.no.trans t2.no).trans t3.no).trans (Tr.fw1 Fz.f t4)).trans (Tr.fw1 Fz.f t5)).trans t7.no).trans t8).trans t10.no).trans t11.no).trans (Tr.ft Fz.f t12))
              exact fin1 E rfl rfl ⟨(Tr.fin0 hκ T4), rfl⟩
            · have hf1 := cF ht hf1
              refine G_skip ?_
              refine tgn ?_
              refine G_seq ?_
              refine G_region ?_
              refine sd E (o_fa Tryz.underlying42 rfl Tryz.sizeOf5 (E.ev rfl)) rfl rfl rfl fun a E => ?_
              refine sd E (o_ld Tryz.isAgg5 (E.ev rfl) ((o2.cell _).trans rfl)) rfl rfl rfl fun a E => ?_
              refine sd E (o_rem (E.ev rfl) (E.ev rfl) rfl) rfl rfl rfl fun a E => ?_
              refine GL_nil ?_
              refine tgn ?_
              refine G_block ?_
              refine G_seq ?_
              refine G_region ?_
              refine sd E (o_bi (E.ev rfl) (E.ev rfl) rfl) rfl rfl rfl fun a E => ?_
              refine sd E (o_as (E.ev rfl)) rfl rfl rfl fun a E => ?_
              refine GL_nil ?_
              refine tgn ?_
              obtain ⟨r2, hl2, hf1⟩ := ob_some hf1
              refine G_mid1 (fun a' w' => ∃ x20 x21 x22 x23 x24 s', m_L3_2k x12 x14 (x20, x21, x22, x23, x24) = some x ∧ w' = s'.w ∧ Tr (Fz κ []) s10 s' ∧ DiskAt (κ + 1) s' b1 x21 ∧ RDiskAt (κ + 2) s' b2 x22 ∧ VaultAt (κ + 3) (κ + 4) b1 s' b3 x23 ∧ RVaultAt (κ + 5) (κ + 6) b2 s' b4 x24 ∧ En [] 175 a' [(16, .int .i64 x20), (2, w1), (3, w2), (8, .bool x12), (9, .int .i64 (IntKind.wrap .i64 ((IntKind.wrap .i64 (Int.tmod x1 6)) + 1))), (10, .pointer (some ⟨b1, 0, none⟩)), (11, .pointer (some ⟨b2, 0, none⟩)), (12, .pointer (some ⟨b3, 0, none⟩)), (14, .pointer (some ⟨b4, 0, none⟩)), (17, .int .i64 x14)]) ?_ ?_
              · refine G_cond (E.ev rfl) (fun ht => ?_) (fun ht => ?_)
                · have hl2 := cT ht hl2
                  refine G_seq ?_
                  refine G_region ?_
                  refine sd E (o_mv (E.ev rfl)) rfl rfl rfl fun a E => ?_
                  have f13 := ((h11.trN t10).trN t11).tr t12 (fun i => (nt_fst (ra rfl))) (fun i => (nt_fst (ra rfl)))
                  have f14 := ((h9.trN t10).trN t11).tr t12 (fun i => (nt_fst (ra rfl)))
                  obtain ⟨X3, hx7, hl2⟩ := ob_some hl2
                  refine sh E (o_ok Tryz.call9 (E.evs rfl) (E.ev rfl) (ok_136 _ f13 f14 (ra rfl) (ra rfl) (ra rfl) hx7)) rfl rfl rfl ?_
                  rintro a _ s11 ⟨t13, h16⟩ E
                  refine GL_nil ?_
                  refine tgn ?_
                  refine G_seq ?_
                  refine G_region ?_
                  refine sd E (o_mv (E.ev rfl)) rfl rfl rfl fun a E => ?_
                  have f15 := (((h10.trN t10).trN t11).tr t12 (fun i => (nt_fst (ra rfl)))).tr t13 (fun i => (nW1 (ra rfl)))
                  obtain ⟨X4, hx8, hl2⟩ := ob_some hl2
                  refine sh E (o_ok Tryz.call10 (E.evs rfl) (E.ev rfl) (ok_45 _ f15 hx8)) rfl rfl rfl ?_
                  rintro a _ s12 ⟨t14, h17⟩ E
                  refine GL_nil ?_
                  refine tgn ?_
                  refine G_region ?_
                  refine sd E (o_mv (E.ev rfl)) rfl rfl rfl fun a E => ?_
                  have f16 := ((((h12.trN t10).trN t11).tr t12 (fun i => (nt_fst (ra rfl))) (fun i => (nt_fst (ra rfl)))).tr t13 (fun i => (nW1 (ra rfl))) (fun i => (nW1 (ra rfl)))).tr t14 (fun i => (nW1 (ra rfl))) (fun i => (nW1 (ra rfl)))
                  obtain ⟨y8, hx9, hl2⟩ := ob_some hl2
                  refine sh E (o_ok Tryz.call11 (E.evs rfl) (E.ev rfl) (bd_frozen id fun tr => ok_L11 _ tr f16 (ra rfl) hx9)) rfl rfl rfl ?_
                  rintro a w5 s13 ⟨t15, _, rfl, h18⟩ E
                  refine sd E (o_lenS (xs := y8) Tryz.underlying43 (E.ev rfl) h18.isS) rfl rfl rfl fun a E => ?_
                  refine sd E (o_as (E.ev rfl)) rfl rfl rfl fun a E => ?_
                  refine GL_nil ?_
                  refine ctn ?_
                  cases hl2
                  have f17 := (h16.tr t14 (fun i => (nW1 (ra rfl)))).trN t15
                  have f18 := h17.trN t15
                  have f19 := ((f13.tr t13 (fun i => (nW1 (ra rfl))) (fun i => (nW1 (ra rfl)))).tr t14 (fun i => (nW1 (ra rfl))) (fun i => (nW1 (ra rfl)))).trN t15
                  have f20 := f16.trN t15
                  have T5 : Tr (Fz κ []) s10 s13 := (((Tr.fw1 Fz.f t13).trans (Tr.fw1 Fz.f t14)).trans t15.no)
                  exact ⟨_, _, _, _, _, _, hf1, rfl, T5, f17, f18, f19, f20, ((((((((((E.nil.ad E rfl rfl).ad E rfl rfl).ad E rfl rfl).ad E rfl rfl).ad E rfl rfl).ad E rfl rfl).ad E rfl rfl).ad E rfl rfl).ad E rfl rfl).ad E rfl rfl)⟩
                · have hl2 := cF ht hl2
                  refine G_seq ?_
                  refine G_region ?_
                  refine sd E (o_bi (E.ev rfl) (E.ev rfl) rfl) rfl rfl rfl fun a E => ?_
                  refine sd E (o_as (E.ev rfl)) rfl rfl rfl fun a E => ?_
                  refine GL_nil ?_
                  refine tgn ?_
                  refine G_cond (E.ev rfl) (fun ht => ?_) (fun ht => ?_)
                  · have hl2 := cT ht hl2
                    refine G_seq ?_
                    refine G_seq ?_
                    refine G_region ?_
                    refine sd E (o_mv (E.ev rfl)) rfl rfl rfl fun a E => ?_
                    have f21 := ((h11.trN t10).trN t11).tr t12 (fun i => (nt_fst (ra rfl))) (fun i => (nt_fst (ra rfl)))
                    have f22 := ((h9.trN t10).trN t11).tr t12 (fun i => (nt_fst (ra rfl)))
                    obtain ⟨⟨y9, X5, X6⟩, hx10, hl2⟩ := ob_some hl2
                    refine sh E (o_ok Tryz.call12 (E.evs rfl) (E.ev rfl) (ok_26 _ f21 f22 (ra rfl) (ra rfl) (ra rfl) hx10)) rfl rfl rfl ?_
                    rintro a _ s14 ⟨t16, rfl, h19, h20⟩ E
                    refine sd E (o_bi (E.ev rfl) (E.ev rfl) rfl) rfl rfl rfl fun a E => ?_
                    refine GL_nil ?_
                    refine tgn ?_
                    obtain ⟨r3, hl3, hl2⟩ := ob_some hl2
                    refine G_mid1 (fun a' w' => ∃ x25 s', m_L3_3k x16 x18 X5 X6 x25 = some r2 ∧ w' = s'.w ∧ Tr (Fz κ []) s14 s' ∧ DiskAt (κ + 1) s' b1 X6 ∧ RDiskAt (κ + 2) s' b2 x16 ∧ VaultAt (κ + 3) (κ + 4) b1 s' b3 X5 ∧ RVaultAt (κ + 5) (κ + 6) b2 s' b4 x18 ∧ En [] 175 a' [(16, .int .i64 x25), (2, w1), (3, w2), (8, .bool x12), (9, .int .i64 (IntKind.wrap .i64 ((IntKind.wrap .i64 (Int.tmod x1 6)) + 1))), (10, .pointer (some ⟨b1, 0, none⟩)), (11, .pointer (some ⟨b2, 0, none⟩)), (12, .pointer (some ⟨b3, 0, none⟩)), (14, .pointer (some ⟨b4, 0, none⟩)), (17, .int .i64 x14)]) ?_ ?_
                    · refine G_cond (E.ev rfl) (fun ht => ?_) (fun ht => ?_)
                      · have hl3 := cT ht hl3
                        refine G_region ?_
                        refine sd E (o_mv (E.ev rfl)) rfl rfl rfl fun a E => ?_
                        have f23 := (((h12.trN t10).trN t11).tr t12 (fun i => (nt_fst (ra rfl))) (fun i => (nt_fst (ra rfl)))).tr t16 (fun i => (nW3 (ra rfl) (ra rfl) (ra rfl))) (fun i => (nW3 (ra rfl) (ra rfl) (ra rfl)))
                        obtain ⟨y10, hx11, hl3⟩ := ob_some hl3
                        refine sh E (o_ok Tryz.call11 (E.evs rfl) (E.ev rfl) (bd_frozen id fun tr => ok_L11 _ tr f23 (ra rfl) hx11)) rfl rfl rfl ?_
                        rintro a w6 s15 ⟨t17, _, rfl, h21⟩ E
                        refine sd E (o_lenS (xs := y10) Tryz.underlying43 (E.ev rfl) h21.isS) rfl rfl rfl fun a E => ?_
                        refine sd E (o_as (E.ev rfl)) rfl rfl rfl fun a E => ?_
                        refine GL_nil ?_
                        refine ctn ?_
                        cases hl3
                        have f24 := h20.trN t17
                        have f25 := ((((h10.trN t10).trN t11).tr t12 (fun i => (nt_fst (ra rfl)))).tr t16 (fun i => (nW3 (ra rfl) (ra rfl) (ra rfl)))).trN t17
                        have f26 := h19.trN t17
                        have f27 := f23.trN t17
                        have T6 : Tr (Fz κ []) s14 s15 := t17.no
                        exact ⟨_, _, hl2, rfl, T6, f24, f25, f26, f27, ((((((((((E.nil.ad E rfl rfl).ad E rfl rfl).ad E rfl rfl).ad E rfl rfl).ad E rfl rfl).ad E rfl rfl).ad E rfl rfl).ad E rfl rfl).ad E rfl rfl).ad E rfl rfl)⟩
                      · have hl3 := cF ht hl3
                        refine G_skip ?_
                        refine ctn ?_
                        cases hl3
                        have f28 := (((h10.trN t10).trN t11).tr t12 (fun i => (nt_fst (ra rfl)))).tr t16 (fun i => (nW3 (ra rfl) (ra rfl) (ra rfl)))
                        have f29 := (((h12.trN t10).trN t11).tr t12 (fun i => (nt_fst (ra rfl))) (fun i => (nt_fst (ra rfl)))).tr t16 (fun i => (nW3 (ra rfl) (ra rfl) (ra rfl))) (fun i => (nW3 (ra rfl) (ra rfl) (ra rfl)))
                        exact ⟨_, _, hl2, rfl, (Tr.refl _ _), h20, f28, h19, f29, ((((((((((E.nil.ad E rfl rfl).ad E rfl rfl).ad E rfl rfl).ad E rfl rfl).ad E rfl rfl).ad E rfl rfl).ad E rfl rfl).ad E rfl rfl).ad E rfl rfl).ad E rfl rfl)⟩
                    · rintro a _ ⟨x26, s16, hl2, rfl, t18, h22, h23, h24, h25, E⟩
                      dsimp only [m_L3_3k] at hl2
                      refine tgn ?_
                      refine G_region ?_
                      refine sd E (o_mv (E.ev rfl)) rfl rfl rfl fun a E => ?_
                      obtain ⟨⟨y11, X7, X8⟩, hx12, hl2⟩ := ob_some hl2
                      refine sh E (o_ok Tryz.call13 (E.evs rfl) (E.ev rfl) (ok_L13 _ h25 h23 (ra rfl) (ra rfl) (ra rfl) hx12)) rfl rfl rfl ?_
                      rintro a _ s17 ⟨t19, rfl, h26, h27⟩ E
                      refine GL_nil ?_
                      refine ctn ?_
                      cases hl2
                      have f30 := h22.tr t19 (fun i => (nW3 (ra rfl) (ra rfl) (ra rfl)))
                      have f31 := h24.tr t19 (fun i => (nW3 (ra rfl) (ra rfl) (ra rfl))) (fun i => (nW3 (ra rfl) (ra rfl) (ra rfl)))
                      have T7 : Tr (Fz κ []) s10 s17 := (((Tr.fw3 Fz.f Fz.f Fz.f t16).trans t18).trans (Tr.fw3 Fz.f Fz.f Fz.f t19))
                      exact ⟨_, _, _, _, _, _, hf1, rfl, T7, f30, h27, f31, h26, ((((((((((E.nil.ad E rfl rfl).ad E rfl rfl).ad E rfl rfl).ad E rfl rfl).ad E rfl rfl).ad E rfl rfl).ad E rfl rfl).ad E rfl rfl).ad E rfl rfl).ad E rfl rfl)⟩
                  · have hl2 := cF ht hl2
                    refine G_seq ?_
                    refine G_region ?_
                    refine sd E (o_mv (E.ev rfl)) rfl rfl rfl fun a E => ?_
                    refine sd E (o_fa Tryz.underlying42 rfl Tryz.sizeOf38 (E.ev rfl)) rfl rfl rfl fun a E => ?_
                    refine sd E (o_lda (o := 1) [.int .i64 x19.F.Kind, (.slice a1 x19.F.Words.length c1)] Tryz.isAgg38 Tryz.sizeOf38 (E.ev rfl) rfl (fun j u hj => (o2.cell _).trans (part_get 1 (show (_ : List Value) = _ from rfl) hj))) rfl rfl rfl fun a E => ?_
                    have f32 := ((h11.trN t10).trN t11).tr t12 (fun i => (nt_fst (ra rfl))) (fun i => (nt_fst (ra rfl)))
                    have f33 := ((h9.trN t10).trN t11).tr t12 (fun i => (nt_fst (ra rfl)))
                    obtain ⟨⟨y12, X9, X10⟩, hx13, hl2⟩ := ob_some hl2
                    refine sh E (o_ok Tryz.call14 (E.evs rfl) (E.ev rfl) (ok_27 _ (x1 := (⟨x19.F.Kind, x19.F.Words⟩ : Frame)) f32 f33 f12 (ra rfl) (ra rfl) (ra rfl) hx13)) rfl rfl rfl ?_
                    rintro a _ s18 ⟨t20, rfl, h28, h29⟩ E
                    refine GL_nil ?_
                    refine tgn ?_
                    refine G_drw (κ + 7) (by rfl) [0, 1, 2, 3, 4, 5, 6] (by kernel_rfl) ?_
                    intro s19 t21
                    refine dp E rfl (fun w => (o_mv (E.ev rfl))) rfl rfl rfl fun a E => ?_
                    refine dp E rfl (fun w => (o_nc (E.ev rfl))) rfl rfl rfl fun a E => ?_
                    have f34 := ((((h12.trN t10).trN t11).tr t12 (fun i => (nt_fst (ra rfl))) (fun i => (nt_fst (ra rfl)))).tr t20 (fun i => (nW3 (ra rfl) (ra rfl) (ra rfl))) (fun i => (nW3 (ra rfl) (ra rfl) (ra rfl)))).trN t21
                    obtain ⟨w7, b7, o3, h30, h31⟩ := f34
                    refine dp E rfl (fun w => (o_fa Tryz.underlying52 rfl Tryz.sizeOf50 (E.ev rfl))) rfl rfl rfl fun a E => ?_
                    refine dr E rfl (fun s' t => (o_ld Tryz.isAgg50 (E.ev rfl) (((o3.trN t).cell _).trans rfl))) rfl rfl rfl (by kernel_rfl) fun a E => ?_
                    refine dp E rfl (fun w => (o_fa Tryz.underlying42 rfl Tryz.sizeOf38 (E.ev rfl))) rfl rfl rfl fun a E => ?_
                    have f35 := (o2.tr t20 (nW3 (ra rfl) (ra rfl) (ra rfl))).trN t21
                    refine dr E rfl (fun s' t => (o_lda (o := 1) [.int .i64 x19.F.Kind, (.slice a1 x19.F.Words.length c1)] Tryz.isAgg38 Tryz.sizeOf38 (E.ev rfl) rfl (fun j u hj => ((f35.trN t).cell _).trans (part_get 1 (show (_ : List Value) = _ from rfl) hj)))) rfl rfl rfl (by kernel_rfl) fun a E => ?_
                    have f36 := ((((h10.trN t10).trN t11).tr t12 (fun i => (nt_fst (ra rfl)))).tr t20 (fun i => (nW3 (ra rfl) (ra rfl) (ra rfl)))).trN t21
                    have f37 := (f12.tr t20).tr t21
                    obtain ⟨⟨y13, X11, X12⟩, hx14, hl2⟩ := ob_some hl2
                    refine dl E rfl (o_ok Tryz.call15 (E.evs rfl) (E.ev rfl) (ok_18 _ (x1 := (⟨x19.F.Kind, x19.F.Words⟩ : Frame)) h31 f36 f37 (ra rfl) hx14)) rfl rfl rfl (by kernel_rfl) ?_
                    rintro a _ s20 ⟨t22, rfl, h32, h33⟩ E
                    refine gd_nil ?_
                    refine ctn ?_
                    have f38 := h30.tr t22
                    have f39 := o3.tr t22 (nW2 (ra rfl) (ra rfl))
                    have h34 : RVaultAt (κ + 5) (κ + 6) b2 s20 b4 (⟨x18.Area, (⟨x18.At.Number, x18.At.Epoch, x18.At.Area, x18.At.Words⟩ : Anchor), x18.S, X11⟩ : RVault) := ⟨_, _, f39, f38, h32⟩
                    cases hl2
                    have f40 := (h29.trN t21).tr t22 (fun i => (nW2 (ra rfl) (ra rfl)))
                    have f41 := (h28.trN t21).tr t22 (fun i => (nW2 (ra rfl) (ra rfl))) (fun i => (nW2 (ra rfl) (ra rfl)))
                    have T8 : Tr (Fz κ []) s10 s20 := (((Tr.fw3 Fz.f Fz.f Fz.f t20).trans t21.no).trans (Tr.fw2 Fz.f Fz.f t22))
                    exact ⟨_, _, _, _, _, _, hf1, rfl, T8, f40, h33, f41, h34, ((((((((((E.nil.ad E rfl rfl).ad E rfl rfl).ad E rfl rfl).ad E rfl rfl).ad E rfl rfl).ad E rfl rfl).ad E rfl rfl).ad E rfl rfl).ad E rfl rfl).ad E rfl rfl)⟩
              · rintro a _ ⟨x27, x28, x29, x30, x31, s21, hf1, rfl, t23, h35, h36, h37, h38, E⟩
                dsimp only [m_L3_2k] at hf1
                refine ebn ?_
                refine ebn ?_
                refine tgn ?_
                refine G_region ?_
                refine sd E (o_mv (E.ev rfl)) rfl rfl rfl fun a E => ?_
                refine sd E (o_bi (E.ev rfl) (E.ev rfl) rfl) rfl rfl rfl fun a E => ?_
                refine sd E (o_as (E.ev rfl)) rfl rfl rfl fun a E => ?_
                refine GL_nil ?_
                obtain rfl := Option.some.inj hf1
                have T9 : Tr (Fz κ []) s6 s21 := ((((t8.trans t10.no).trans t11.no).trans (Tr.ft Fz.f t12)).trans t23)
                exact lpn ⟨_, _, _, _, _, _, _, _, rfl, rfl, T9, h35, h36, h37, h38, ((((((((((E.nil.ad E rfl rfl).ad E rfl rfl).ad E rfl rfl).ad E rfl rfl).ad E rfl rfl).ad E rfl rfl).ad E rfl rfl).ad E rfl rfl).ad E rfl rfl).ad E rfl rfl)⟩
          · have hf1 := cF ht hf1
            refine G_exit ?_
            refine tge ?_
            obtain rfl := Option.some.inj hf1
            refine lpe fun hr => ?_
            subst hr
            refine ebk ?_
            refine ctn ?_
            have f42 := h9.trN t10
            have f43 := h10.trN t10
            have f44 := h11.trN t10
            have f45 := h12.trN t10
            have T10 : Tr (Fz κ []) s6 s8 := (t8.trans t10.no)
            exact ⟨_, _, _, _, _, _, _, _, hm, rfl, T10, f42, f43, f44, f45, ((((((((((E.nil.ad E rfl rfl).ad E rfl rfl).ad E rfl rfl).ad E rfl rfl).ad E rfl rfl).ad E rfl rfl).ad E rfl rfl).ad E rfl rfl).ad E rfl rfl).ad E rfl rfl)⟩
        · rintro a _ ⟨x32, x33, x34, x35, x36, x37, x38, s22, hm, rfl, t24, h39, h40, h41, h42, E⟩
          dsimp only [m_L3_1k] at hm
          refine tgn ?_
          refine G_seq ?_
          refine G_region ?_
          refine sd E (o_mv (E.ev rfl)) rfl rfl rfl fun a E => ?_
          obtain ⟨y14, hx15, hm⟩ := ob_some hm
          refine sh E (o_ok Tryz.call11 (E.evs rfl) (E.ev rfl) (bd_frozen id fun tr => ok_L11 _ tr h42 (ra rfl) hx15)) rfl rfl rfl ?_
          rintro a w8 s23 ⟨t25, _, rfl, h43⟩ E
          refine sd E (o_as (E.ev rfl)) rfl rfl rfl fun a E => ?_
          refine GL_nil ?_
          refine tgn ?_
          refine G_seq ?_
          refine G_region ?_
          refine sd E (o_mv (E.ev rfl)) rfl rfl rfl fun a E => ?_
          refine sd E (o_mv (E.ev rfl)) rfl rfl rfl fun a E => ?_
          have f46 := ((((((f1.tr t2).tr t3).tr t4).tr t5).tr t7).tr t24).tr t25
          refine sh E (o_ok Tryz.call17 (E.evs rfl) (E.ev rfl) (ok_20 _ ((κ + 8), 0) (x0 := x3) f46)) rfl rfl rfl ?_
          rintro a _ s24 ⟨t26, b8, b9, w9, rfl, o4, o5, h44⟩ E
          obtain ⟨X13, hx16, hm⟩ := ob_some hm
          have f47 := (h39.trN t25).trN t26
          refine sh E (o_ok Tryz.call16 (E.evs rfl) (E.ev rfl) (oq_19 _ f47 o4 o5 h44 (ra rfl) hx16)) rfl rfl rfl ?_
          rintro a _ s25 ⟨t27, h45⟩ E
          refine GL_nil ?_
          refine tgn ?_
          refine G_seq ?_
          refine G_region ?_
          refine sd E (o_mv (E.ev rfl)) rfl rfl rfl fun a E => ?_
          refine sd E (o_mv (E.ev rfl)) rfl rfl rfl fun a E => ?_
          have f48 := ((h40.trN t25).trN t26).tr t27 (fun i => (nW2 (ra rfl) (ra rfl)))
          have f49 := (f46.tr t26).tr t27
          obtain ⟨X14, hx17, hm⟩ := ob_some hm
          refine sh E (o_ok Tryz.call18 (E.evs rfl) (E.ev rfl) (ok_21 _ (x1 := x3) f48 f49 hx17)) rfl rfl rfl ?_
          rintro a _ s26 ⟨t28, h46⟩ E
          refine GL_nil ?_
          refine tgn ?_
          refine G_seq ?_
          refine G_region ?_
          refine sd E (o_mv (E.ev rfl)) rfl rfl rfl fun a E => ?_
          refine sd E (o_mv (E.ev rfl)) rfl rfl rfl fun a E => ?_
          have f50 := h45.tr t28 (fun i => (nW1 (ra rfl)))
          obtain ⟨⟨y15, y16, X15⟩, hx18, hm⟩ := ob_some hm
          refine sh E (o_ok Tryz.call7 (E.evs rfl) (E.ev rfl) (ok_24 _ (κ + 9) (κ + 10) (x1 := IntKind.wrap .i64 ((IntKind.wrap .i64 (Int.tmod x1 6)) + 1)) f50 hx18)) rfl rfl rfl ?_
          rintro a _ s27 ⟨t29, b10, rfl, h48, h47⟩ E
          refine sd E (o_mv (E.ev rfl)) rfl rfl rfl fun a E => ?_
          refine sd E (o_ext (v := .pointer (some ⟨b10, 0, none⟩)) (E.ev rfl) rfl) rfl rfl rfl fun a E => ?_
          refine sd E (o_ext (v := .int .i64 y16) (E.ev rfl) rfl) rfl rfl rfl fun a E => ?_
          refine sd E (o_as (E.ev rfl)) rfl rfl rfl fun a E => ?_
          refine sd E (o_as (E.ev rfl)) rfl rfl rfl fun a E => ?_
          refine GL_nil ?_
          refine tgn ?_
          refine G_seq ?_
          refine G_region ?_
          refine sd E (o_mv (E.ev rfl)) rfl rfl rfl fun a E => ?_
          refine sd E (o_mv (E.ev rfl)) rfl rfl rfl fun a E => ?_
          have f51 := h46.tr t29 (fun i => (nW1 (ra rfl)))
          obtain ⟨⟨y17, y18, X16⟩, hx19, hm⟩ := ob_some hm
          refine sh E (o_ok Tryz.call8 (E.evs rfl) (E.ev rfl) (ok_L8 _ (κ + 11) (κ + 12) (x1 := IntKind.wrap .i64 ((IntKind.wrap .i64 (Int.tmod x1 6)) + 1)) f51 hx19)) rfl rfl rfl ?_
          rintro a _ s28 ⟨t30, b11, rfl, h50, h49⟩ E
          refine sd E (o_mv (E.ev rfl)) rfl rfl rfl fun a E => ?_
          refine sd E (o_ext (v := .pointer (some ⟨b11, 0, none⟩)) (E.ev rfl) rfl) rfl rfl rfl fun a E => ?_
          refine sd E (o_ext (v := .int .i64 y18) (E.ev rfl) rfl) rfl rfl rfl fun a E => ?_
          refine sd E (o_as (E.ev rfl)) rfl rfl rfl fun a E => ?_
          refine sd E (o_as (E.ev rfl)) rfl rfl rfl fun a E => ?_
          refine GL_nil ?_
          refine tgn ?_
          refine G_seq ?_
          refine G_seq ?_
          refine G_region ?_
          refine sd E (o_mv (E.ev rfl)) rfl rfl rfl fun a E => ?_
          refine sd E (o_mv (E.ev rfl)) rfl rfl rfl fun a E => ?_
          refine sd E (o_bi (E.ev rfl) (E.ev rfl) rfl) rfl rfl rfl fun a E => ?_
          refine GL_nil ?_
          refine tgn ?_
          refine G_cond (E.ev rfl) (fun ht => ?_) (fun ht => ?_)
          · have hm := cT ht hm
            refine G_seq ?_
            refine G_region ?_
            refine sd E (o_as (E.ev rfl)) rfl rfl rfl fun a E => ?_
            refine GL_nil ?_
            refine tgn ?_
            refine G_ret ?_
            refine tgr ?_
            cases hm
            have T11 : Tr (Fz κ []) s s28 := ((((((((((((t1.no.trans t2.no).trans t3.no).trans (Tr.fw1 Fz.f t4)).trans (Tr.fw1 Fz.f t5)).trans t7.no).trans t24).trans t25.no).trans t26.no).trans (Tr.fw2 Fz.f Fz.f t27)).trans (Tr.fw1 Fz.f t28)).trans (Tr.fw1 Fz.f t29)).trans (Tr.fw1 Fz.f t30))
            exact fin1 E rfl rfl ⟨(Tr.fin0 hκ T11), rfl⟩
          · have hm := cF ht hm
            refine G_skip ?_
            refine tgn ?_
            refine G_seq ?_
            refine G_seq ?_
            refine G_region ?_
            refine sd E (o_mv (E.ev rfl)) rfl rfl rfl fun a E => ?_
            refine sd E (o_bi (E.ev rfl) (E.ev rfl) rfl) rfl rfl rfl fun a E => ?_
            refine GL_nil ?_
            refine tgn ?_
            refine G_cond (E.ev rfl) (fun ht => ?_) (fun ht => ?_)
            · have hm := cT ht hm
              refine G_seq ?_
              refine G_region ?_
              refine sd E (o_as (E.ev rfl)) rfl rfl rfl fun a E => ?_
              refine GL_nil ?_
              refine tgn ?_
              refine G_ret ?_
              refine tgr ?_
              cases hm
              have T12 : Tr (Fz κ []) s s28 := ((((((((((((t1.no.trans t2.no).trans t3.no).trans (Tr.fw1 Fz.f t4)).trans (Tr.fw1 Fz.f t5)).trans t7.no).trans t24).trans t25.no).trans t26.no).trans (Tr.fw2 Fz.f Fz.f t27)).trans (Tr.fw1 Fz.f t28)).trans (Tr.fw1 Fz.f t29)).trans (Tr.fw1 Fz.f t30))
              exact fin1 E rfl rfl ⟨(Tr.fin0 hκ T12), rfl⟩
            · have hm := cF ht hm
              refine G_skip ?_
              refine tgn ?_
              refine G_seq ?_
              refine G_region ?_
              refine sd E (o_mv (E.ev rfl)) rfl rfl rfl fun a E => ?_
              have f52 := h47.tr t30 (fun i => (nW1 (ra rfl))) (fun i => (nW1 (ra rfl)))
              obtain ⟨y19, hx20, hm⟩ := ob_some hm
              refine sh E (o_ok Tryz.call19 (E.evs rfl) (E.ev rfl) (bd_frozen id fun tr => ok_25 _ tr f52 (ra rfl) hx20)) rfl rfl rfl ?_
              rintro a w10 s29 ⟨t31, _, rfl, h51⟩ E
              refine sd E (o_as (E.ev rfl)) rfl rfl rfl fun a E => ?_
              refine GL_nil ?_
              refine tgn ?_
              refine G_seq ?_
              refine G_seq ?_
              refine G_region ?_
              refine sd E (o_mv (E.ev rfl)) rfl rfl rfl fun a E => ?_
              refine sd E (o_mv (E.ev rfl)) rfl rfl rfl fun a E => ?_
              have f53 := h49.trN t31
              obtain ⟨y20, hx21, hm⟩ := ob_some hm
              refine sh E (o_ok Tryz.call11 (E.evs rfl) (E.ev rfl) (bd_frozen id fun tr => ok_L11 _ tr f53 (ra rfl) hx21)) rfl rfl rfl ?_
              rintro a w11 s30 ⟨t32, _, rfl, h52⟩ E
              have f54 := h51.tr t32
              obtain ⟨y21, hx22, hm⟩ := ob_some hm
              refine sh E (o_ok Tryz.call20 (E.evs rfl) (E.ev rfl) (ok_11 _ (x0 := y19) (x1 := y20) f54 h52 hx22)) rfl rfl rfl ?_
              rintro a _ s31 ⟨t33, rfl⟩ E
              refine sd E (o_not (E.ev rfl)) rfl rfl rfl fun a E => ?_
              refine GL_nil ?_
              refine tgn ?_
              refine G_cond (E.ev rfl) (fun ht => ?_) (fun ht => ?_)
              · have hm := cT ht hm
                refine G_seq ?_
                refine G_region ?_
                refine sd E (o_as (E.ev rfl)) rfl rfl rfl fun a E => ?_
                refine GL_nil ?_
                refine tgn ?_
                refine G_ret ?_
                refine tgr ?_
                cases hm
                have T13 : Tr (Fz κ []) s s31 := (((((((((((((((t1.no.trans t2.no).trans t3.no).trans (Tr.fw1 Fz.f t4)).trans (Tr.fw1 Fz.f t5)).trans t7.no).trans t24).trans t25.no).trans t26.no).trans (Tr.fw2 Fz.f Fz.f t27)).trans (Tr.fw1 Fz.f t28)).trans (Tr.fw1 Fz.f t29)).trans (Tr.fw1 Fz.f t30)).trans t31.no).trans t32.no).trans t33.no)
                exact fin1 E rfl rfl ⟨(Tr.fin0 hκ T13), rfl⟩
              · have hm := cF ht hm
                refine G_skip ?_
                refine tgn ?_
                refine G_seq ?_
                refine G_seq ?_
                obtain ⟨t34, hc3, hm⟩ := ob_some hm
                refine G_regm (fun a' w' => ∃ s', w' = s'.w ∧ Tr (Fz κ []) s31 s' ∧ En [] 175 a' [(170, .bool t34), (8, .bool x32), (16, .int .i64 x33), (24, w10)]) ?_ ?_
                · refine sd E (o_mv (E.ev rfl)) rfl rfl rfl fun a E => ?_
                  have f55 := f54.tr t33
                  refine sd E (o_lenS (xs := y19) Tryz.underlying43 (E.ev rfl) f55.isS) rfl rfl rfl fun a E => ?_
                  refine sd E (o_mv (E.ev rfl)) rfl rfl rfl fun a E => ?_
                  have f56 := (((((((h43.tr t26).tr t27).tr t28).tr t29).tr t30).tr t31).tr t32).tr t33
                  refine sd E (o_lenS (xs := y14) Tryz.underlying43 (E.ev rfl) f56.isS) rfl rfl rfl fun a E => ?_
                  refine sd E (o_bi (E.ev rfl) (E.ev rfl) rfl) rfl rfl rfl fun a E => ?_
                  refine sd E (o_mv (E.ev rfl)) rfl rfl rfl fun a E => ?_
                  refine bcase (E.ev (x := .tmp 162) rfl) (fun ht => ?_) (fun ht => ?_)
                  · have hc3 := cT ht hc3
                    rw [ht] at E
                    refine sk E rfl rfl rfl fun a E => ?_
                    refine sk E rfl rfl rfl fun a E => ?_
                    refine sk E rfl rfl rfl fun a E => ?_
                    refine sk E rfl rfl rfl fun a E => ?_
                    refine sk E rfl rfl rfl fun a E => ?_
                    refine sk E rfl rfl rfl fun a E => ?_
                    refine sk E rfl rfl rfl fun a E => ?_
                    refine sd E (o_pickT (E.ev rfl) (E.ev rfl)) rfl rfl rfl fun a E => ?_
                    obtain rfl := Option.some.inj hc3
                    exact GL_nil ⟨_, rfl, (Tr.refl _ _), ((((E.nil.ad E rfl rfl).ad E rfl rfl).ad E rfl rfl).ad E rfl rfl)⟩
                  · have hc3 := cF ht hc3
                    rw [ht] at E
                    refine sd E (o_mv (E.ev rfl)) rfl rfl rfl fun a E => ?_
                    refine sd E (o_mv (E.ev rfl)) rfl rfl rfl fun a E => ?_
                    refine sd E (o_mv (E.ev rfl)) rfl rfl rfl fun a E => ?_
                    refine sd E (o_lenS (xs := y19) Tryz.underlying43 (E.ev rfl) f55.isS) rfl rfl rfl fun a E => ?_
                    obtain ⟨x39, hx23, hc3⟩ := ob_some hc3
                    obtain ⟨w12, g2, h53⟩ := f56.sl hx23
                    refine sd E (o_slH Tryz.underlying43 Tryz.sizeOf38 g2 (E.ev rfl) (E.ev rfl)) rfl rfl rfl fun a E => ?_
                    obtain ⟨y22, hx24, hc3⟩ := ob_some hc3
                    refine sh E (o_ok Tryz.call20 (E.evs rfl) (E.ev rfl) (ok_11 _ (x0 := y19) (x1 := x39) f55 h53 hx24)) rfl rfl rfl ?_
                    rintro a _ s32 ⟨t35, rfl⟩ E
                    refine sd E (o_not (E.ev rfl)) rfl rfl rfl fun a E => ?_
                    refine sd E (o_pickF (E.ev rfl) (E.ev rfl)) rfl rfl rfl fun a E => ?_
                    obtain rfl := Option.some.inj hc3
                    exact GL_nil ⟨_, rfl, t35.no, ((((E.nil.ad E rfl rfl).ad E rfl rfl).ad E rfl rfl).ad E rfl rfl)⟩
                rintro a _ ⟨s33, rfl, t36, E⟩
                refine tgn ?_
                refine G_cond (E.ev rfl) (fun ht => ?_) (fun ht => ?_)
                · have hm := cT ht hm
                  refine G_seq ?_
                  refine G_region ?_
                  refine sd E (o_as (E.ev rfl)) rfl rfl rfl fun a E => ?_
                  refine GL_nil ?_
                  refine tgn ?_
                  refine G_ret ?_
                  refine tgr ?_
                  cases hm
                  have T14 : Tr (Fz κ []) s s33 := ((((((((((((((((t1.no.trans t2.no).trans t3.no).trans (Tr.fw1 Fz.f t4)).trans (Tr.fw1 Fz.f t5)).trans t7.no).trans t24).trans t25.no).trans t26.no).trans (Tr.fw2 Fz.f Fz.f t27)).trans (Tr.fw1 Fz.f t28)).trans (Tr.fw1 Fz.f t29)).trans (Tr.fw1 Fz.f t30)).trans t31.no).trans t32.no).trans t33.no).trans t36)
                  exact fin1 E rfl rfl ⟨(Tr.fin0 hκ T14), rfl⟩
                · have hm := cF ht hm
                  refine G_skip ?_
                  refine tgn ?_
                  refine G_seq ?_
                  refine G_region ?_
                  refine sd E (o_mv (E.ev rfl)) rfl rfl rfl fun a E => ?_
                  have f57 := (f54.tr t33).tr t36
                  refine sd E (o_lenS (xs := y19) Tryz.underlying43 (E.ev rfl) f57.isS) rfl rfl rfl fun a E => ?_
                  refine sd E (o_mv (E.ev rfl)) rfl rfl rfl fun a E => ?_
                  refine sd E (o_bi (E.ev rfl) (E.ev rfl) rfl) rfl rfl rfl fun a E => ?_
                  refine sd E (o_as (E.ev rfl)) rfl rfl rfl fun a E => ?_
                  refine GL_nil ?_
                  refine tgn ?_
                  refine G_ret ?_
                  cases hm
                  have T15 : Tr (Fz κ []) s s33 := ((((((((((((((((t1.no.trans t2.no).trans t3.no).trans (Tr.fw1 Fz.f t4)).trans (Tr.fw1 Fz.f t5)).trans t7.no).trans t24).trans t25.no).trans t26.no).trans (Tr.fw2 Fz.f Fz.f t27)).trans (Tr.fw1 Fz.f t28)).trans (Tr.fw1 Fz.f t29)).trans (Tr.fw1 Fz.f t30)).trans t31.no).trans t32.no).trans t33.no).trans t36)
                  exact fin1 E rfl rfl ⟨(Tr.fin0 hκ T15), rfl⟩

end Go.Proofs.YtdkfdmalbbfbmaaGreat
