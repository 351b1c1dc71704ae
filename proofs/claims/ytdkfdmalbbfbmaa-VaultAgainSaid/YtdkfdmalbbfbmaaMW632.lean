/- Models and walks, printed by a program of ours. -/
import Derived.Test.YtdkfdmalbbfbmaaMW631
/- Models and walks, printed by a program of ours. -/
namespace Go.Proofs.Ytdkfdmalbbfbmaa
open Go Go.Maps
set_option maxRecDepth 4000
set_option maxHeartbeats 1000000
-- gimmal/gimmallaw22.alive

noncomputable def m_23 : Option Bool :=
  ob (m_8 5) fun y1 => ob (m_24 y1 1) fun (y2, y3, X1) => ob (bif y3 == 0 then (ob (m_28 y2) fun y4 => bif y4 == 8 then (ob (m_27 y2 X1 (⟨1, []⟩ : Frame)) fun (y5, X4, X5) => bif y5 == 0 then (ob (m_26 X4 X5) fun (y6, X6, X7) => bif y6 == 0 then (ob (m_28 X6) fun y7 => bif y7 == 8 then (ob (m_30 X6) fun y8 => some (y8 == 1, X7, X6)) else (some (false, X7, X6))) else (some (false, X7, X6))) else (some (false, X5, X4))) else (some (false, X1, y2))) else (some (false, X1, y2))) fun (t3, X2, X3) => some t3
theorem ok_23 (s : St) {r0y : Bool} (hm : m_23 = some r0y) :
    Ok Try.prog 23 ([] : List Value).toArray s fun v s' => Tr No s s' ∧ v = .bool r0y := by
  unfold m_23 at hm
  obtain ⟨κ, hκ⟩ := s.fresh
  refine ok_of (n := 36) _ Try.func23 rfl _ rfl rfl fun a E => ?_
  refine G_seq ?_
  refine G_region ?_
  refine sd E (o_as (E.ev rfl)) rfl rfl rfl fun a E => ?_
  refine GL_nil ?_
  refine tgn ?_
  refine G_seq ?_
  refine G_region ?_
  obtain ⟨y1, hx1, hm⟩ := ob_some hm
  refine sh E (o_ok Try.call8 (E.evs rfl) (E.ev rfl) (oq_8 _ (κ + 1) (x0 := 5) hx1)) rfl rfl rfl ?_
  rintro a _ s1 ⟨t1, b1, rfl, h1⟩ E
  obtain ⟨⟨y2, y3, X1⟩, hx2, hm⟩ := ob_some hm
  refine sh E (o_ok Try.call24 (E.evs rfl) (E.ev rfl) (ok_24 _ (κ + 2) (κ + 3) (x1 := 1) h1 hx2)) rfl rfl rfl ?_
  rintro a _ s2 ⟨t2, b2, rfl, h3, h2⟩ E
  refine sd E (o_mv (E.ev rfl)) rfl rfl rfl fun a E => ?_
  refine sd E (o_ext (v := .pointer (some ⟨b2, 0, none⟩)) (E.ev rfl) rfl) rfl rfl rfl fun a E => ?_
  refine sd E (o_ext (v := .int .i64 y3) (E.ev rfl) rfl) rfl rfl rfl fun a E => ?_
  refine sd E (o_as (E.ev rfl)) rfl rfl rfl fun a E => ?_
  refine sd E (o_as (E.ev rfl)) rfl rfl rfl fun a E => ?_
  refine GL_nil ?_
  refine tgn ?_
  refine G_seq ?_
  obtain ⟨⟨t3, X2, X3⟩, hc1, hm⟩ := ob_some hm
  refine G_regm (fun a' w' => ∃ s', w' = s'.w ∧ Tr (Fz κ []) s2 s' ∧ En [] 36 a' [(0, .bool t3)]) ?_ ?_
  · refine sd E (o_mv (E.ev rfl)) rfl rfl rfl fun a E => ?_
    refine sd E (o_bi (E.ev rfl) (E.ev rfl) rfl) rfl rfl rfl fun a E => ?_
    refine sd E (o_mv (E.ev rfl)) rfl rfl rfl fun a E => ?_
    refine bcase (E.ev (x := .tmp 10) rfl) (fun ht => ?_) (fun ht => ?_)
    · have hc1 := cT ht hc1
      rw [ht] at E
      refine sd E (o_mv (E.ev rfl)) rfl rfl rfl fun a E => ?_
      obtain ⟨y4, hx3, hc1⟩ := ob_some hc1
      refine sh E (o_ok Try.call28 (E.evs rfl) (E.ev rfl) (ok_28 _ h2 (ra rfl) hx3)) rfl rfl rfl ?_
      rintro a _ s3 ⟨t4, rfl⟩ E
      refine sd E (o_bi (E.ev rfl) (E.ev rfl) rfl) rfl rfl rfl fun a E => ?_
      refine sd E (o_pickT (E.ev rfl) (E.ev rfl)) rfl rfl rfl fun a E => ?_
      refine sd E (o_mv (E.ev rfl)) rfl rfl rfl fun a E => ?_
      refine bcase (E.ev (x := .tmp 15) rfl) (fun ht => ?_) (fun ht => ?_)
      · have hc1 := cT ht hc1
        rw [ht] at E
        refine sd E (o_mv (E.ev rfl)) rfl rfl rfl fun a E => ?_
        refine sd E (o_bd (cells := #[.int .i64 1, (.slice none 0 0)]) (places := #[(0, 1), (1, 1)]) Try.zeroValue32 Try.underlying32 (fun w => by simp [Sem.run_bind, Result.andThen, Try.sizeOf3, Try.sizeOf30]) (qs := #[(0, .int .i64 1)]) (by simp only [List.map_toArray, List.map_cons, List.map_nil, E.ev (x := .const (.int .i64 1)) (v := .int .i64 1) rfl]) (by kernel_rfl)) rfl rfl rfl fun a E => ?_
        have f1 := h2.trN t4
        have f2 := h3.trN t4
        obtain ⟨⟨y5, X4, X5⟩, hx4, hc1⟩ := ob_some hc1
        refine sh E (o_ok Try.call27 (E.evs rfl) (E.ev rfl) (ok_27 _ (x1 := (⟨1, []⟩ : Frame)) f1 f2 (Sl.nil) (ra rfl) (ra rfl) (ra rfl) hx4)) rfl rfl rfl ?_
        rintro a _ s4 ⟨t5, rfl, h4, h5⟩ E
        refine sd E (o_bi (E.ev rfl) (E.ev rfl) rfl) rfl rfl rfl fun a E => ?_
        refine sd E (o_pickT (E.ev rfl) (E.ev rfl)) rfl rfl rfl fun a E => ?_
        refine sd E (o_mv (E.ev rfl)) rfl rfl rfl fun a E => ?_
        refine bcase (E.ev (x := .tmp 21) rfl) (fun ht => ?_) (fun ht => ?_)
        · have hc1 := cT ht hc1
          rw [ht] at E
          refine sd E (o_mv (E.ev rfl)) rfl rfl rfl fun a E => ?_
          obtain ⟨⟨y6, X6, X7⟩, hx5, hc1⟩ := ob_some hc1
          refine sh E (o_ok Try.call26 (E.evs rfl) (E.ev rfl) (ok_26 _ h4 h5 (ra rfl) (ra rfl) (ra rfl) hx5)) rfl rfl rfl ?_
          rintro a _ s5 ⟨t6, rfl, h6, h7⟩ E
          refine sd E (o_bi (E.ev rfl) (E.ev rfl) rfl) rfl rfl rfl fun a E => ?_
          refine sd E (o_pickT (E.ev rfl) (E.ev rfl)) rfl rfl rfl fun a E => ?_
          refine sd E (o_mv (E.ev rfl)) rfl rfl rfl fun a E => ?_
          refine bcase (E.ev (x := .tmp 26) rfl) (fun ht => ?_) (fun ht => ?_)
          · have hc1 := cT ht hc1
            rw [ht] at E
            refine sd E (o_mv (E.ev rfl)) rfl rfl rfl fun a E => ?_
            obtain ⟨y7, hx6, hc1⟩ := ob_some hc1
            refine sh E (o_ok Try.call28 (E.evs rfl) (E.ev rfl) (ok_28 _ h6 (ra rfl) hx6)) rfl rfl rfl ?_
            rintro a _ s6 ⟨t7, rfl⟩ E
            refine sd E (o_bi (E.ev rfl) (E.ev rfl) rfl) rfl rfl rfl fun a E => ?_
            refine sd E (o_pickT (E.ev rfl) (E.ev rfl)) rfl rfl rfl fun a E => ?_
            refine sd E (o_mv (E.ev rfl)) rfl rfl rfl fun a E => ?_
            refine bcase (E.ev (x := .tmp 31) rfl) (fun ht => ?_) (fun ht => ?_)
            · have hc1 := cT ht hc1
              rw [ht] at E
              refine sd E (o_mv (E.ev rfl)) rfl rfl rfl fun a E => ?_
              have f3 := h6.trN t7
              obtain ⟨y8, hx7, hc1⟩ := ob_some hc1
              refine sh E (o_ok Try.call30 (E.evs rfl) (E.ev rfl) (ok_30 _ f3 (ra rfl) hx7)) rfl rfl rfl ?_
              rintro a _ s7 ⟨t8, rfl⟩ E
              refine sd E (o_bi (E.ev rfl) (E.ev rfl) rfl) rfl rfl rfl fun a E => ?_
              refine sd E (o_pickT (E.ev rfl) (E.ev rfl)) rfl rfl rfl fun a E => ?_
              refine sd E (o_as (E.ev rfl)) rfl rfl rfl fun a E => ?_
              cases hc1
              exact GL_nil ⟨_, rfl, ((((t4.no.trans (Tr.fw3 Fz.f Fz.f Fz.f t5)).trans (Tr.fw3 Fz.f Fz.f Fz.f t6)).trans t7.no).trans t8.no), (E.nil.ad E rfl rfl)⟩
            · have hc1 := cF ht hc1
              rw [ht] at E
              refine sk E rfl rfl rfl fun a E => ?_
              refine sk E rfl rfl rfl fun a E => ?_
              refine sk E rfl rfl rfl fun a E => ?_
              refine sd E (o_pickF (E.ev rfl) (E.ev rfl)) rfl rfl rfl fun a E => ?_
              refine sd E (o_as (E.ev rfl)) rfl rfl rfl fun a E => ?_
              cases hc1
              exact GL_nil ⟨_, rfl, (((t4.no.trans (Tr.fw3 Fz.f Fz.f Fz.f t5)).trans (Tr.fw3 Fz.f Fz.f Fz.f t6)).trans t7.no), (E.nil.ad E rfl rfl)⟩
          · have hc1 := cF ht hc1
            rw [ht] at E
            refine sk E rfl rfl rfl fun a E => ?_
            refine sk E rfl rfl rfl fun a E => ?_
            refine sk E rfl rfl rfl fun a E => ?_
            refine sd E (o_pickF (E.ev rfl) (E.ev rfl)) rfl rfl rfl fun a E => ?_
            refine sd E (o_mv (E.ev rfl)) rfl rfl rfl fun a E => ?_
            refine sk E rfl rfl rfl fun a E => ?_
            refine sk E rfl rfl rfl fun a E => ?_
            refine sk E rfl rfl rfl fun a E => ?_
            refine sd E (o_pickF (E.ev rfl) (E.ev rfl)) rfl rfl rfl fun a E => ?_
            refine sd E (o_as (E.ev rfl)) rfl rfl rfl fun a E => ?_
            cases hc1
            exact GL_nil ⟨_, rfl, ((t4.no.trans (Tr.fw3 Fz.f Fz.f Fz.f t5)).trans (Tr.fw3 Fz.f Fz.f Fz.f t6)), (E.nil.ad E rfl rfl)⟩
        · have hc1 := cF ht hc1
          rw [ht] at E
          refine sk E rfl rfl rfl fun a E => ?_
          refine sk E rfl rfl rfl fun a E => ?_
          refine sk E rfl rfl rfl fun a E => ?_
          refine sd E (o_pickF (E.ev rfl) (E.ev rfl)) rfl rfl rfl fun a E => ?_
          refine sd E (o_mv (E.ev rfl)) rfl rfl rfl fun a E => ?_
          refine sk E rfl rfl rfl fun a E => ?_
          refine sk E rfl rfl rfl fun a E => ?_
          refine sk E rfl rfl rfl fun a E => ?_
          refine sd E (o_pickF (E.ev rfl) (E.ev rfl)) rfl rfl rfl fun a E => ?_
          refine sd E (o_mv (E.ev rfl)) rfl rfl rfl fun a E => ?_
          refine sk E rfl rfl rfl fun a E => ?_
          refine sk E rfl rfl rfl fun a E => ?_
          refine sk E rfl rfl rfl fun a E => ?_
          refine sd E (o_pickF (E.ev rfl) (E.ev rfl)) rfl rfl rfl fun a E => ?_
          refine sd E (o_as (E.ev rfl)) rfl rfl rfl fun a E => ?_
          cases hc1
          exact GL_nil ⟨_, rfl, (t4.no.trans (Tr.fw3 Fz.f Fz.f Fz.f t5)), (E.nil.ad E rfl rfl)⟩
      · have hc1 := cF ht hc1
        rw [ht] at E
        refine sk E rfl rfl rfl fun a E => ?_
        refine sk E rfl rfl rfl fun a E => ?_
        refine sk E rfl rfl rfl fun a E => ?_
        refine sk E rfl rfl rfl fun a E => ?_
        refine sd E (o_pickF (E.ev rfl) (E.ev rfl)) rfl rfl rfl fun a E => ?_
        refine sd E (o_mv (E.ev rfl)) rfl rfl rfl fun a E => ?_
        refine sk E rfl rfl rfl fun a E => ?_
        refine sk E rfl rfl rfl fun a E => ?_
        refine sk E rfl rfl rfl fun a E => ?_
        refine sd E (o_pickF (E.ev rfl) (E.ev rfl)) rfl rfl rfl fun a E => ?_
        refine sd E (o_mv (E.ev rfl)) rfl rfl rfl fun a E => ?_
        refine sk E rfl rfl rfl fun a E => ?_
        refine sk E rfl rfl rfl fun a E => ?_
        refine sk E rfl rfl rfl fun a E => ?_
        refine sd E (o_pickF (E.ev rfl) (E.ev rfl)) rfl rfl rfl fun a E => ?_
        refine sd E (o_mv (E.ev rfl)) rfl rfl rfl fun a E => ?_
        refine sk E rfl rfl rfl fun a E => ?_
        refine sk E rfl rfl rfl fun a E => ?_
        refine sk E rfl rfl rfl fun a E => ?_
        refine sd E (o_pickF (E.ev rfl) (E.ev rfl)) rfl rfl rfl fun a E => ?_
        refine sd E (o_as (E.ev rfl)) rfl rfl rfl fun a E => ?_
        cases hc1
        exact GL_nil ⟨_, rfl, t4.no, (E.nil.ad E rfl rfl)⟩
    · have hc1 := cF ht hc1
      rw [ht] at E
      refine sk E rfl rfl rfl fun a E => ?_
      refine sk E rfl rfl rfl fun a E => ?_
      refine sk E rfl rfl rfl fun a E => ?_
      refine sd E (o_pickF (E.ev rfl) (E.ev rfl)) rfl rfl rfl fun a E => ?_
      refine sd E (o_mv (E.ev rfl)) rfl rfl rfl fun a E => ?_
      refine sk E rfl rfl rfl fun a E => ?_
      refine sk E rfl rfl rfl fun a E => ?_
      refine sk E rfl rfl rfl fun a E => ?_
      refine sk E rfl rfl rfl fun a E => ?_
      refine sd E (o_pickF (E.ev rfl) (E.ev rfl)) rfl rfl rfl fun a E => ?_
      refine sd E (o_mv (E.ev rfl)) rfl rfl rfl fun a E => ?_
      refine sk E rfl rfl rfl fun a E => ?_
      refine sk E rfl rfl rfl fun a E => ?_
      refine sk E rfl rfl rfl fun a E => ?_
      refine sd E (o_pickF (E.ev rfl) (E.ev rfl)) rfl rfl rfl fun a E => ?_
      refine sd E (o_mv (E.ev rfl)) rfl rfl rfl fun a E => ?_
      refine sk E rfl rfl rfl fun a E => ?_
      refine sk E rfl rfl rfl fun a E => ?_
      refine sk E rfl rfl rfl fun a E => ?_
      refine sd E (o_pickF (E.ev rfl) (E.ev rfl)) rfl rfl rfl fun a E => ?_
      refine sd E (o_mv (E.ev rfl)) rfl rfl rfl fun a E => ?_
      refine sk E rfl rfl rfl fun a E => ?_
      refine sk E rfl rfl rfl fun a E => ?_
      refine sk E rfl rfl rfl fun a E => ?_
      refine sd E (o_pickF (E.ev rfl) (E.ev rfl)) rfl rfl rfl fun a E => ?_
      refine sd E (o_as (E.ev rfl)) rfl rfl rfl fun a E => ?_
      cases hc1
      exact GL_nil ⟨_, rfl, (Tr.refl _ _), (E.nil.ad E rfl rfl)⟩
  rintro a _ ⟨s8, rfl, t9, E⟩
  refine tgn ?_
  refine G_ret ?_
  cases hm
  have T1 : Tr (Fz κ []) s s8 := ((t1.no.trans (Tr.fw1 Fz.f t2)).trans t9)
  exact fin1 E rfl rfl ⟨(Tr.fin0 hκ T1), rfl⟩

-- gimmal/gimmallaw22.VaultAgain
noncomputable def m_6_2k (x8 : Bool) (x9 : Int) (X4 : VaultM) (X5 : Disk) : (List Frame) → Option (Lo (Bool × Int × Disk × VaultM) (Sum (Bool × Int × Disk × VaultM) Bool)) := fun x18 => ob (m_25 X4) fun y10 => ob (m_11 x18 y10) fun y11 => bif !y11 then (some (.inr (.inr false))) else (some (.inl (x8, IntKind.wrap .i64 (x9 + 1), X5, X4)))
noncomputable def m_6_1b (x2 : List OpV) : (Bool × Int × Disk × VaultM) → Option (Lo (Bool × Int × Disk × VaultM) (Sum (Bool × Int × Disk × VaultM) Bool)) := fun (x8, x9, x10, x11) => ob (bif decide (x9 < (x2.length : Int)) then (some (decide (x9 < 30))) else (some false)) fun t5 => bif t5 then (ob (gt x2 x9) fun x12 => bif decide ((x12.F.Words.length : Int) > 400) then (some (.inr (.inr true))) else (ob (m_25 x11) fun y5 => ob (gt x2 x9) fun x13 => bif (Int.tmod x13.Kind 8) == 5 then (ob (m_26 x11 x10) fun (y6, X2, X3) => ob (m_25 X2) fun y7 => ob (m_11 y5 y7) fun y8 => bif !y8 then (some (.inr (.inr false))) else (some (.inl (x8, IntKind.wrap .i64 (x9 + 1), X3, X2)))) else (ob (gt x2 x9) fun x14 => ob (m_27 x11 x10 x14.F) fun (y9, X4, X5) => ob (bif y9 == 0 then (ob (gt x2 x9) fun x16 => ob (ap y5 [x16.F]) fun x17 => some x17) else (some y5)) (m_6_2k x8 x9 X4 X5)))) else (some (.inr (.inl (x8, x9, x10, x11))))
noncomputable def m_6_1k (x1 : Int) : Sum (Bool × Int × Disk × VaultM) Bool → Option Bool
  | .inl (x19, x20, x21, x22) => ob (m_24 x21 (IntKind.wrap .i64 ((IntKind.wrap .i64 (Int.tmod x1 6)) + 1))) fun (y12, y13, X6) => ob (bif y13 == 0 then (ob (m_25 x22) fun y14 => ob (m_25 y12) fun y15 => ob (m_11 y14 y15) fun y16 => bif y16 then (ob (m_28 x22) fun y17 => ob (m_28 y12) fun y18 => bif y17 == y18 then (ob (m_29 x22) fun y19 => ob (m_29 y12) fun y20 => bif y19 == y20 then (ob (m_30 x22) fun y21 => ob (m_30 y12) fun y22 => some (y21 == y22)) else (some false)) else (some false)) else (some false)) else (some false)) fun t21 => some t21
  | .inr y => some y
noncomputable def m_6 (x0 : Int) (x1 : Int) (x2 : List OpV) : Option Bool :=
  ob (m_23) fun y1 => bif !y1 then (some false) else (ob (m_8 (IntKind.wrap .i64 ((IntKind.wrap .i64 (3 + (IntKind.wrap .i64 (2 * (IntKind.wrap .i64 ((IntKind.wrap .i64 (Int.tmod x1 6)) + 1)))))) + (IntKind.wrap .i64 (Int.tmod x0 12))))) fun y2 => ob (m_24 y2 (IntKind.wrap .i64 ((IntKind.wrap .i64 (Int.tmod x1 6)) + 1))) fun (y3, y4, X1) => bif y4 != 0 then (some false) else (ob (loopO (m_6_1b x2) (false, 0, X1, y3)) (m_6_1k x1)))
theorem ok_6 (s : St) {x0 : Int} {x1 : Int} {x2 : List OpV} {w1 : Value} (h1 : Sl kOpV s w1 x2) {r0y : Bool} (hm : m_6 x0 x1 x2 = some r0y) :
    Ok Try.prog 6 ([.int .u8 x0, .int .u8 x1, w1] : List Value).toArray s fun v s' => Tr No s s' ∧ v = .bool r0y := by
  unfold m_6 at hm
  obtain ⟨κ, hκ⟩ := s.fresh
  refine ok_of (n := 128) _ Try.func6 rfl _ rfl rfl fun a E => ?_
  refine G_seq ?_
  refine G_region ?_
  refine sd E (o_as (E.ev rfl)) rfl rfl rfl fun a E => ?_
  refine GL_nil ?_
  refine tgn ?_
  refine G_seq ?_
  refine G_seq ?_
  refine G_region ?_
  obtain ⟨y1, hx1, hm⟩ := ob_some hm
  refine sh E (o_ok Try.call23 (E.evs rfl) (E.ev rfl) (ok_23 _ hx1)) rfl rfl rfl ?_
  rintro a _ s1 ⟨t1, rfl⟩ E
  refine sd E (o_not (E.ev rfl)) rfl rfl rfl fun a E => ?_
  refine GL_nil ?_
  refine tgn ?_
  refine G_cond (E.ev rfl) (fun ht => ?_) (fun ht => ?_)
  · have hm := cT ht hm
    refine G_seq ?_
    refine G_region ?_
    refine sd E (o_as (E.ev rfl)) rfl rfl rfl fun a E => ?_
    refine GL_nil ?_
    refine tgn ?_
    refine G_ret ?_
    refine tgr ?_
    cases hm
    have T1 : Tr (Fz κ []) s s1 := t1.no
    exact fin1 E rfl rfl ⟨(Tr.fin0 hκ T1), rfl⟩
  · have hm := cF ht hm
    refine G_skip ?_
    refine tgn ?_
    refine G_seq ?_
    refine G_region ?_
    refine sd E (o_mv (E.ev rfl)) rfl rfl rfl fun a E => ?_
    refine sd E (o_rem (E.ev rfl) (E.ev rfl) rfl) rfl rfl rfl fun a E => ?_
    refine sd E (o_cv Try.underlying5 Try.underlying3 (E.ev rfl)) rfl rfl rfl fun a E => ?_
    refine sd E (o_bi (E.ev rfl) (E.ev rfl) rfl) rfl rfl rfl fun a E => ?_
    refine sd E (o_as (E.ev rfl)) rfl rfl rfl fun a E => ?_
    refine GL_nil ?_
    refine tgn ?_
    refine G_seq ?_
    refine G_region ?_
    refine sd E (o_mv (E.ev rfl)) rfl rfl rfl fun a E => ?_
    refine sd E (o_bi (E.ev rfl) (E.ev rfl) rfl) rfl rfl rfl fun a E => ?_
    refine sd E (o_bi (E.ev rfl) (E.ev rfl) rfl) rfl rfl rfl fun a E => ?_
    refine sd E (o_mv (E.ev rfl)) rfl rfl rfl fun a E => ?_
    refine sd E (o_rem (E.ev rfl) (E.ev rfl) rfl) rfl rfl rfl fun a E => ?_
    refine sd E (o_cv Try.underlying5 Try.underlying3 (E.ev rfl)) rfl rfl rfl fun a E => ?_
    refine sd E (o_bi (E.ev rfl) (E.ev rfl) rfl) rfl rfl rfl fun a E => ?_
    obtain ⟨y2, hx2, hm⟩ := ob_some hm
    refine sh E (o_ok Try.call8 (E.evs rfl) (E.ev rfl) (oq_8 _ (κ + 1) (x0 := IntKind.wrap .i64 ((IntKind.wrap .i64 (3 + (IntKind.wrap .i64 (2 * (IntKind.wrap .i64 ((IntKind.wrap .i64 (Int.tmod x1 6)) + 1)))))) + (IntKind.wrap .i64 (Int.tmod x0 12)))) hx2)) rfl rfl rfl ?_
    rintro a _ s2 ⟨t2, b1, rfl, h2⟩ E
    refine sd E (o_as (E.ev rfl)) rfl rfl rfl fun a E => ?_
    refine GL_nil ?_
    refine tgn ?_
    refine G_seq ?_
    refine G_region ?_
    refine sd E (o_mv (E.ev rfl)) rfl rfl rfl fun a E => ?_
    refine sd E (o_mv (E.ev rfl)) rfl rfl rfl fun a E => ?_
    obtain ⟨⟨y3, y4, X1⟩, hx3, hm⟩ := ob_some hm
    refine sh E (o_ok Try.call24 (E.evs rfl) (E.ev rfl) (ok_24 _ (κ + 2) (κ + 3) (x1 := IntKind.wrap .i64 ((IntKind.wrap .i64 (Int.tmod x1 6)) + 1)) h2 hx3)) rfl rfl rfl ?_
    rintro a _ s3 ⟨t3, b2, rfl, h4, h3⟩ E
    refine sd E (o_mv (E.ev rfl)) rfl rfl rfl fun a E => ?_
    refine sd E (o_ext (v := .pointer (some ⟨b2, 0, none⟩)) (E.ev rfl) rfl) rfl rfl rfl fun a E => ?_
    refine sd E (o_ext (v := .int .i64 y4) (E.ev rfl) rfl) rfl rfl rfl fun a E => ?_
    refine sd E (o_as (E.ev rfl)) rfl rfl rfl fun a E => ?_
    refine sd E (o_as (E.ev rfl)) rfl rfl rfl fun a E => ?_
    refine GL_nil ?_
    refine tgn ?_
    refine G_seq ?_
    refine G_seq ?_
    refine G_region ?_
    refine sd E (o_mv (E.ev rfl)) rfl rfl rfl fun a E => ?_
    refine sd E (o_bi (E.ev rfl) (E.ev rfl) rfl) rfl rfl rfl fun a E => ?_
    refine GL_nil ?_
    refine tgn ?_
    refine G_cond (E.ev rfl) (fun ht => ?_) (fun ht => ?_)
    · have hm := cT ht hm
      refine G_seq ?_
      refine G_region ?_
      refine sd E (o_as (E.ev rfl)) rfl rfl rfl fun a E => ?_
      refine GL_nil ?_
      refine tgn ?_
      refine G_ret ?_
      refine tgr ?_
      cases hm
      have T2 : Tr (Fz κ []) s s3 := ((t1.no.trans t2.no).trans (Tr.fw1 Fz.f t3))
      exact fin1 E rfl rfl ⟨(Tr.fin0 hκ T2), rfl⟩
    · have hm := cF ht hm
      refine G_skip ?_
      refine tgn ?_
      refine G_seq ?_
      refine G_seq ?_
      refine G_region ?_
      refine sd E (o_as (E.ev rfl)) rfl rfl rfl fun a E => ?_
      refine GL_nil ?_
      refine tgn ?_
      obtain ⟨r1, hl1, hm⟩ := ob_some hm
      refine G_mid1 (fun a' w' => ∃ x4 x5 x6 x7 s', m_6_1k x1 (.inl (x4, x5, x6, x7)) = some r0y ∧ w' = s'.w ∧ Tr (Fz κ []) s3 s' ∧ DiskAt (κ + 1) s' b1 x6 ∧ VaultAt (κ + 2) (κ + 3) b1 s' b2 x7 ∧ En [] 128 a' [(6, .bool x4), (11, .int .i64 x5), (2, w1), (7, .int .i64 (IntKind.wrap .i64 ((IntKind.wrap .i64 (Int.tmod x1 6)) + 1))), (8, .pointer (some ⟨b1, 0, none⟩)), (9, .pointer (some ⟨b2, 0, none⟩))]) ?_ ?_
      · refine G_block ?_
        refine G_lp hl1 (fun st a' w' => ∃ x4 x5 x6 x7 s', st = (x4, x5, x6, x7) ∧ w' = s'.w ∧ Tr (Fz κ []) s3 s' ∧ DiskAt (κ + 1) s' b1 x6 ∧ VaultAt (κ + 2) (κ + 3) b1 s' b2 x7 ∧ En [] 128 a' [(6, .bool x4), (11, .int .i64 x5), (2, w1), (7, .int .i64 (IntKind.wrap .i64 ((IntKind.wrap .i64 (Int.tmod x1 6)) + 1))), (8, .pointer (some ⟨b1, 0, none⟩)), (9, .pointer (some ⟨b2, 0, none⟩))]) ⟨_, _, _, _, _, rfl, rfl, (Tr.refl _ _), h4, h3, ((((((E.nil.ad E rfl rfl).ad E rfl rfl).ad E rfl rfl).ad E rfl rfl).ad E rfl rfl).ad E rfl rfl)⟩ ?_
        rintro _ a _ x ⟨x8, x9, x10, x11, s4, rfl, rfl, t4, h5, h6, E⟩ hf1
        dsimp only [m_6_1b] at hf1
        refine G_seq ?_
        refine G_seq ?_
        obtain ⟨t5, hc1, hf1⟩ := ob_some hf1
        refine G_regm (fun a' w' => ∃ s', w' = s'.w ∧ Tr No s4 s' ∧ En [] 128 a' [(44, .bool t5), (2, w1), (6, .bool x8), (7, .int .i64 (IntKind.wrap .i64 ((IntKind.wrap .i64 (Int.tmod x1 6)) + 1))), (8, .pointer (some ⟨b1, 0, none⟩)), (9, .pointer (some ⟨b2, 0, none⟩)), (11, .int .i64 x9)]) ?_ ?_
        · refine sd E (o_mv (E.ev rfl)) rfl rfl rfl fun a E => ?_
          refine sd E (o_mv (E.ev rfl)) rfl rfl rfl fun a E => ?_
          have f1 := (((h1.tr t1).tr t2).tr t3).tr t4
          refine sd E (o_lenS (xs := x2) Try.underlying58 (E.ev rfl) f1.isS) rfl rfl rfl fun a E => ?_
          refine sd E (o_bi (E.ev rfl) (E.ev rfl) rfl) rfl rfl rfl fun a E => ?_
          refine sd E (o_mv (E.ev rfl)) rfl rfl rfl fun a E => ?_
          refine bcase (E.ev (x := .tmp 41) rfl) (fun ht => ?_) (fun ht => ?_)
          · have hc1 := cT ht hc1
            rw [ht] at E
            refine sd E (o_mv (E.ev rfl)) rfl rfl rfl fun a E => ?_
            refine sd E (o_bi (E.ev rfl) (E.ev rfl) rfl) rfl rfl rfl fun a E => ?_
            refine sd E (o_pickT (E.ev rfl) (E.ev rfl)) rfl rfl rfl fun a E => ?_
            obtain rfl := Option.some.inj hc1
            exact GL_nil ⟨_, rfl, (Tr.refl _ _), (((((((E.nil.ad E rfl rfl).ad E rfl rfl).ad E rfl rfl).ad E rfl rfl).ad E rfl rfl).ad E rfl rfl).ad E rfl rfl)⟩
          · have hc1 := cF ht hc1
            rw [ht] at E
            refine sk E rfl rfl rfl fun a E => ?_
            refine sk E rfl rfl rfl fun a E => ?_
            refine sd E (o_pickF (E.ev rfl) (E.ev rfl)) rfl rfl rfl fun a E => ?_
            obtain rfl := Option.some.inj hc1
            exact GL_nil ⟨_, rfl, (Tr.refl _ _), (((((((E.nil.ad E rfl rfl).ad E rfl rfl).ad E rfl rfl).ad E rfl rfl).ad E rfl rfl).ad E rfl rfl).ad E rfl rfl)⟩
        rintro a _ ⟨s5, rfl, t6, E⟩
        refine tgn ?_
        refine G_cond (E.ev rfl) (fun ht => ?_) (fun ht => ?_)
        · have hf1 := cT ht hf1
          refine G_skip ?_
          refine tgn ?_
          refine G_seq ?_
          refine G_block ?_
          refine G_seq ?_
          refine G_seq ?_
          refine G_region ?_
          refine sd E (o_mv (E.ev rfl)) rfl rfl rfl fun a E => ?_
          refine sd E (o_mv (E.ev rfl)) rfl rfl rfl fun a E => ?_
          obtain ⟨x12, hx4, hf1⟩ := ob_some hf1
          have f2 := ((((h1.tr t1).tr t2).tr t3).tr t4).tr t6
          obtain ⟨b3, p1, g1, h7⟩ := f2.gt hx4
          refine sd E (o_ixg Try.underlying58 Try.sizeOf63 g1 (E.ev rfl) (E.ev rfl)) rfl rfl rfl fun a E => ?_
          refine sd E (o_fa Try.underlying63 rfl Try.sizeOf32 (E.ev rfl)) rfl rfl rfl fun a E => ?_
          refine sd E (o_fa Try.underlying32 rfl Try.sizeOf30 (E.ev rfl)) rfl rfl rfl fun a E => ?_
          obtain ⟨w2, w3, e1, e2, e3, e4, e5, e6, h8, h9, len_x12_S⟩ := h7.elOpV
          refine sd E (o_ld Try.isAgg30 (E.ev rfl) e3) rfl rfl rfl fun a E => ?_
          refine sd E (o_lenS (xs := x12.F.Words) Try.underlying30 (E.ev rfl) h8.isS) rfl rfl rfl fun a E => ?_
          refine sd E (o_bi (E.ev rfl) (E.ev rfl) rfl) rfl rfl rfl fun a E => ?_
          refine GL_nil ?_
          refine tgn ?_
          refine G_cond (E.ev rfl) (fun ht => ?_) (fun ht => ?_)
          · have hf1 := cT ht hf1
            refine G_seq ?_
            refine G_region ?_
            refine sd E (o_as (E.ev rfl)) rfl rfl rfl fun a E => ?_
            refine GL_nil ?_
            refine tgn ?_
            refine G_ret ?_
            refine tgr ?_
            refine ebr ?_
            refine tgr ?_
            obtain rfl := Option.some.inj hf1
            refine lpr fun hr => ?_
            subst hr
            dsimp only [m_6_1k] at hm
            refine ebr ?_
            refine ctr ?_
            refine tgr ?_
            cases hm
            have T3 : Tr (Fz κ []) s s5 := ((((t1.no.trans t2.no).trans (Tr.fw1 Fz.f t3)).trans t4).trans t6.no)
            exact fin1 E rfl rfl ⟨(Tr.fin0 hκ T3), rfl⟩
          · have hf1 := cF ht hf1
            refine G_skip ?_
            refine tgn ?_
            refine G_seq ?_
            refine G_region ?_
            refine sd E (o_mv (E.ev rfl)) rfl rfl rfl fun a E => ?_
            have f3 := h6.trN t6
            obtain ⟨y5, hx5, hf1⟩ := ob_some hf1
            refine sh E (o_ok Try.call25 (E.evs rfl) (E.ev rfl) (ok_25 _ ((κ + 0), 1001) f3 (ra rfl) hx5)) rfl rfl rfl ?_
            rintro a w4 s6 ⟨t7, _, rfl, h10⟩ E
            refine sd E (o_as (E.ev rfl)) rfl rfl rfl fun a E => ?_
            refine GL_nil ?_
            refine tgn ?_
            refine G_seq ?_
            refine G_seq ?_
            refine G_region ?_
            refine sd E (o_mv (E.ev rfl)) rfl rfl rfl fun a E => ?_
            refine sd E (o_mv (E.ev rfl)) rfl rfl rfl fun a E => ?_
            obtain ⟨x13, hx6, hf1⟩ := ob_some hf1
            have f4 := f2.tr t7
            obtain ⟨b4, p2, g2, h11⟩ := f4.gt hx6
            refine sd E (o_ixg Try.underlying58 Try.sizeOf63 g2 (E.ev rfl) (E.ev rfl)) rfl rfl rfl fun a E => ?_
            refine sd E (o_fa Try.underlying63 rfl Try.sizeOf5 (E.ev rfl)) rfl rfl rfl fun a E => ?_
            obtain ⟨w5, w6, e7, e8, e9, e10, e11, e12, h12, h13, len_x13_S⟩ := h11.elOpV
            refine sd E (o_ld Try.isAgg5 (E.ev rfl) e7) rfl rfl rfl fun a E => ?_
            refine sd E (o_rem (E.ev rfl) (E.ev rfl) rfl) rfl rfl rfl fun a E => ?_
            refine sd E (o_bi (E.ev rfl) (E.ev rfl) rfl) rfl rfl rfl fun a E => ?_
            refine GL_nil ?_
            refine tgn ?_
            refine G_cond (E.ev rfl) (fun ht => ?_) (fun ht => ?_)
            · have hf1 := cT ht hf1
              refine G_seq ?_
              refine G_region ?_
              refine sd E (o_mv (E.ev rfl)) rfl rfl rfl fun a E => ?_
              have f5 := f3.trN t7
              have f6 := (h5.trN t6).trN t7
              obtain ⟨⟨y6, X2, X3⟩, hx7, hf1⟩ := ob_some hf1
              refine sh E (o_ok Try.call26 (E.evs rfl) (E.ev rfl) (ok_26 _ f5 f6 (ra rfl) (ra rfl) (ra rfl) hx7)) rfl rfl rfl ?_
              rintro a _ s7 ⟨t8, rfl, h14, h15⟩ E
              refine GL_nil ?_
              refine tgn ?_
              refine G_seq ?_
              refine G_seq ?_
              refine G_region ?_
              refine sd E (o_mv (E.ev rfl)) rfl rfl rfl fun a E => ?_
              refine sd E (o_mv (E.ev rfl)) rfl rfl rfl fun a E => ?_
              obtain ⟨y7, hx8, hf1⟩ := ob_some hf1
              refine sh E (o_ok Try.call25 (E.evs rfl) (E.ev rfl) (bd_frozen id fun tr => ok_25 _ tr h14 (ra rfl) hx8)) rfl rfl rfl ?_
              rintro a w7 s8 ⟨t9, _, rfl, h16⟩ E
              have f7 := (h10.tr t8 (nW3 (ra rfl) (ra rfl) (ra rfl))).trN t9
              obtain ⟨s9, e13, h17, t10⟩ := f7.fz
              rw [e13]
              have f8 := h16.tr t10
              obtain ⟨y8, hx9, hf1⟩ := ob_some hf1
              refine sh E (o_ok Try.call11 (E.evs rfl) (E.ev rfl) (ok_11 _ (x0 := y5) (x1 := y7) h17 f8 hx9)) rfl rfl rfl ?_
              rintro a _ s10 ⟨t11, rfl⟩ E
              refine sd E (o_not (E.ev rfl)) rfl rfl rfl fun a E => ?_
              refine GL_nil ?_
              refine tgn ?_
              refine G_cond (E.ev rfl) (fun ht => ?_) (fun ht => ?_)
              · have hf1 := cT ht hf1
                refine G_seq ?_
                refine G_region ?_
                refine sd E (o_as (E.ev rfl)) rfl rfl rfl fun a E => ?_
                refine GL_nil ?_
                refine tgn ?_
                refine G_ret ?_
                refine tgr ?_
                refine tgr ?_
                refine ebr ?_
                refine tgr ?_
                obtain rfl := Option.some.inj hf1
                refine lpr fun hr => ?_
                subst hr
                dsimp only [m_6_1k] at hm
                refine ebr ?_
                refine ctr ?_
                refine tgr ?_
                cases hm
                have T4 : Tr (Fz κ []) s s10 := (((((((((t1.no.trans t2.no).trans (Tr.fw1 Fz.f t3)).trans t4).trans t6.no).trans t7.no).trans (Tr.fw3 Fz.f Fz.f Fz.f t8)).trans t9.no).trans (Tr.ft Fz.f t10)).trans t11.no)
                exact fin1 E rfl rfl ⟨(Tr.fin0 hκ T4), rfl⟩
              · have hf1 := cF ht hf1
                refine G_skip ?_
                refine tgn ?_
                refine G_exit ?_
                refine tge ?_
                refine ebk ?_
                refine tgn ?_
                refine G_region ?_
                refine sd E (o_mv (E.ev rfl)) rfl rfl rfl fun a E => ?_
                refine sd E (o_bi (E.ev rfl) (E.ev rfl) rfl) rfl rfl rfl fun a E => ?_
                refine sd E (o_as (E.ev rfl)) rfl rfl rfl fun a E => ?_
                refine GL_nil ?_
                obtain rfl := Option.some.inj hf1
                have f9 := ((h15.trN t9).tr t10 (fun i => (nt_fst (ra rfl)))).trN t11
                have f10 := ((h14.trN t9).tr t10 (fun i => (nt_fst (ra rfl))) (fun i => (nt_fst (ra rfl)))).trN t11
                have T5 : Tr (Fz κ []) s3 s10 := ((((((t4.trans t6.no).trans t7.no).trans (Tr.fw3 Fz.f Fz.f Fz.f t8)).trans t9.no).trans (Tr.ft Fz.f t10)).trans t11.no)
                exact lpn ⟨_, _, _, _, _, rfl, rfl, T5, f9, f10, ((((((E.nil.ad E rfl rfl).ad E rfl rfl).ad E rfl rfl).ad E rfl rfl).ad E rfl rfl).ad E rfl rfl)⟩
            · have hf1 := cF ht hf1
              refine G_skip ?_
              refine tgn ?_
              refine G_seq ?_
              refine G_seq ?_
              refine G_region ?_
              refine sd E (o_mv (E.ev rfl)) rfl rfl rfl fun a E => ?_
              refine sd E (o_mv (E.ev rfl)) rfl rfl rfl fun a E => ?_
              refine sd E (o_mv (E.ev rfl)) rfl rfl rfl fun a E => ?_
              obtain ⟨x14, hx10, hf1⟩ := ob_some hf1
              obtain ⟨b5, p3, g3, h18⟩ := f4.gt hx10
              refine sd E (o_ixg Try.underlying58 Try.sizeOf63 g3 (E.ev rfl) (E.ev rfl)) rfl rfl rfl fun a E => ?_
              refine sd E (o_fa Try.underlying63 rfl Try.sizeOf32 (E.ev rfl)) rfl rfl rfl fun a E => ?_
              obtain ⟨w8, w9, e14, e15, e16, e17, e18, e19, h19, h20, len_x14_S⟩ := h18.elOpV
              refine sd E (o_ld2 Try.isAgg32 Try.sizeOf32 (E.ev rfl) e15 e16) rfl rfl rfl fun a E => ?_
              obtain ⟨a1, c1, rfl⟩ := h19.isS
              have f11 := f3.trN t7
              have f12 := (h5.trN t6).trN t7
              obtain ⟨⟨y9, X4, X5⟩, hx11, hf1⟩ := ob_some hf1
              refine sh E (o_ok Try.call27 (E.evs rfl) (E.ev rfl) (ok_27 _ (x1 := x14.F) f11 f12 h19 (ra rfl) (ra rfl) (ra rfl) hx11)) rfl rfl rfl ?_
              rintro a _ s11 ⟨t12, rfl, h21, h22⟩ E
              refine sd E (o_bi (E.ev rfl) (E.ev rfl) rfl) rfl rfl rfl fun a E => ?_
              refine GL_nil ?_
              refine tgn ?_
              obtain ⟨r2, hl2, hf1⟩ := ob_some hf1
              refine G_mid1 (fun a' w' => ∃ x15 s' w10, m_6_2k x8 x9 X4 X5 x15 = some x ∧ w' = s'.w ∧ Tr (Fz κ []) s11 s' ∧ Bd ((κ + 0), 1001) kFr 32 0 s' w10 x15 ∧ DiskAt (κ + 1) s' b1 X5 ∧ VaultAt (κ + 2) (κ + 3) b1 s' b2 X4 ∧ En [] 128 a' [(12, w10), (2, w1), (6, .bool x8), (7, .int .i64 (IntKind.wrap .i64 ((IntKind.wrap .i64 (Int.tmod x1 6)) + 1))), (8, .pointer (some ⟨b1, 0, none⟩)), (9, .pointer (some ⟨b2, 0, none⟩)), (11, .int .i64 x9)]) ?_ ?_
              · refine G_cond (E.ev rfl) (fun ht => ?_) (fun ht => ?_)
                · have hl2 := cT ht hl2
                  refine G_region ?_
                  refine sd E (o_mv (E.ev rfl)) rfl rfl rfl fun a E => ?_
                  refine sd E (o_mv (E.ev rfl)) rfl rfl rfl fun a E => ?_
                  refine sd E (o_mv (E.ev rfl)) rfl rfl rfl fun a E => ?_
                  obtain ⟨x16, hx12, hl2⟩ := ob_some hl2
                  have f13 := f4.tr t12
                  obtain ⟨b6, p4, g4, h23⟩ := f13.gt hx12
                  refine sd E (o_ixg Try.underlying58 Try.sizeOf63 g4 (E.ev rfl) (E.ev rfl)) rfl rfl rfl fun a E => ?_
                  refine sd E (o_fa Try.underlying63 rfl Try.sizeOf32 (E.ev rfl)) rfl rfl rfl fun a E => ?_
                  obtain ⟨w11, w12, e20, e21, e22, e23, e24, e25, h24, h25, len_x16_S⟩ := h23.elOpV
                  refine sd E (o_ld2 Try.isAgg32 Try.sizeOf32 (E.ev rfl) e21 e22) rfl rfl rfl fun a E => ?_
                  obtain ⟨a2, c2, rfl⟩ := h24.isS
                  refine sh E (o_bs Try.underlying22 Try.sizeOf32 Try.zeroValue32 (qs := #[(0, .agg #[.int .i64 x16.F.Kind, (.slice a2 x16.F.Words.length c2)])]) (cells := #[.int .i64 x16.F.Kind, (.slice a2 x16.F.Words.length c2)]) (by simp only [List.map_toArray, List.map_cons, List.map_nil, E.ev (x := .tmp 84) (v := .agg #[.int .i64 x16.F.Kind, (.slice a2 x16.F.Words.length c2)]) rfl]) rfl rfl (by kernel_rfl)) rfl rfl rfl ?_
                  rintro a _ s12 ⟨b7, rfl, h26, t13⟩ E
                  have f14 := h24.tr t13
                  have h27 := h26.sl (K := kFr) (xs := [x16.F]) ⟨_, _, rfl, ⟨_, rfl, f14⟩, rfl⟩ rfl
                  obtain ⟨x17, hx13, hl2⟩ := ob_some hl2
                  obtain ⟨hx13, hz1⟩ := ap_some hx13
                  have f15 := (h10.tr t12 (nW3 (ra rfl) (ra rfl) (ra rfl))).trN t13
                  refine sh E (o_app Try.underlying22 Try.type32 rfl rfl rfl rfl rfl rfl f15 h27.rd (E.ev rfl) (E.ev rfl) hx13 (Nat.zero_le _)) rfl rfl rfl ?_
                  rintro a w13 s13 ⟨h28, t14⟩ E
                  rw [hz1] at h28
                  refine sd E (o_as (E.ev rfl)) rfl rfl rfl fun a E => ?_
                  refine GL_nil ?_
                  refine ctn ?_
                  cases hl2
                  have f16 := (h22.trN t13).tr t14 (fun i => (nt_fst (ra rfl)))
                  have f17 := (h21.trN t13).tr t14 (fun i => (nt_fst (ra rfl))) (fun i => (nt_fst (ra rfl)))
                  have T6 : Tr (Fz κ []) s11 s13 := (t13.no.trans (Tr.ft Fz.f t14))
                  exact ⟨_, _, _, hf1, rfl, T6, h28, f16, f17, (((((((E.nil.ad E rfl rfl).ad E rfl rfl).ad E rfl rfl).ad E rfl rfl).ad E rfl rfl).ad E rfl rfl).ad E rfl rfl)⟩
                · have hl2 := cF ht hl2
                  refine G_skip ?_
                  refine ctn ?_
                  cases hl2
                  have f18 := h10.tr t12 (nW3 (ra rfl) (ra rfl) (ra rfl))
                  exact ⟨_, _, _, hf1, rfl, (Tr.refl _ _), f18, h22, h21, (((((((E.nil.ad E rfl rfl).ad E rfl rfl).ad E rfl rfl).ad E rfl rfl).ad E rfl rfl).ad E rfl rfl).ad E rfl rfl)⟩
              · rintro a _ ⟨x18, s14, w14, hf1, rfl, t15, h29, h30, h31, E⟩
                dsimp only [m_6_2k] at hf1
                refine tgn ?_
                refine G_seq ?_
                refine G_region ?_
                refine sd E (o_mv (E.ev rfl)) rfl rfl rfl fun a E => ?_
                refine sd E (o_mv (E.ev rfl)) rfl rfl rfl fun a E => ?_
                obtain ⟨y10, hx14, hf1⟩ := ob_some hf1
                refine sh E (o_ok Try.call25 (E.evs rfl) (E.ev rfl) (bd_frozen id fun tr => ok_25 _ tr h31 (ra rfl) hx14)) rfl rfl rfl ?_
                rintro a w15 s15 ⟨t16, _, rfl, h32⟩ E
                have f19 := h29.trN t16
                obtain ⟨s16, e26, h33, t17⟩ := f19.fz
                rw [e26]
                have f20 := h32.tr t17
                obtain ⟨y11, hx15, hf1⟩ := ob_some hf1
                refine sh E (o_ok Try.call11 (E.evs rfl) (E.ev rfl) (ok_11 _ (x0 := x18) (x1 := y10) h33 f20 hx15)) rfl rfl rfl ?_
                rintro a _ s17 ⟨t18, rfl⟩ E
                refine sd E (o_not (E.ev rfl)) rfl rfl rfl fun a E => ?_
                refine GL_nil ?_
                refine tgn ?_
                refine G_cond (E.ev rfl) (fun ht => ?_) (fun ht => ?_)
                · have hf1 := cT ht hf1
                  refine G_seq ?_
                  refine G_region ?_
                  refine sd E (o_as (E.ev rfl)) rfl rfl rfl fun a E => ?_
                  refine GL_nil ?_
                  refine tgn ?_
                  refine G_ret ?_
                  refine ebr ?_
                  refine tgr ?_
                  obtain rfl := Option.some.inj hf1
                  refine lpr fun hr => ?_
                  subst hr
                  dsimp only [m_6_1k] at hm
                  refine ebr ?_
                  refine ctr ?_
                  refine tgr ?_
                  cases hm
                  have T7 : Tr (Fz κ []) s s17 := ((((((((((t1.no.trans t2.no).trans (Tr.fw1 Fz.f t3)).trans t4).trans t6.no).trans t7.no).trans (Tr.fw3 Fz.f Fz.f Fz.f t12)).trans t15).trans t16.no).trans (Tr.ft Fz.f t17)).trans t18.no)
                  exact fin1 E rfl rfl ⟨(Tr.fin0 hκ T7), rfl⟩
                · have hf1 := cF ht hf1
                  refine G_skip ?_
                  refine ebn ?_
                  refine tgn ?_
                  refine G_region ?_
                  refine sd E (o_mv (E.ev rfl)) rfl rfl rfl fun a E => ?_
                  refine sd E (o_bi (E.ev rfl) (E.ev rfl) rfl) rfl rfl rfl fun a E => ?_
                  refine sd E (o_as (E.ev rfl)) rfl rfl rfl fun a E => ?_
                  refine GL_nil ?_
                  obtain rfl := Option.some.inj hf1
                  have f21 := ((h30.trN t16).tr t17 (fun i => (nt_fst (ra rfl)))).trN t18
                  have f22 := ((h31.trN t16).tr t17 (fun i => (nt_fst (ra rfl))) (fun i => (nt_fst (ra rfl)))).trN t18
                  have T8 : Tr (Fz κ []) s3 s17 := (((((((t4.trans t6.no).trans t7.no).trans (Tr.fw3 Fz.f Fz.f Fz.f t12)).trans t15).trans t16.no).trans (Tr.ft Fz.f t17)).trans t18.no)
                  exact lpn ⟨_, _, _, _, _, rfl, rfl, T8, f21, f22, ((((((E.nil.ad E rfl rfl).ad E rfl rfl).ad E rfl rfl).ad E rfl rfl).ad E rfl rfl).ad E rfl rfl)⟩
        · have hf1 := cF ht hf1
          refine G_exit ?_
          refine tge ?_
          obtain rfl := Option.some.inj hf1
          refine lpe fun hr => ?_
          subst hr
          refine ebk ?_
          refine ctn ?_
          have f23 := h5.trN t6
          have f24 := h6.trN t6
          have T9 : Tr (Fz κ []) s3 s5 := (t4.trans t6.no)
          exact ⟨_, _, _, _, _, hm, rfl, T9, f23, f24, ((((((E.nil.ad E rfl rfl).ad E rfl rfl).ad E rfl rfl).ad E rfl rfl).ad E rfl rfl).ad E rfl rfl)⟩
      · rintro a _ ⟨x19, x20, x21, x22, s18, hm, rfl, t19, h34, h35, E⟩
        dsimp only [m_6_1k] at hm
        refine tgn ?_
        refine G_seq ?_
        refine G_region ?_
        refine sd E (o_mv (E.ev rfl)) rfl rfl rfl fun a E => ?_
        refine sd E (o_mv (E.ev rfl)) rfl rfl rfl fun a E => ?_
        obtain ⟨⟨y12, y13, X6⟩, hx16, hm⟩ := ob_some hm
        refine sh E (o_ok Try.call24 (E.evs rfl) (E.ev rfl) (ok_24 _ (κ + 4) (κ + 5) (x1 := IntKind.wrap .i64 ((IntKind.wrap .i64 (Int.tmod x1 6)) + 1)) h34 hx16)) rfl rfl rfl ?_
        rintro a _ s19 ⟨t20, b8, rfl, h37, h36⟩ E
        refine sd E (o_mv (E.ev rfl)) rfl rfl rfl fun a E => ?_
        refine sd E (o_ext (v := .pointer (some ⟨b8, 0, none⟩)) (E.ev rfl) rfl) rfl rfl rfl fun a E => ?_
        refine sd E (o_ext (v := .int .i64 y13) (E.ev rfl) rfl) rfl rfl rfl fun a E => ?_
        refine sd E (o_as (E.ev rfl)) rfl rfl rfl fun a E => ?_
        refine sd E (o_as (E.ev rfl)) rfl rfl rfl fun a E => ?_
        refine GL_nil ?_
        refine tgn ?_
        refine G_seq ?_
        obtain ⟨t21, hc2, hm⟩ := ob_some hm
        refine G_regm (fun a' w' => ∃ s', w' = s'.w ∧ Tr No s19 s' ∧ En [] 128 a' [(6, .bool t21)]) ?_ ?_
        · refine sd E (o_mv (E.ev rfl)) rfl rfl rfl fun a E => ?_
          refine sd E (o_bi (E.ev rfl) (E.ev rfl) rfl) rfl rfl rfl fun a E => ?_
          refine sd E (o_mv (E.ev rfl)) rfl rfl rfl fun a E => ?_
          refine bcase (E.ev (x := .tmp 100) rfl) (fun ht => ?_) (fun ht => ?_)
          · have hc2 := cT ht hc2
            rw [ht] at E
            refine sd E (o_mv (E.ev rfl)) rfl rfl rfl fun a E => ?_
            have f25 := h35.tr t20 (fun i => (nW1 (ra rfl))) (fun i => (nW1 (ra rfl)))
            obtain ⟨y14, hx17, hc2⟩ := ob_some hc2
            refine sh E (o_ok Try.call25 (E.evs rfl) (E.ev rfl) (bd_frozen id fun tr => ok_25 _ tr f25 (ra rfl) hx17)) rfl rfl rfl ?_
            rintro a w16 s20 ⟨t22, _, rfl, h38⟩ E
            refine sd E (o_mv (E.ev rfl)) rfl rfl rfl fun a E => ?_
            have f26 := h36.trN t22
            obtain ⟨y15, hx18, hc2⟩ := ob_some hc2
            refine sh E (o_ok Try.call25 (E.evs rfl) (E.ev rfl) (bd_frozen id fun tr => ok_25 _ tr f26 (ra rfl) hx18)) rfl rfl rfl ?_
            rintro a w17 s21 ⟨t23, _, rfl, h39⟩ E
            have f27 := h38.tr t23
            obtain ⟨y16, hx19, hc2⟩ := ob_some hc2
            refine sh E (o_ok Try.call11 (E.evs rfl) (E.ev rfl) (ok_11 _ (x0 := y14) (x1 := y15) f27 h39 hx19)) rfl rfl rfl ?_
            rintro a _ s22 ⟨t24, rfl⟩ E
            refine sd E (o_pickT (E.ev rfl) (E.ev rfl)) rfl rfl rfl fun a E => ?_
            refine sd E (o_mv (E.ev rfl)) rfl rfl rfl fun a E => ?_
            refine bcase (E.ev (x := .tmp 107) rfl) (fun ht => ?_) (fun ht => ?_)
            · have hc2 := cT ht hc2
              rw [ht] at E
              refine sd E (o_mv (E.ev rfl)) rfl rfl rfl fun a E => ?_
              have f28 := ((f25.trN t22).trN t23).trN t24
              obtain ⟨y17, hx20, hc2⟩ := ob_some hc2
              refine sh E (o_ok Try.call28 (E.evs rfl) (E.ev rfl) (ok_28 _ f28 (ra rfl) hx20)) rfl rfl rfl ?_
              rintro a _ s23 ⟨t25, rfl⟩ E
              refine sd E (o_mv (E.ev rfl)) rfl rfl rfl fun a E => ?_
              have f29 := ((f26.trN t23).trN t24).trN t25
              obtain ⟨y18, hx21, hc2⟩ := ob_some hc2
              refine sh E (o_ok Try.call28 (E.evs rfl) (E.ev rfl) (ok_28 _ f29 (ra rfl) hx21)) rfl rfl rfl ?_
              rintro a _ s24 ⟨t26, rfl⟩ E
              refine sd E (o_bi (E.ev rfl) (E.ev rfl) rfl) rfl rfl rfl fun a E => ?_
              refine sd E (o_pickT (E.ev rfl) (E.ev rfl)) rfl rfl rfl fun a E => ?_
              refine sd E (o_mv (E.ev rfl)) rfl rfl rfl fun a E => ?_
              refine bcase (E.ev (x := .tmp 114) rfl) (fun ht => ?_) (fun ht => ?_)
              · have hc2 := cT ht hc2
                rw [ht] at E
                refine sd E (o_mv (E.ev rfl)) rfl rfl rfl fun a E => ?_
                have f30 := (f28.trN t25).trN t26
                obtain ⟨y19, hx22, hc2⟩ := ob_some hc2
                refine sh E (o_ok Try.call29 (E.evs rfl) (E.ev rfl) (ok_29 _ f30 (ra rfl) hx22)) rfl rfl rfl ?_
                rintro a _ s25 ⟨t27, rfl⟩ E
                refine sd E (o_mv (E.ev rfl)) rfl rfl rfl fun a E => ?_
                have f31 := (f29.trN t26).trN t27
                obtain ⟨y20, hx23, hc2⟩ := ob_some hc2
                refine sh E (o_ok Try.call29 (E.evs rfl) (E.ev rfl) (ok_29 _ f31 (ra rfl) hx23)) rfl rfl rfl ?_
                rintro a _ s26 ⟨t28, rfl⟩ E
                refine sd E (o_bi (E.ev rfl) (E.ev rfl) rfl) rfl rfl rfl fun a E => ?_
                refine sd E (o_pickT (E.ev rfl) (E.ev rfl)) rfl rfl rfl fun a E => ?_
                refine sd E (o_mv (E.ev rfl)) rfl rfl rfl fun a E => ?_
                refine bcase (E.ev (x := .tmp 121) rfl) (fun ht => ?_) (fun ht => ?_)
                · have hc2 := cT ht hc2
                  rw [ht] at E
                  refine sd E (o_mv (E.ev rfl)) rfl rfl rfl fun a E => ?_
                  have f32 := (f30.trN t27).trN t28
                  obtain ⟨y21, hx24, hc2⟩ := ob_some hc2
                  refine sh E (o_ok Try.call30 (E.evs rfl) (E.ev rfl) (ok_30 _ f32 (ra rfl) hx24)) rfl rfl rfl ?_
                  rintro a _ s27 ⟨t29, rfl⟩ E
                  refine sd E (o_mv (E.ev rfl)) rfl rfl rfl fun a E => ?_
                  have f33 := (f31.trN t28).trN t29
                  obtain ⟨y22, hx25, hc2⟩ := ob_some hc2
                  refine sh E (o_ok Try.call30 (E.evs rfl) (E.ev rfl) (ok_30 _ f33 (ra rfl) hx25)) rfl rfl rfl ?_
                  rintro a _ s28 ⟨t30, rfl⟩ E
                  refine sd E (o_bi (E.ev rfl) (E.ev rfl) rfl) rfl rfl rfl fun a E => ?_
                  refine sd E (o_pickT (E.ev rfl) (E.ev rfl)) rfl rfl rfl fun a E => ?_
                  refine sd E (o_as (E.ev rfl)) rfl rfl rfl fun a E => ?_
                  obtain rfl := Option.some.inj hc2
                  exact GL_nil ⟨_, rfl, ((((((((t22.trans t23).trans t24).trans t25).trans t26).trans t27).trans t28).trans t29).trans t30), (E.nil.ad E rfl rfl)⟩
                · have hc2 := cF ht hc2
                  rw [ht] at E
                  refine sk E rfl rfl rfl fun a E => ?_
                  refine sk E rfl rfl rfl fun a E => ?_
                  refine sk E rfl rfl rfl fun a E => ?_
                  refine sk E rfl rfl rfl fun a E => ?_
                  refine sk E rfl rfl rfl fun a E => ?_
                  refine sd E (o_pickF (E.ev rfl) (E.ev rfl)) rfl rfl rfl fun a E => ?_
                  refine sd E (o_as (E.ev rfl)) rfl rfl rfl fun a E => ?_
                  obtain rfl := Option.some.inj hc2
                  exact GL_nil ⟨_, rfl, ((((((t22.trans t23).trans t24).trans t25).trans t26).trans t27).trans t28), (E.nil.ad E rfl rfl)⟩
              · have hc2 := cF ht hc2
                rw [ht] at E
                refine sk E rfl rfl rfl fun a E => ?_
                refine sk E rfl rfl rfl fun a E => ?_
                refine sk E rfl rfl rfl fun a E => ?_
                refine sk E rfl rfl rfl fun a E => ?_
                refine sk E rfl rfl rfl fun a E => ?_
                refine sd E (o_pickF (E.ev rfl) (E.ev rfl)) rfl rfl rfl fun a E => ?_
                refine sd E (o_mv (E.ev rfl)) rfl rfl rfl fun a E => ?_
                refine sk E rfl rfl rfl fun a E => ?_
                refine sk E rfl rfl rfl fun a E => ?_
                refine sk E rfl rfl rfl fun a E => ?_
                refine sk E rfl rfl rfl fun a E => ?_
                refine sk E rfl rfl rfl fun a E => ?_
                refine sd E (o_pickF (E.ev rfl) (E.ev rfl)) rfl rfl rfl fun a E => ?_
                refine sd E (o_as (E.ev rfl)) rfl rfl rfl fun a E => ?_
                obtain rfl := Option.some.inj hc2
                exact GL_nil ⟨_, rfl, ((((t22.trans t23).trans t24).trans t25).trans t26), (E.nil.ad E rfl rfl)⟩
            · have hc2 := cF ht hc2
              rw [ht] at E
              refine sk E rfl rfl rfl fun a E => ?_
              refine sk E rfl rfl rfl fun a E => ?_
              refine sk E rfl rfl rfl fun a E => ?_
              refine sk E rfl rfl rfl fun a E => ?_
              refine sk E rfl rfl rfl fun a E => ?_
              refine sd E (o_pickF (E.ev rfl) (E.ev rfl)) rfl rfl rfl fun a E => ?_
              refine sd E (o_mv (E.ev rfl)) rfl rfl rfl fun a E => ?_
              refine sk E rfl rfl rfl fun a E => ?_
              refine sk E rfl rfl rfl fun a E => ?_
              refine sk E rfl rfl rfl fun a E => ?_
              refine sk E rfl rfl rfl fun a E => ?_
              refine sk E rfl rfl rfl fun a E => ?_
              refine sd E (o_pickF (E.ev rfl) (E.ev rfl)) rfl rfl rfl fun a E => ?_
              refine sd E (o_mv (E.ev rfl)) rfl rfl rfl fun a E => ?_
              refine sk E rfl rfl rfl fun a E => ?_
              refine sk E rfl rfl rfl fun a E => ?_
              refine sk E rfl rfl rfl fun a E => ?_
              refine sk E rfl rfl rfl fun a E => ?_
              refine sk E rfl rfl rfl fun a E => ?_
              refine sd E (o_pickF (E.ev rfl) (E.ev rfl)) rfl rfl rfl fun a E => ?_
              refine sd E (o_as (E.ev rfl)) rfl rfl rfl fun a E => ?_
              obtain rfl := Option.some.inj hc2
              exact GL_nil ⟨_, rfl, ((t22.trans t23).trans t24), (E.nil.ad E rfl rfl)⟩
          · have hc2 := cF ht hc2
            rw [ht] at E
            refine sk E rfl rfl rfl fun a E => ?_
            refine sk E rfl rfl rfl fun a E => ?_
            refine sk E rfl rfl rfl fun a E => ?_
            refine sk E rfl rfl rfl fun a E => ?_
            refine sk E rfl rfl rfl fun a E => ?_
            refine sd E (o_pickF (E.ev rfl) (E.ev rfl)) rfl rfl rfl fun a E => ?_
            refine sd E (o_mv (E.ev rfl)) rfl rfl rfl fun a E => ?_
            refine sk E rfl rfl rfl fun a E => ?_
            refine sk E rfl rfl rfl fun a E => ?_
            refine sk E rfl rfl rfl fun a E => ?_
            refine sk E rfl rfl rfl fun a E => ?_
            refine sk E rfl rfl rfl fun a E => ?_
            refine sd E (o_pickF (E.ev rfl) (E.ev rfl)) rfl rfl rfl fun a E => ?_
            refine sd E (o_mv (E.ev rfl)) rfl rfl rfl fun a E => ?_
            refine sk E rfl rfl rfl fun a E => ?_
            refine sk E rfl rfl rfl fun a E => ?_
            refine sk E rfl rfl rfl fun a E => ?_
            refine sk E rfl rfl rfl fun a E => ?_
            refine sk E rfl rfl rfl fun a E => ?_
            refine sd E (o_pickF (E.ev rfl) (E.ev rfl)) rfl rfl rfl fun a E => ?_
            refine sd E (o_mv (E.ev rfl)) rfl rfl rfl fun a E => ?_
            refine sk E rfl rfl rfl fun a E => ?_
            refine sk E rfl rfl rfl fun a E => ?_
            refine sk E rfl rfl rfl fun a E => ?_
            refine sk E rfl rfl rfl fun a E => ?_
            refine sk E rfl rfl rfl fun a E => ?_
            refine sd E (o_pickF (E.ev rfl) (E.ev rfl)) rfl rfl rfl fun a E => ?_
            refine sd E (o_as (E.ev rfl)) rfl rfl rfl fun a E => ?_
            obtain rfl := Option.some.inj hc2
            exact GL_nil ⟨_, rfl, (Tr.refl _ _), (E.nil.ad E rfl rfl)⟩
        rintro a _ ⟨s29, rfl, t31, E⟩
        refine tgn ?_
        refine G_ret ?_
        cases hm
        have T10 : Tr (Fz κ []) s s29 := (((((t1.no.trans t2.no).trans (Tr.fw1 Fz.f t3)).trans t19).trans (Tr.fw1 Fz.f t20)).trans t31.no)
        exact fin1 E rfl rfl ⟨(Tr.fin0 hκ T10), rfl⟩

end Go.Proofs.Ytdkfdmalbbfbmaa
