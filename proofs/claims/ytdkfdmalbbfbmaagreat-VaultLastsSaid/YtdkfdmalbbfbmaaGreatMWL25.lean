/- A vault's log is opened; a vault is opened; a checkpoint. -/
import Derived.Test.YtdkfdmalbbfbmaaGreatMWL24
/- A vault's log is opened; a vault is opened; a checkpoint. -/
namespace Go.Proofs.YtdkfdmalbbfbmaaGreat
open Go Go.Maps
set_option maxRecDepth 4000
set_option maxHeartbeats 1000000
theorem St.fresh2 (s : St) (p q : Nat) : ∃ κ, (∀ b t, s.tag b = some t → t.1 < κ) ∧ p < κ ∧ q < κ := by
  obtain ⟨κ, h⟩ := s.fresh
  exact ⟨max κ (max p q + 1), fun b t hb => by have := h b t hb; omega, by omega, by omega⟩
theorem Vault0At.full {k l d nb : Nat} {s : St} {b : Nat} {X : Vault0} {L : LogM} (h : Vault0At k d (some ⟨nb, 0, none⟩) s b X) (g : LogAt l d s nb L) : VaultAt k l d s b ⟨X.area, X.at_, X.stored, L⟩ := by
  obtain ⟨w, h1, h2⟩ := h
  exact ⟨w, nb, h1, h2, g⟩
noncomputable def m_54 (X1 : Vault0) (X2 : Disk) (x1 : Int) : Option (LogM × Disk) :=
  ob (m_58 X1 2) fun y1 => ob (mq_32 X2) fun y2 => ob (m_9 X2 y1 (IntKind.wrap .i64 (y2 - y1)) x1) fun (y3, y4, X3) => ob (gd (decide (y4 = 0)) (some ())) fun x3 => some (y3, X3)
theorem ok_54 (s : St) (q0 : Nat) {k1 b1 : Nat} {X1 : Vault0} {k2 b2 : Nat} {X2 : Disk} {x1 : Int} {u1 : Option Addr} (ho1 : Vault0At k1 b2 u1 s b1 X1) (ho2 : DiskAt k2 s b2 X2) (ne01 : k1 ≠ k2) (hq1 : q0 ≠ k1) {Y1 : LogM} {Y2 : Disk} (hm : m_54 X1 X2 x1 = some (Y1, Y2)) :
    Ok Tryz.prog 26 ([.pointer (some ⟨b1, 0, none⟩), .int .i64 x1] : List Value).toArray s fun v s' => Tr (Ws [k1, k2]) s s' ∧ ∃ nb, v = .int .i64 0 ∧ Vault0At k1 b2 (some ⟨nb, 0, none⟩) s' b1 X1 ∧ DiskAt k2 s' b2 Y2 ∧ LogAt q0 b2 s' nb Y1 := by
  unfold m_54 at hm
  obtain ⟨κ, hκ⟩ := s.fresh
  have lt1 : k1 < κ := hκ _ _ ho1.tag
  have lt2 : k2 < κ := hκ _ _ ho2.tag
  refine ok_of (n := 34) _ Tryz.func26 rfl _ rfl rfl fun a E => ?_
  refine G_seq ?_
  refine G_region ?_
  refine sd E (o_as (E.ev rfl)) rfl rfl rfl fun a E => ?_
  refine GL_nil ?_
  refine tgn ?_
  refine G_seq ?_
  refine G_region ?_
  refine sd E (o_mv (E.ev rfl)) rfl rfl rfl fun a E => ?_
  obtain ⟨y1, hx1, hm⟩ := ob_some hm
  refine sh E (o_ok Tryz.call34 (E.evs rfl) (E.ev rfl) (ok_58 _ (x1 := 2) ho1 hx1)) rfl rfl rfl ?_
  rintro a _ s1 ⟨t1, rfl⟩ E
  refine sd E (o_as (E.ev rfl)) rfl rfl rfl fun a E => ?_
  refine GL_nil ?_
  refine tgn ?_
  refine G_seq ?_
  refine G_drw (κ + 1) (by rfl) [0, 1, 2, 3, 4, 5, 6, 7, 8, 10, 12, 9, 11, 13, 14, 15, 16, 17, 18] (by kernel_rfl) ?_
  intro s2 t2
  refine dp E rfl (fun w => (o_mv (E.ev rfl))) rfl rfl rfl fun a E => ?_
  refine dp E rfl (fun w => (o_nc (E.ev rfl))) rfl rfl rfl fun a E => ?_
  have f1 := (ho1.trN t1).trN t2
  obtain ⟨w1, o1, h1⟩ := f1
  refine dp E rfl (fun w => (o_fa Tryz.underlying68 rfl Tryz.sizeOf25 (E.ev rfl))) rfl rfl rfl fun a E => ?_
  refine dr E rfl (fun s' t => (o_ld Tryz.isAgg25 (E.ev rfl) (((o1.trN t).cell _).trans rfl))) rfl rfl rfl (by kernel_rfl) fun a E => ?_
  refine dp E rfl (fun w => (o_mv (E.ev rfl))) rfl rfl rfl fun a E => ?_
  refine dp E rfl (fun w => (o_mv (E.ev rfl))) rfl rfl rfl fun a E => ?_
  refine dp E rfl (fun w => (o_nc (E.ev rfl))) rfl rfl rfl fun a E => ?_
  refine dp E rfl (fun w => (o_fa Tryz.underlying68 rfl Tryz.sizeOf25 (E.ev rfl))) rfl rfl rfl fun a E => ?_
  refine dr E rfl (fun s' t => (o_ld Tryz.isAgg25 (E.ev rfl) (((o1.trN t).cell _).trans rfl))) rfl rfl rfl (by kernel_rfl) fun a E => ?_
  refine dp E rfl (fun w => (o_mv (E.ev rfl))) rfl rfl rfl fun a E => ?_
  refine dp E rfl (fun w => (o_mv (E.ev rfl))) rfl rfl rfl fun a E => ?_
  have f2 := (ho2.trN t1).trN t2
  obtain ⟨y2, hx2, hm⟩ := ob_some hm
  refine dh E rfl (o_ok Tryz.call23 (E.evs rfl) (E.ev rfl) (oq_32 _ f2 hx2)) (fun _ _ h => h.1) rfl rfl rfl (by kernel_rfl) ?_
  rintro a _ s3 ⟨t3, rfl⟩ E
  refine dp E rfl (fun w => (o_bi (E.ev rfl) (E.ev rfl) rfl)) rfl rfl rfl fun a E => ?_
  have f3 := f2.trN t3
  obtain ⟨⟨y3, y4, X3⟩, hx3, hm⟩ := ob_some hm
  obtain ⟨x3, hx4, hm⟩ := ob_some hm
  obtain rfl : y4 = 0 := by simpa using (gd_some hx4).1
  refine dl E rfl (o_ok Tryz.call56 (E.evs rfl) (E.ev rfl) (ok_9 _ q0 (x1 := y1) (x2 := IntKind.wrap .i64 (y2 - y1)) (x3 := x1) f3 hx3)) rfl rfl rfl (by kernel_rfl) ?_
  rintro a _ s4 ⟨t4, b3, rfl, h3, h2⟩ E
  refine dp E rfl (fun w => (o_mv (E.ev rfl))) rfl rfl rfl fun a E => ?_
  refine dp E rfl (fun w => (o_ext (v := .pointer (some ⟨b3, 0, none⟩)) (E.ev rfl) rfl)) rfl rfl rfl fun a E => ?_
  refine dp E rfl (fun w => (o_ext (v := .int .i64 0) (E.ev rfl) rfl)) rfl rfl rfl fun a E => ?_
  refine dp E rfl (fun w => (o_as (E.ev rfl))) rfl rfl rfl fun a E => ?_
  refine dp E rfl (fun w => (o_as (E.ev rfl))) rfl rfl rfl fun a E => ?_
  refine gd_nil ?_
  refine tgn ?_
  refine G_seq ?_
  refine G_seq ?_
  refine G_region ?_
  refine sd E (o_mv (E.ev rfl)) rfl rfl rfl fun a E => ?_
  refine sd E (o_bi (E.ev rfl) (E.ev rfl) rfl) rfl rfl rfl fun a E => ?_
  refine GL_nil ?_
  refine tgn ?_
  refine G_cond (t := true) (E.ev rfl) (fun _ => ?_) nofun
  refine G_region ?_
  refine sd E (o_mv (E.ev rfl)) rfl rfl rfl fun a E => ?_
  refine sd E (o_mv (E.ev rfl)) rfl rfl rfl fun a E => ?_
  refine sd E (o_nc (E.ev rfl)) rfl rfl rfl fun a E => ?_
  refine sd E (o_fa Tryz.underlying68 rfl Tryz.sizeOf66 (E.ev rfl)) rfl rfl rfl fun a E => ?_
  have f4 := (o1.trN t3).tr t4 (nW1 ne01)
  refine shN E (o_st (o := 7) (cs' := #[.pointer (some ⟨b2, 0, none⟩), .int .i64 X1.area, .int .i64 X1.at_.Number, .int .i64 X1.at_.Epoch, .int .i64 X1.at_.Area, .int .i64 X1.at_.Words, w1, .pointer (some ⟨b3, 0, none⟩)]) (v := .pointer (some ⟨b3, 0, none⟩)) Tryz.sizeOf66 f4 (E.ev rfl) (E.ev rfl) (Nat.le_of_ble_eq_true rfl) (one_cells rfl) rfl) rfl rfl ?_
  rintro _ s5 ⟨o2, t5⟩
  refine GL_nil ?_
  refine tgn ?_
  refine G_seq ?_
  refine G_region ?_
  refine sd E (o_mv (E.ev rfl)) rfl rfl rfl fun a E => ?_
  refine sd E (o_as (E.ev rfl)) rfl rfl rfl fun a E => ?_
  refine GL_nil ?_
  refine tgn ?_
  refine G_ret ?_
  cases hm
  have f5 := ((h1.tr t3).tr t4).tr t5
  have h4 : Vault0At k1 b2 (some ⟨b3, 0, none⟩) s5 b1 X1 := ⟨_, o2, f5⟩
  have h7 := h2.tr t5 (fun i => (nt_fst hq1))
  have f6 := h3.tr t5 (fun i => (nt_fst ne01.symm))
  have T1 : Tr (Fz κ [k1, k2]) s s5 := ((((t1.no.trans t2.no).trans t3.no).trans (Tr.fw1 Fz.w1 t4)).trans (Tr.ft Fz.w0 t5))
  exact fin1 E rfl rfl ⟨(Tr.fin hκ T1), b3, rfl, h4, f6, h7⟩
noncomputable def m_24_1k (X1 : Disk) : (Int × Vault0) → Option (VaultM × Int × Disk) := fun (x5, x6) => bif x5 == 0 then (ob (m_54 x6 X1 x6.at_.Epoch) fun (y5, X3) => some ((⟨x6.area, x6.at_, x6.stored, y5⟩ : VaultM), 0, X3)) else (bif x5 != 0 then (none) else (none))
noncomputable def m_24 (X1 : Disk) (x1 : Int) : Option (VaultM × Int × Disk) :=
  ob (mq_32 X1) fun y1 => ob (bif decide (x1 < 1) then (some true) else (bif decide (x1 > y1) then (some true) else (some (decide ((IntKind.wrap .i64 (2 + (IntKind.wrap .i64 (2 * x1)))) ≥ y1))))) fun t2 => bif t2 then (none) else (ob (m_52 X1) fun (y2, y3) => ob (bif y3 == 0 then (ob (m_53 (⟨(⟨x1, (⟨0, 0, 0, 0⟩ : Anchor), []⟩ : Vault0).area, (⟨y2.Number, y2.Epoch, y2.Area, y2.Words⟩ : Anchor), (⟨x1, (⟨0, 0, 0, 0⟩ : Anchor), []⟩ : Vault0).stored⟩ : Vault0) X1) fun (y4, X2) => some (y4, X2)) else (some (0, (⟨x1, (⟨0, 0, 0, 0⟩ : Anchor), []⟩ : Vault0)))) (m_24_1k X1))
theorem ok_24 (s : St) (q0 q0a : Nat) {k1 b1 : Nat} {X1 : Disk} {x1 : Int} (ho1 : DiskAt k1 s b1 X1) {r0y : VaultM} {r1y : Int} {Y1 : Disk} (hm : m_24 X1 x1 = some (r0y, r1y, Y1)) :
    Ok Tryz.prog 7 ([.pointer (some ⟨b1, 0, none⟩), .int .i64 x1] : List Value).toArray s fun v s' => Tr (Ws [k1]) s s' ∧ ∃ nb0, v = .tuple #[.pointer (some ⟨nb0, 0, none⟩), .int .i64 r1y] ∧ DiskAt k1 s' b1 Y1 ∧ VaultAt q0 q0a b1 s' nb0 r0y := by
  unfold m_24 at hm
  obtain ⟨κ, hκ, hq0, hq0a⟩ := s.fresh2 q0 q0a
  have lt1 : k1 < κ := hκ _ _ ho1.tag
  refine ok_of (n := 56) _ Tryz.func7 rfl _ rfl rfl fun a E => ?_
  refine G_seq ?_
  refine G_region ?_
  refine sd E (o_as (E.ev rfl)) rfl rfl rfl fun a E => ?_
  refine sd E (o_as (E.ev rfl)) rfl rfl rfl fun a E => ?_
  refine GL_nil ?_
  refine tgn ?_
  refine G_seq ?_
  refine G_region ?_
  refine sd E (o_mv (E.ev rfl)) rfl rfl rfl fun a E => ?_
  obtain ⟨y1, hx1, hm⟩ := ob_some hm
  refine sh E (o_ok Tryz.call23 (E.evs rfl) (E.ev rfl) (oq_32 _ ho1 hx1)) rfl rfl rfl ?_
  rintro a _ s1 ⟨t1, rfl⟩ E
  refine sd E (o_as (E.ev rfl)) rfl rfl rfl fun a E => ?_
  refine GL_nil ?_
  refine tgn ?_
  refine G_seq ?_
  refine G_seq ?_
  obtain ⟨t2, hc1, hm⟩ := ob_some hm
  refine G_regm (fun a' w' => ∃ s', w' = s'.w ∧ Tr No s1 s' ∧ En [] 56 a' [(25, .bool t2), (0, .pointer (some ⟨b1, 0, none⟩)), (1, .int .i64 x1), (4, .pointer none), (5, .int .i64 0)]) ?_ ?_
  · refine sd E (o_mv (E.ev rfl)) rfl rfl rfl fun a E => ?_
    refine sd E (o_bi (E.ev rfl) (E.ev rfl) rfl) rfl rfl rfl fun a E => ?_
    refine sd E (o_mv (E.ev rfl)) rfl rfl rfl fun a E => ?_
    refine bcase (E.ev (x := .tmp 14) rfl) (fun ht => ?_) (fun ht => ?_)
    · have hc1 := cT ht hc1
      rw [ht] at E
      refine sk E rfl rfl rfl fun a E => ?_
      refine sk E rfl rfl rfl fun a E => ?_
      refine sk E rfl rfl rfl fun a E => ?_
      refine sd E (o_pickT (E.ev rfl) (E.ev rfl)) rfl rfl rfl fun a E => ?_
      refine sd E (o_mv (E.ev rfl)) rfl rfl rfl fun a E => ?_
      refine sk E rfl rfl rfl fun a E => ?_
      refine sk E rfl rfl rfl fun a E => ?_
      refine sk E rfl rfl rfl fun a E => ?_
      refine sk E rfl rfl rfl fun a E => ?_
      refine sk E rfl rfl rfl fun a E => ?_
      refine sd E (o_pickT (E.ev rfl) (E.ev rfl)) rfl rfl rfl fun a E => ?_
      obtain rfl := Option.some.inj hc1
      exact GL_nil ⟨_, rfl, (Tr.refl _ _), (((((E.nil.ad E rfl rfl).ad E rfl rfl).ad E rfl rfl).ad E rfl rfl).ad E rfl rfl)⟩
    · have hc1 := cF ht hc1
      rw [ht] at E
      refine sd E (o_mv (E.ev rfl)) rfl rfl rfl fun a E => ?_
      refine sd E (o_mv (E.ev rfl)) rfl rfl rfl fun a E => ?_
      refine sd E (o_bi (E.ev rfl) (E.ev rfl) rfl) rfl rfl rfl fun a E => ?_
      refine sd E (o_pickF (E.ev rfl) (E.ev rfl)) rfl rfl rfl fun a E => ?_
      refine sd E (o_mv (E.ev rfl)) rfl rfl rfl fun a E => ?_
      refine bcase (E.ev (x := .tmp 19) rfl) (fun ht => ?_) (fun ht => ?_)
      · have hc1 := cT ht hc1
        rw [ht] at E
        refine sk E rfl rfl rfl fun a E => ?_
        refine sk E rfl rfl rfl fun a E => ?_
        refine sk E rfl rfl rfl fun a E => ?_
        refine sk E rfl rfl rfl fun a E => ?_
        refine sk E rfl rfl rfl fun a E => ?_
        refine sd E (o_pickT (E.ev rfl) (E.ev rfl)) rfl rfl rfl fun a E => ?_
        obtain rfl := Option.some.inj hc1
        exact GL_nil ⟨_, rfl, (Tr.refl _ _), (((((E.nil.ad E rfl rfl).ad E rfl rfl).ad E rfl rfl).ad E rfl rfl).ad E rfl rfl)⟩
      · have hc1 := cF ht hc1
        rw [ht] at E
        refine sd E (o_mv (E.ev rfl)) rfl rfl rfl fun a E => ?_
        refine sd E (o_bi (E.ev rfl) (E.ev rfl) rfl) rfl rfl rfl fun a E => ?_
        refine sd E (o_bi (E.ev rfl) (E.ev rfl) rfl) rfl rfl rfl fun a E => ?_
        refine sd E (o_mv (E.ev rfl)) rfl rfl rfl fun a E => ?_
        refine sd E (o_bi (E.ev rfl) (E.ev rfl) rfl) rfl rfl rfl fun a E => ?_
        refine sd E (o_pickF (E.ev rfl) (E.ev rfl)) rfl rfl rfl fun a E => ?_
        obtain rfl := Option.some.inj hc1
        exact GL_nil ⟨_, rfl, (Tr.refl _ _), (((((E.nil.ad E rfl rfl).ad E rfl rfl).ad E rfl rfl).ad E rfl rfl).ad E rfl rfl)⟩
  rintro a _ ⟨s2, rfl, t3, E⟩
  refine tgn ?_
  refine G_cond (E.ev rfl) (fun ht => ?_) (fun ht => ?_)
  · have hm := cT ht hm
    refine G_seq ?_
    refine G_region ?_
    refine sd E (o_as (E.ev rfl)) rfl rfl rfl fun a E => ?_
    refine sd E (o_as (E.ev rfl)) rfl rfl rfl fun a E => ?_
    refine GL_nil ?_
    refine tgn ?_
    refine G_ret ?_
    refine tgr ?_
    cases hm
  · have hm := cF ht hm
    refine G_skip ?_
    refine tgn ?_
    refine G_seq ?_
    refine G_region ?_
    refine sd E (o_mv (E.ev rfl)) rfl rfl rfl fun a E => ?_
    refine sd E (o_mv (E.ev rfl)) rfl rfl rfl fun a E => ?_
    refine sd E (o_bd (cells := #[.pointer (some ⟨b1, 0, none⟩), .int .i64 x1, .int .i64 0, .int .i64 0, .int .i64 0, .int .i64 0, (.slice none 0 0), .pointer none]) (places := #[(0, 1), (1, 1), (2, 4), (6, 1), (7, 1)]) Tryz.zeroValue68 Tryz.underlying68 (fun w => by simp [Sem.run_bind, Result.andThen, Tryz.sizeOf3, Tryz.sizeOf43, Tryz.sizeOf25, Tryz.sizeOf66, Tryz.sizeOf49]) (qs := #[(0, .pointer (some ⟨b1, 0, none⟩)), (1, .int .i64 x1)]) (by simp only [List.map_toArray, List.map_cons, List.map_nil, E.ev (x := .tmp 26) (v := .pointer (some ⟨b1, 0, none⟩)) rfl, E.ev (x := .tmp 27) (v := .int .i64 x1) rfl]) (by kernel_rfl)) rfl rfl rfl fun a E => ?_
    refine sh E (o_boxo ((κ + 1), 0) (E.ev rfl)) rfl rfl rfl ?_
    rintro a _ s3 ⟨b2, rfl, o1, t4⟩ E
    refine sd E (o_as (E.ev rfl)) rfl rfl rfl fun a E => ?_
    refine GL_nil ?_
    refine tgn ?_
    refine G_seq ?_
    refine G_region ?_
    refine sd E (o_mv (E.ev rfl)) rfl rfl rfl fun a E => ?_
    have f1 := ((ho1.trN t1).trN t3).trN t4
    obtain ⟨⟨y2, y3⟩, hx2, hm⟩ := ob_some hm
    refine sh E (o_ok Tryz.call24 (E.evs rfl) (E.ev rfl) (ok_52 _ f1 hx2)) rfl rfl rfl ?_
    rintro a _ s4 ⟨t5, rfl⟩ E
    refine sd E (o_mv (E.ev rfl)) rfl rfl rfl fun a E => ?_
    refine sd E (o_ext (v := .agg #[.int .i64 y2.Number, .int .i64 y2.Epoch, .int .i64 y2.Area, .int .i64 y2.Words]) (E.ev rfl) rfl) rfl rfl rfl fun a E => ?_
    refine sd E (o_ext (v := .int .i64 y3) (E.ev rfl) rfl) rfl rfl rfl fun a E => ?_
    refine sh E (o_al ((κ + 0), 1002) Tryz.zeroValue49) rfl rfl rfl ?_
    rintro a _ s5 ⟨b3, rfl, o2, t6⟩ E
    refine shN E (o_st (o := 0) (cs' := #[.int .i64 y2.Number, .int .i64 y2.Epoch, .int .i64 y2.Area, .int .i64 y2.Words]) (v := .agg #[.int .i64 y2.Number, .int .i64 y2.Epoch, .int .i64 y2.Area, .int .i64 y2.Words]) Tryz.sizeOf49 o2 (E.ev rfl) (E.ev rfl) (Nat.le_of_ble_eq_true rfl) (one_cells rfl) rfl) rfl rfl ?_
    rintro _ s6 ⟨o3, t7⟩
    refine sd E (o_as (E.ev rfl)) rfl rfl rfl fun a E => ?_
    refine GL_nil ?_
    refine tgn ?_
    refine G_seq ?_
    refine G_seq ?_
    refine G_region ?_
    refine sd E (o_mv (E.ev rfl)) rfl rfl rfl fun a E => ?_
    refine sd E (o_bi (E.ev rfl) (E.ev rfl) rfl) rfl rfl rfl fun a E => ?_
    refine GL_nil ?_
    refine tgn ?_
    have f2 := ((o1.trN t5).trN t6).tr t7 (nt_fst (ra rfl))
    have h1 : Vault0At (κ + 1) b1 none s6 b2 (⟨x1, (⟨0, 0, 0, 0⟩ : Anchor), []⟩ : Vault0) := ⟨_, f2, Sl.nil⟩
    obtain ⟨r1, hl1, hm⟩ := ob_some hm
    refine G_mid1 (fun a' w' => ∃ x3 x4 s', m_24_1k X1 (x3, x4) = some (r0y, r1y, Y1) ∧ w' = s'.w ∧ Tr (Fz κ [k1]) s6 s' ∧ Vault0At (κ + 1) b1 none s' b2 x4 ∧ DiskAt k1 s' b1 X1 ∧ En [] 56 a' [(9, .int .i64 x3), (4, .pointer none), (5, .int .i64 0), (7, .pointer (some ⟨b2, 0, none⟩))]) ?_ ?_
    · refine G_cond (E.ev rfl) (fun ht => ?_) (fun ht => ?_)
      · have hl1 := cT ht hl1
        refine G_seq ?_
        refine G_region ?_
        refine sd E (o_mv (E.ev rfl)) rfl rfl rfl fun a E => ?_
        refine sd E (o_ldc (cs := #[.int .i64 y2.Number, .int .i64 y2.Epoch, .int .i64 y2.Area, .int .i64 y2.Words]) Tryz.isAgg49 Tryz.sizeOf49 (E.ev rfl) o3.cell) rfl rfl rfl fun a E => ?_
        refine sd E (o_nc (E.ev rfl)) rfl rfl rfl fun a E => ?_
        obtain ⟨w1, o4, h2⟩ := h1
        refine sd E (o_fa Tryz.underlying68 rfl Tryz.sizeOf49 (E.ev rfl)) rfl rfl rfl fun a E => ?_
        refine shN E (o_st (o := 2) (cs' := #[.pointer (some ⟨b1, 0, none⟩), .int .i64 ((⟨x1, (⟨0, 0, 0, 0⟩ : Anchor), []⟩ : Vault0).area), .int .i64 y2.Number, .int .i64 y2.Epoch, .int .i64 y2.Area, .int .i64 y2.Words, w1, .pointer none]) (v := .agg #[.int .i64 y2.Number, .int .i64 y2.Epoch, .int .i64 y2.Area, .int .i64 y2.Words]) Tryz.sizeOf49 o4 (E.ev rfl) (E.ev rfl) (Nat.le_of_ble_eq_true rfl) (one_cells rfl) rfl) rfl rfl ?_
        rintro _ s7 ⟨o5, t8⟩
        refine GL_nil ?_
        refine tgn ?_
        refine G_region ?_
        refine sd E (o_mv (E.ev rfl)) rfl rfl rfl fun a E => ?_
        have f3 := h2.tr t8
        have h3 : Vault0At (κ + 1) b1 none s7 b2 (⟨(⟨x1, (⟨0, 0, 0, 0⟩ : Anchor), []⟩ : Vault0).area, (⟨y2.Number, y2.Epoch, y2.Area, y2.Words⟩ : Anchor), (⟨x1, (⟨0, 0, 0, 0⟩ : Anchor), []⟩ : Vault0).stored⟩ : Vault0) := ⟨_, o5, f3⟩
        have f4 := (((f1.trN t5).trN t6).tr t7 (fun i => (nt_fst (rb lt1)))).tr t8 (fun i => (nt_fst (rb lt1)))
        obtain ⟨⟨y4, X2⟩, hx3, hl1⟩ := ob_some hl1
        refine sh E (o_ok Tryz.call25 (E.evs rfl) (E.ev rfl) (ok_53 _ h3 f4 (rb lt1).symm hx3)) rfl rfl rfl ?_
        rintro a _ s8 ⟨t9, rfl, h4⟩ E
        refine sd E (o_as (E.ev rfl)) rfl rfl rfl fun a E => ?_
        refine GL_nil ?_
        refine ctn ?_
        cases hl1
        have f5 := f4.tr t9 (fun i => (nW1 (rb lt1)))
        have T1 : Tr (Fz κ [k1]) s6 s8 := ((Tr.ft Fz.f t8).trans (Tr.fw1 Fz.f t9))
        exact ⟨_, _, _, hm, rfl, T1, h4, f5, ((((E.nil.ad E rfl rfl).ad E rfl rfl).ad E rfl rfl).ad E rfl rfl)⟩
      · have hl1 := cF ht hl1
        refine G_region ?_
        refine sd E (o_as (E.ev rfl)) rfl rfl rfl fun a E => ?_
        refine GL_nil ?_
        refine ctn ?_
        cases hl1
        have f6 := ((f1.trN t5).trN t6).tr t7 (fun i => (nt_fst (rb lt1)))
        exact ⟨_, _, _, hm, rfl, (Tr.refl _ _), h1, f6, ((((E.nil.ad E rfl rfl).ad E rfl rfl).ad E rfl rfl).ad E rfl rfl)⟩
    · rintro a _ ⟨x5, x6, s9, hm, rfl, t10, h5, h6, E⟩
      dsimp only [m_24_1k] at hm
      refine tgn ?_
      refine G_seq ?_
      refine G_seq ?_
      refine G_region ?_
      refine sd E (o_mv (E.ev rfl)) rfl rfl rfl fun a E => ?_
      refine sd E (o_bi (E.ev rfl) (E.ev rfl) rfl) rfl rfl rfl fun a E => ?_
      refine GL_nil ?_
      refine tgn ?_
      refine G_cond (E.ev rfl) (fun ht => ?_) (fun ht => ?_)
      · have hm := cT ht hm
        refine G_region ?_
        refine sd E (o_mv (E.ev rfl)) rfl rfl rfl fun a E => ?_
        refine sd E (o_mv (E.ev rfl)) rfl rfl rfl fun a E => ?_
        refine sd E (o_nc (E.ev rfl)) rfl rfl rfl fun a E => ?_
        obtain ⟨w2, o6, h7⟩ := h5
        refine sd E (o_fa Tryz.underlying68 rfl Tryz.sizeOf49 (E.ev rfl)) rfl rfl rfl fun a E => ?_
        refine sd E (o_fa Tryz.underlying49 rfl Tryz.sizeOf3 (E.ev rfl)) rfl rfl rfl fun a E => ?_
        refine sd E (o_ld Tryz.isAgg3 (E.ev rfl) ((o6.cell _).trans rfl)) rfl rfl rfl fun a E => ?_
        have h8 : Vault0At (κ + 1) b1 none s9 b2 x6 := ⟨_, o6, h7⟩
        obtain ⟨⟨y5, X3⟩, hx4, hm⟩ := ob_some hm
        refine sh E (o_ok Tryz.call26 (E.evs rfl) (E.ev rfl) (ok_54 _ (κ + 2) h8 h6 (rb lt1).symm (ra rfl) hx4)) rfl rfl rfl ?_
        rintro a _ s10 ⟨t11, b4, rfl, h9, h10, h11⟩ E
        refine sd E (o_as (E.ev rfl)) rfl rfl rfl fun a E => ?_
        refine GL_nil ?_
        refine tgn ?_
        refine G_seq ?_
        refine G_seq ?_
        refine G_region ?_
        refine sd E (o_mv (E.ev rfl)) rfl rfl rfl fun a E => ?_
        refine sd E (o_bi (E.ev rfl) (E.ev rfl) rfl) rfl rfl rfl fun a E => ?_
        refine GL_nil ?_
        refine tgn ?_
        refine G_cond (t := false) (E.ev rfl) nofun (fun _ => ?_)
        refine G_skip ?_
        refine tgn ?_
        refine G_seq ?_
        refine G_region ?_
        refine sd E (o_mv (E.ev rfl)) rfl rfl rfl fun a E => ?_
        refine sd E (o_as (E.ev rfl)) rfl rfl rfl fun a E => ?_
        refine sd E (o_as (E.ev rfl)) rfl rfl rfl fun a E => ?_
        refine GL_nil ?_
        refine tgn ?_
        refine G_ret ?_
        cases hm
        obtain ⟨s11, e1, h12, t12⟩ := h11.rt q0a
        rw [e1]
        have t12 := Tr.w1 t12
        have f7 := h9.tr t12 (fun i => (nW1 (ra rfl)))
        obtain ⟨s12, e2, h13, t13⟩ := f7.rt q0
        rw [e2]
        have t13 := Tr.w1 t13
        have f8 := h12.tr t13 (fun i => (nW1 (rb hq0a)))
        have h14 := Vault0At.full h13 f8
        have f9 := (h10.tr t12 (fun i => (nW1 (rb lt1)))).tr t13 (fun i => (nW1 (rb lt1)))
        have T2 : Tr (Fz κ [k1]) s s12 := (((((((((t1.no.trans t3.no).trans t4.no).trans t5.no).trans t6.no).trans (Tr.ft Fz.f t7)).trans t10).trans (Tr.fw2 Fz.f Fz.w0 t11)).trans (Tr.fw1 Fz.f t12)).trans (Tr.fw1 Fz.f t13))
        exact fin2 E rfl rfl rfl ⟨(Tr.fin hκ T2), _, rfl, f9, h14⟩
      · have hm := cF ht hm
        refine G_skip ?_
        refine tgn ?_
        refine G_seq ?_
        refine G_seq ?_
        refine G_region ?_
        refine sd E (o_mv (E.ev rfl)) rfl rfl rfl fun a E => ?_
        refine sd E (o_bi (E.ev rfl) (E.ev rfl) rfl) rfl rfl rfl fun a E => ?_
        refine GL_nil ?_
        refine tgn ?_
        refine G_cond (E.ev rfl) (fun ht => ?_) (fun ht => ?_)
        · have hm := cT ht hm
          refine G_seq ?_
          refine G_region ?_
          refine sd E (o_mv (E.ev rfl)) rfl rfl rfl fun a E => ?_
          refine sd E (o_as (E.ev rfl)) rfl rfl rfl fun a E => ?_
          refine sd E (o_as (E.ev rfl)) rfl rfl rfl fun a E => ?_
          refine GL_nil ?_
          refine tgn ?_
          refine G_ret ?_
          refine tgr ?_
          cases hm
        · have hm := cF ht hm
          refine G_skip ?_
          refine tgn ?_
          refine G_seq ?_
          refine G_region ?_
          refine sd E (o_mv (E.ev rfl)) rfl rfl rfl fun a E => ?_
          refine sd E (o_as (E.ev rfl)) rfl rfl rfl fun a E => ?_
          refine sd E (o_as (E.ev rfl)) rfl rfl rfl fun a E => ?_
          refine GL_nil ?_
          refine tgn ?_
          refine G_ret ?_
          cases hm
end Go.Proofs.YtdkfdmalbbfbmaaGreat
