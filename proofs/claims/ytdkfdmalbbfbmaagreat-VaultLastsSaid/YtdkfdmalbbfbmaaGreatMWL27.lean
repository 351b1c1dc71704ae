/- Models and walks, printed by a program of ours. -/
import Derived.Test.YtdkfdmalbbfbmaaGreatMWL26
/- Models and walks, printed by a program of ours. -/
namespace Go.Proofs.YtdkfdmalbbfbmaaGreat
open Go Go.Maps
set_option maxRecDepth 4000
set_option maxHeartbeats 1000000
-- (*gimmal/vault.Vault).Checkpoint
noncomputable def m_26_r1 : Int × Disk → List Int → Option (Int × Disk) := fun (x4, X4) x5 => ob (mq_60 X4 x4 (cpy (List.replicate 8 (0 : Int)) 0 x5)) fun (y5, X6) => some (IntKind.wrap .i64 (x4 + 1), X6)
noncomputable def m_26 (X1 : VaultM) (X2 : Disk) : Option (Int × VaultM × Disk) :=
  ob (m_25 X1) fun y1 => ob (m_56 (IntKind.wrap .i64 (X1.at_.Epoch + 1)) y1) fun y2 => bif decide ((y2.length : Int) > (IntKind.wrap .i64 (X1.area * 8))) then (some (4, X1, X2)) else (ob (m_57 (⟨X1.area, X1.at_, X1.stored⟩ : Vault0) (y2.length : Int)) fun y3 => ob (m_58 (⟨X1.area, X1.at_, X1.stored⟩ : Vault0) y3.Area) fun y4 => ob (gd (!decide (8 < 1)) (some ())) fun x2 => ob (m_78 (m_26_r1) y2 8 (y4, X2)) fun (x3, X3) => ob (m_51 X3) fun X7 => ob (m_61 X7 y3) fun (y6, X8) => bif y6 != 0 then (some (y6, (⟨X1.area, (⟨X1.at_.Number, X1.at_.Epoch, X1.at_.Area, X1.at_.Words⟩ : Anchor), X1.stored, X1.log⟩ : VaultM), X8)) else (ob (m_51 X8) fun X9 => ob (m_54 (⟨(⟨X1.area, (⟨y3.Number, y3.Epoch, y3.Area, y3.Words⟩ : Anchor), y1, X1.log⟩ : VaultM).area, (⟨X1.area, (⟨y3.Number, y3.Epoch, y3.Area, y3.Words⟩ : Anchor), y1, X1.log⟩ : VaultM).at_, (⟨X1.area, (⟨y3.Number, y3.Epoch, y3.Area, y3.Words⟩ : Anchor), y1, X1.log⟩ : VaultM).stored⟩ : Vault0) X9 y3.Epoch) fun (y7, X10) => some (0, (⟨(⟨(⟨X1.area, (⟨y3.Number, y3.Epoch, y3.Area, y3.Words⟩ : Anchor), y1, X1.log⟩ : VaultM).area, (⟨X1.area, (⟨y3.Number, y3.Epoch, y3.Area, y3.Words⟩ : Anchor), y1, X1.log⟩ : VaultM).at_, (⟨X1.area, (⟨y3.Number, y3.Epoch, y3.Area, y3.Words⟩ : Anchor), y1, X1.log⟩ : VaultM).stored⟩ : Vault0).area, (⟨(⟨X1.area, (⟨y3.Number, y3.Epoch, y3.Area, y3.Words⟩ : Anchor), y1, X1.log⟩ : VaultM).area, (⟨X1.area, (⟨y3.Number, y3.Epoch, y3.Area, y3.Words⟩ : Anchor), y1, X1.log⟩ : VaultM).at_, (⟨X1.area, (⟨y3.Number, y3.Epoch, y3.Area, y3.Words⟩ : Anchor), y1, X1.log⟩ : VaultM).stored⟩ : Vault0).at_, (⟨(⟨X1.area, (⟨y3.Number, y3.Epoch, y3.Area, y3.Words⟩ : Anchor), y1, X1.log⟩ : VaultM).area, (⟨X1.area, (⟨y3.Number, y3.Epoch, y3.Area, y3.Words⟩ : Anchor), y1, X1.log⟩ : VaultM).at_, (⟨X1.area, (⟨y3.Number, y3.Epoch, y3.Area, y3.Words⟩ : Anchor), y1, X1.log⟩ : VaultM).stored⟩ : Vault0).stored, y7⟩ : VaultM), X10)))
theorem ok_26 (s : St) {k1 k1a b1 : Nat} {X1 : VaultM} {k2 b2 : Nat} {X2 : Disk} (ho1 : VaultAt k1 k1a b2 s b1 X1) (ho2 : DiskAt k2 s b2 X2) (ne01 : k1 ≠ k1a) (ne02 : k1 ≠ k2) (ne12 : k1a ≠ k2) {r0y : Int} {Y1 : VaultM} {Y2 : Disk} (hm : m_26 X1 X2 = some (r0y, Y1, Y2)) :
    Ok Tryz.prog 12 ([.pointer (some ⟨b1, 0, none⟩)] : List Value).toArray s fun v s' => Tr (Ws [k1, k1a, k2]) s s' ∧ v = .int .i64 r0y ∧ VaultAt k1 k1a b2 s' b1 Y1 ∧ DiskAt k2 s' b2 Y2 := by
  unfold m_26 at hm
  obtain ⟨κ, hκ⟩ := s.fresh
  have lt1 : k1 < κ := hκ _ _ ho1.tag
  have lt2 : k1a < κ := ho1.lt1 hκ
  have lt3 : k2 < κ := hκ _ _ ho2.tag
  refine ok_ofE (n := 84) _ Tryz.func12 rfl _ rfl rfl fun a E => ?_
  refine G_seq ?_
  refine G_region ?_
  refine sh E (o_box (E.ev rfl)) rfl rfl rfl ?_
  rintro a _ s1 ⟨b3, rfl, o1, t1⟩ E
  refine sd E (o_as (E.ev rfl)) rfl rfl rfl fun a E => ?_
  refine GL_nil ?_
  refine tgn ?_
  refine G_seq ?_
  refine G_seq ?_
  refine G_region ?_
  refine sd E (o_ld Tryz.isAgg29 (E.ev rfl) ((o1.cell _).trans rfl)) rfl rfl rfl fun a E => ?_
  refine sd E (o_eqp Tryz.underlying29 (E.ev rfl) (E.ev rfl)) rfl rfl rfl fun a E => ?_
  refine GL_nil ?_
  refine tgn ?_
  refine G_cond (t := false) (E.ev rfl) nofun (fun _ => ?_)
  refine G_skip ?_
  refine tgn ?_
  refine G_seq ?_
  refine G_region ?_
  refine sd E (o_ld Tryz.isAgg29 (E.ev rfl) ((o1.cell _).trans rfl)) rfl rfl rfl fun a E => ?_
  have f1 := ho1.trN t1
  obtain ⟨y1, hx1, hm⟩ := ob_some hm
  refine sh E (o_ok Tryz.call19 (E.evs rfl) (E.ev rfl) (bd_frozen id fun tr => ok_25 _ tr f1 ne01 hx1)) rfl rfl rfl ?_
  rintro a w1 s2 ⟨t2, _, rfl, h1⟩ E
  refine sd E (o_as (E.ev rfl)) rfl rfl rfl fun a E => ?_
  refine GL_nil ?_
  refine tgn ?_
  refine G_seq ?_
  refine G_region ?_
  have f2 := o1.tr t2
  refine sd E (o_ld Tryz.isAgg29 (E.ev rfl) ((f2.cell _).trans rfl)) rfl rfl rfl fun a E => ?_
  refine sd E (o_nc (E.ev rfl)) rfl rfl rfl fun a E => ?_
  have f3 := f1.trN t2
  obtain ⟨w2, b4, o2, h2, h3⟩ := f3
  refine sd E (o_fa Tryz.underlying68 rfl Tryz.sizeOf49 (E.ev rfl)) rfl rfl rfl fun a E => ?_
  refine sd E (o_fa Tryz.underlying49 rfl Tryz.sizeOf3 (E.ev rfl)) rfl rfl rfl fun a E => ?_
  refine sd E (o_ld Tryz.isAgg3 (E.ev rfl) ((o2.cell _).trans rfl)) rfl rfl rfl fun a E => ?_
  refine sd E (o_bi (E.ev rfl) (E.ev rfl) rfl) rfl rfl rfl fun a E => ?_
  refine sd E (o_mv (E.ev rfl)) rfl rfl rfl fun a E => ?_
  obtain ⟨y2, hx2, hm⟩ := ob_some hm
  refine sh E (o_ok Tryz.call32 (E.evs rfl) (E.ev rfl) (ok_56 _ (x0 := IntKind.wrap .i64 (X1.at_.Epoch + 1)) (x1 := y1) h1 hx2)) rfl rfl rfl ?_
  rintro a w3 s3 ⟨t3, _, rfl, h4⟩ E
  refine sd E (o_as (E.ev rfl)) rfl rfl rfl fun a E => ?_
  refine GL_nil ?_
  refine tgn ?_
  refine G_seq ?_
  refine G_seq ?_
  refine G_region ?_
  refine sd E (o_mv (E.ev rfl)) rfl rfl rfl fun a E => ?_
  refine sd E (o_lenS (xs := y2) Tryz.underlying36 (E.ev rfl) h4.isS) rfl rfl rfl fun a E => ?_
  have f4 := f2.tr t3
  refine sd E (o_ld Tryz.isAgg29 (E.ev rfl) ((f4.cell _).trans rfl)) rfl rfl rfl fun a E => ?_
  refine sd E (o_nc (E.ev rfl)) rfl rfl rfl fun a E => ?_
  refine sd E (o_fa Tryz.underlying68 rfl Tryz.sizeOf3 (E.ev rfl)) rfl rfl rfl fun a E => ?_
  have f5 := o2.trN t3
  refine sd E (o_ld Tryz.isAgg3 (E.ev rfl) ((f5.cell _).trans rfl)) rfl rfl rfl fun a E => ?_
  refine sd E (o_bi (E.ev rfl) (E.ev rfl) rfl) rfl rfl rfl fun a E => ?_
  refine sd E (o_bi (E.ev rfl) (E.ev rfl) rfl) rfl rfl rfl fun a E => ?_
  refine GL_nil ?_
  refine tgn ?_
  refine G_cond (E.ev rfl) (fun ht => ?_) (fun ht => ?_)
  · have hm := cT ht hm
    refine G_seq ?_
    refine G_region ?_
    refine sd E (o_as (E.ev rfl)) rfl rfl rfl fun a E => ?_
    refine GL_nil ?_
    refine tgn ?_
    refine G_ret ?_
    refine tgr ?_
    cases hm
    have f6 := h2.tr t3
    have f7 := h3.trN t3
    have h5 : VaultAt k1 k1a b2 s3 b1 X1 := ⟨_, _, f5, f6, f7⟩
    have f8 := ((ho2.trN t1).trN t2).trN t3
    have T1 : Tr (Fz κ [k1, k1a, k2]) s s3 := ((t1.no.trans t2.no).trans t3.no)
    exact .inl (fin1 E rfl rfl ⟨(Tr.fin hκ T1), rfl, h5, f8⟩)
  · have hm := cF ht hm
    refine G_skip ?_
    refine tgn ?_
    refine G_seq ?_
    refine G_region ?_
    refine sd E (o_ld Tryz.isAgg29 (E.ev rfl) ((f4.cell _).trans rfl)) rfl rfl rfl fun a E => ?_
    refine sd E (o_mv (E.ev rfl)) rfl rfl rfl fun a E => ?_
    refine sd E (o_lenS (xs := y2) Tryz.underlying36 (E.ev rfl) h4.isS) rfl rfl rfl fun a E => ?_
    have f9 := h2.tr t3
    have f10 := h3.trN t3
    have h6 : VaultAt k1 k1a b2 s3 b1 X1 := ⟨_, _, f5, f9, f10⟩
    obtain ⟨_, h7⟩ := h6.zero
    obtain ⟨y3, hx3, hm⟩ := ob_some hm
    refine sh E (o_ok Tryz.call33 (E.evs rfl) (E.ev rfl) (ok_57 _ (x1 := (y2.length : Int)) h7 hx3)) rfl rfl rfl ?_
    rintro a _ s4 ⟨t4, rfl⟩ E
    refine sh E (o_al ((κ + 0), 1001) Tryz.zeroValue49) rfl rfl rfl ?_
    rintro a _ s5 ⟨b5, rfl, o3, t5⟩ E
    refine shN E (o_st (o := 0) (cs' := #[.int .i64 y3.Number, .int .i64 y3.Epoch, .int .i64 y3.Area, .int .i64 y3.Words]) (v := .agg #[.int .i64 y3.Number, .int .i64 y3.Epoch, .int .i64 y3.Area, .int .i64 y3.Words]) Tryz.sizeOf49 o3 (E.ev rfl) (E.ev rfl) (Nat.le_of_ble_eq_true rfl) (one_cells rfl) rfl) rfl rfl ?_
    rintro _ s6 ⟨o4, t6⟩
    refine GL_nil ?_
    refine tgn ?_
    refine G_seq ?_
    refine G_region ?_
    have f11 := ((f4.tr t4).tr t5).tr t6
    refine sd E (o_ld Tryz.isAgg29 (E.ev rfl) ((f11.cell _).trans rfl)) rfl rfl rfl fun a E => ?_
    refine sd E (o_fa Tryz.underlying49 rfl Tryz.sizeOf3 (E.ev rfl)) rfl rfl rfl fun a E => ?_
    refine sd E (o_ld Tryz.isAgg3 (E.ev rfl) ((o4.cell _).trans rfl)) rfl rfl rfl fun a E => ?_
    have f12 := ((h6.trN t4).trN t5).tr t6 (fun i => (nt_fst (rb lt1))) (fun i => (nt_fst (rb lt2)))
    obtain ⟨_, h8⟩ := f12.zero
    obtain ⟨y4, hx4, hm⟩ := ob_some hm
    refine sh E (o_ok Tryz.call34 (E.evs rfl) (E.ev rfl) (ok_58 _ (x1 := y3.Area) h8 hx4)) rfl rfl rfl ?_
    rintro a _ s7 ⟨t7, rfl⟩ E
    refine sh E (o_al ((κ + 0), 1002) Tryz.zeroValue3) rfl rfl rfl ?_
    rintro a _ s8 ⟨b6, rfl, o5, t8⟩ E
    refine shN E (o_st (o := 0) (cs' := #[.int .i64 y4]) (v := .int .i64 y4) Tryz.sizeOf3 o5 (E.ev rfl) (E.ev rfl) (Nat.le_of_ble_eq_true rfl) (one_cells rfl) rfl) rfl rfl ?_
    rintro _ s9 ⟨o6, t9⟩
    refine GL_nil ?_
    refine tgn ?_
    refine G_seq ?_
    refine G_seq ?_
    refine G_region ?_
    refine sd E (o_mv (E.ev rfl)) rfl rfl rfl fun a E => ?_
    obtain ⟨x2, hx5, hm⟩ := ob_some hm
    have f13 := (((((h4.tr t4).tr t5).tr t6).tr t7).tr t8).tr t9
    refine sh E (o_ok Tryz.call35 (E.evs rfl) (E.ev rfl) (ok_59 _ f13 hx5)) rfl rfl rfl ?_
    rintro a _ s10 ⟨t10, b7, b8, w4, rfl, o7, o8, h9⟩ E
    refine GL_nil ?_
    refine tgn ?_
    refine G_block ?_
    have f14 := o6.trN t10
    obtain ⟨s11, e1, h10, t11⟩ := f14.rt ((κ + 1), 0)
    rw [e1]
    obtain ⟨⟨x3, X3⟩, hx6, hm⟩ := ob_some hm
    have f15 := ((((((((((ho2.trN t1).trN t2).trN t3).trN t4).trN t5).tr t6 (fun i => (nt_fst (rb lt3)))).trN t7).trN t8).tr t9 (fun i => (nt_fst (rb lt3)))).trN t10).tr t11 (fun i => (nt_fst (rb lt3)))
    have f16 := o7.tr t11
    have f17 := o8.tr t11
    have f18 := h9.tr t11
    refine G_range2 (α := List Int × Value) (E.ev (x := .tmp 39) rfl) Tryz.call65 (κ + 2) (fun (st : Int × Disk) s' => Own ((κ + 1), 0) s' b6 #[.int .i64 st.1] 3 ∧ DiskAt k2 s' b2 st.2) (fun st x => (m_26_r1) st x.1) (fun x => [x.2]) (fun x s => Sl kU s x.2 x.1) (fun x s s' p h t => h.tr t) (Ws [k2, (κ + 1)]) (fun i => nW2 (rb lt3).symm (ra rfl)) ?_ (y4, X2) (x3, X3) ⟨h10, f15⟩ (fun _ => rfl) ?_ ?_ ?_
    · rintro k' hk' st sa sb ⟨g1, g2⟩ t
      have n1 : (κ + 1) ≠ k' := by
        rcases hk' with rfl | hk'
        · exact (ra rfl)
        · have := hk' _ _ h10.1; simp at this; omega
      have n2 : k2 ≠ k' := by
        rcases hk' with rfl | hk'
        · exact (rb lt3)
        · have := hk' _ _ f15.tag; simp at this; omega
      exact ⟨g1.tr t (nr n1), g2.tr t (fun i => nr n2)⟩
    · intro yv J' q' s6 t6 hl hy hj
      exact ok_78 s6 (f16.tr t6) (f18.tr t6) (f17.tr t6) ((m_26_r1)) yv J' q' hl (fun st ch st' s w2 hs hj hc => hy st (ch, w2) st' s hs hj hc) hj hx6
    · rintro l ⟨x4, X4⟩ ⟨x5, w5⟩ ⟨x6, X5⟩ s12 t12 h11 ⟨o9, h12⟩ hc
      have t12 := t12.ws3
      have h11 : Sl kU s12 w5 x5 := h11
      have E := E.round1 (p := 40) (v := w5) rfl
      dsimp only [m_26_r1] at hc
      refine G_region ?_
      refine sd E (o_as (E.ev rfl)) rfl rfl rfl fun a E => ?_
      refine GL_nil ?_
      refine ctn ?_
      refine ⟨_, rfl, Tr.refl _ _, fun s13 t13 => ?_⟩
      have t13 := Tr.w1 t13
      refine G_block ?_
      refine G_seq ?_
      refine G_region ?_
      refine sh E (o_ala ((κ + 1), 1003) .u64 8 Tryz.zeroValue40 (by kernel_rfl)) rfl rfl rfl ?_
      rintro a _ s14 ⟨b9, rfl, o10, t14⟩ E
      refine GL_nil ?_
      refine tgn ?_
      refine G_seq ?_
      refine G_region ?_
      refine sd E (o_slS' Tryz.underlying40 Tryz.sizeOf39 (E.ev rfl)) rfl rfl rfl fun a E => ?_
      refine sd E (o_mv (E.ev rfl)) rfl rfl rfl fun a E => ?_
      have f19 := (h11.tr t13).tr t14
      refine sh E (o_cpy Tryz.underlying36 rfl o10 (List.length_replicate ..) f19.rd (E.ev rfl) (E.ev rfl)) rfl rfl rfl ?_
      rintro a _ s15 ⟨rfl, o11, t15⟩ E
      refine GL_nil ?_
      refine tgn ?_
      refine G_seq ?_
      refine G_drw (κ + 3) (by rfl) [0, 1, 2, 3, 4, 5, 6] (by kernel_rfl) ?_
      intro s16 t16
      have f20 := (((((((((f11.tr t7).tr t8).tr t9).tr t10).tr t11).tr t12).tr t13).tr t14).tr t15).tr t16
      refine dq E rfl (fun s' t => (o_ld Tryz.isAgg29 (E.ev rfl) (((f20.up t).cell _).trans rfl))) rfl rfl rfl (by kernel_rfl) fun a E => ?_
      refine dp E rfl (fun w => (o_nc (E.ev rfl))) rfl rfl rfl fun a E => ?_
      have f21 := (((((((((f12.trN t7).trN t8).tr t9 (fun i => (nt_fst (rb lt1))) (fun i => (nt_fst (rb lt2)))).trN t10).tr t11 (fun i => (nt_fst (rb lt1))) (fun i => (nt_fst (rb lt2)))).tr t12 (fun i => (nW3 ne02 (rb lt1) (rb lt1))) (fun i => (nW3 ne12 (rb lt2) (rb lt2)))).tr t13 (fun i => (nW1 (rb lt1))) (fun i => (nW1 (rb lt2)))).trN t14).tr t15 (fun i => (nt_fst (rb lt1))) (fun i => (nt_fst (rb lt2)))).trN t16
      obtain ⟨w6, b10, o12, h13, h14⟩ := f21
      refine dp E rfl (fun w => (o_fa Tryz.underlying68 rfl Tryz.sizeOf25 (E.ev rfl))) rfl rfl rfl fun a E => ?_
      refine dr E rfl (fun s' t => (o_ld Tryz.isAgg25 (E.ev rfl) (((o12.trN t).cell _).trans rfl))) rfl rfl rfl (by kernel_rfl) fun a E => ?_
      have f22 := (((o9.tr t13 (nW1 (ra rfl))).trN t14).tr t15 (nt_snd rfl)).trN t16
      refine dr E rfl (fun s' t => (o_ld Tryz.isAgg3 (E.ev rfl) (((f22.trN t).cell _).trans rfl))) rfl rfl rfl (by kernel_rfl) fun a E => ?_
      have f23 := o11.trN t16
      refine dr E rfl (fun s' t => (o_ldA Tryz.isAgg40 Tryz.sizeOf40 (E.ev rfl) ((cpy_len (Nat.zero_le _)).trans (List.length_replicate ..)) (f23.trN t).cell)) rfl rfl rfl (by kernel_rfl) fun a E => ?_
      have f24 := (((h12.tr t13 (fun i => (nW1 (rb lt3)))).trN t14).tr t15 (fun i => (nt_fst (rb lt3)))).trN t16
      obtain ⟨⟨y5, X6⟩, hx7, hc⟩ := ob_some hc
      refine dl E rfl (o_ok Tryz.call36 (E.evs rfl) (E.ev rfl) (oq_60 _ (x1 := x4) (x2 := (cpy (List.replicate 8 (0 : Int)) 0 x5)) f24 ((cpy_len (Nat.zero_le _)).trans (List.length_replicate ..)) hx7)) rfl rfl rfl (by kernel_rfl) ?_
      rintro a _ s17 ⟨t17, rfl, h15⟩ E
      refine gd_nil ?_
      refine tgn ?_
      refine G_region ?_
      have f25 := f22.tr t17 (nW1 (rb lt3).symm)
      refine sd E (o_ld Tryz.isAgg3 (E.ev rfl) ((f25.cell _).trans rfl)) rfl rfl rfl fun a E => ?_
      refine sd E (o_bi (E.ev rfl) (E.ev rfl) rfl) rfl rfl rfl fun a E => ?_
      refine shN E (o_st (o := 0) (cs' := #[.int .i64 (IntKind.wrap .i64 (x4 + 1))]) (v := .int .i64 (IntKind.wrap .i64 (x4 + 1))) Tryz.sizeOf3 f25 (E.ev rfl) (E.ev rfl) (Nat.le_of_ble_eq_true rfl) (one_cells rfl) rfl) rfl rfl ?_
      rintro _ s18 ⟨o13, t18⟩
      refine GL_nil ?_
      refine ebn ?_
      cases hc
      have f26 := h15.tr t18 (fun i => (nt_fst (rb lt3)))
      exact ⟨rfl, _, rfl, ⟨o13, f26⟩, ((((t14.no.trans (Tr.tw (by simp) t15)).trans t16.no).trans (Tr.ww (by simp) t17)).trans (Tr.tw (by simp) t18))⟩
    · rintro D1 s19 ⟨o14, h16⟩ t19 hd1
      have t19 := t19.ws3
      have E : En [{ target := .collected D1, args := #[] }] 84 { a with defers := { target := .collected D1, args := #[] } :: a.defers } _ := ⟨E.size, by simp [E.defs], E.get⟩
      refine ebn ?_
      refine tgn ?_
      refine G_seq ?_
      refine G_region ?_
      have f27 := (((((f11.tr t7).tr t8).tr t9).tr t10).tr t11).tr t19
      refine sd E (o_ld Tryz.isAgg29 (E.ev rfl) ((f27.cell _).trans rfl)) rfl rfl rfl fun a E => ?_
      refine sd E (o_nc (E.ev rfl)) rfl rfl rfl fun a E => ?_
      have f28 := (((((f12.trN t7).trN t8).tr t9 (fun i => (nt_fst (rb lt1))) (fun i => (nt_fst (rb lt2)))).trN t10).tr t11 (fun i => (nt_fst (rb lt1))) (fun i => (nt_fst (rb lt2)))).tr t19 (fun i => (nW3 ne02 (rb lt1) (rb lt1))) (fun i => (nW3 ne12 (rb lt2) (rb lt2)))
      obtain ⟨w7, b11, o15, h17, h18⟩ := f28
      refine sd E (o_fa Tryz.underlying68 rfl Tryz.sizeOf25 (E.ev rfl)) rfl rfl rfl fun a E => ?_
      refine sd E (o_ld Tryz.isAgg25 (E.ev rfl) ((o15.cell _).trans rfl)) rfl rfl rfl fun a E => ?_
      obtain ⟨X7, hx8, hm⟩ := ob_some hm
      refine sh E (o_ok Tryz.call31 (E.evs rfl) (E.ev rfl) (oq_51 _ h16 hx8)) rfl rfl rfl ?_
      rintro a _ s20 ⟨t20, h19⟩ E
      refine GL_nil ?_
      refine tgn ?_
      refine G_seq ?_
      refine G_seq ?_
      refine G_drw (κ + 4) (by rfl) [0, 1, 2, 3, 4, 5, 6] (by kernel_rfl) ?_
      intro s21 t21
      have f29 := (f27.tr t20).tr t21
      refine dq E rfl (fun s' t => (o_ld Tryz.isAgg29 (E.ev rfl) (((f29.up t).cell _).trans rfl))) rfl rfl rfl (by kernel_rfl) fun a E => ?_
      refine dp E rfl (fun w => (o_nc (E.ev rfl))) rfl rfl rfl fun a E => ?_
      refine dp E rfl (fun w => (o_fa Tryz.underlying68 rfl Tryz.sizeOf25 (E.ev rfl))) rfl rfl rfl fun a E => ?_
      have f30 := (o15.tr t20 (nW1 ne02)).trN t21
      refine dr E rfl (fun s' t => (o_ld Tryz.isAgg25 (E.ev rfl) (((f30.trN t).cell _).trans rfl))) rfl rfl rfl (by kernel_rfl) fun a E => ?_
      have f31 := (((((((o4.trN t7).trN t8).tr t9 (nt_snd rfl)).trN t10).tr t11 (nt_snd rfl)).tr t19 (nW3 (rb lt3).symm (ra rfl) (ra rfl))).tr t20 (nW1 (rb lt3).symm)).trN t21
      refine dr E rfl (fun s' t => (o_ldc (cs := #[.int .i64 y3.Number, .int .i64 y3.Epoch, .int .i64 y3.Area, .int .i64 y3.Words]) Tryz.isAgg49 Tryz.sizeOf49 (E.ev rfl) (f31.trN t).cell)) rfl rfl rfl (by kernel_rfl) fun a E => ?_
      have f32 := h19.trN t21
      obtain ⟨⟨y6, X8⟩, hx9, hm⟩ := ob_some hm
      refine dl E rfl (o_ok Tryz.call37 (E.evs rfl) (E.ev rfl) (ok_61 _ (x1 := y3) f32 hx9)) rfl rfl rfl (by kernel_rfl) ?_
      rintro a _ s22 ⟨t22, rfl, h20⟩ E
      refine dp E rfl (fun w => (o_as (E.ev rfl))) rfl rfl rfl fun a E => ?_
      refine gd_nil ?_
      refine tgn ?_
      refine G_seq ?_
      refine G_region ?_
      refine sd E (o_mv (E.ev rfl)) rfl rfl rfl fun a E => ?_
      refine sd E (o_bi (E.ev rfl) (E.ev rfl) rfl) rfl rfl rfl fun a E => ?_
      refine GL_nil ?_
      refine tgn ?_
      refine G_cond (E.ev rfl) (fun ht => ?_) (fun ht => ?_)
      · have hm := cT ht hm
        refine G_seq ?_
        refine G_region ?_
        refine sd E (o_mv (E.ev rfl)) rfl rfl rfl fun a E => ?_
        refine sd E (o_as (E.ev rfl)) rfl rfl rfl fun a E => ?_
        refine GL_nil ?_
        refine tgn ?_
        refine G_ret ?_
        refine tgr ?_
        cases hm
        have f33 := ((h17.tr t20).tr t21).tr t22
        have f34 := ((h18.tr t20 (fun i => (nW1 ne12))).trN t21).tr t22 (fun i => (nW1 ne12))
        have f35 := f30.tr t22 (nW1 ne02)
        have h21 : VaultAt k1 k1a b2 s22 b1 (⟨X1.area, (⟨X1.at_.Number, X1.at_.Epoch, X1.at_.Area, X1.at_.Words⟩ : Anchor), X1.stored, X1.log⟩ : VaultM) := ⟨_, _, f35, f33, f34⟩
        have f36 := ((hd1.tr t20 (nW1 (rb lt3).symm)).trN t21).tr t22 (nW1 (rb lt3).symm)
        refine .inr (finD E f36 fun s23 t23 => ⟨_, s23, rfl, res1 E rfl rfl, ?_⟩)
        have f37 := h21.tr t23 (fun i => (nt_fst (rb lt1))) (fun i => (nt_fst (rb lt2)))
        have f38 := h20.tr t23 (fun i => (nt_fst (rb lt3)))
        have T2 : Tr (Fz κ [k1, k1a, k2]) s s23 := (((((((((((((((t1.no.trans t2.no).trans t3.no).trans t4.no).trans t5.no).trans (Tr.ft Fz.f t6)).trans t7.no).trans t8.no).trans (Tr.ft Fz.f t9)).trans t10.no).trans (Tr.ft Fz.f t11)).trans (Tr.fw3 Fz.w2 Fz.f Fz.f t19)).trans (Tr.fw1 Fz.w2 t20)).trans t21.no).trans (Tr.fw1 Fz.w2 t22)).trans (Tr.ft Fz.f t23))
        exact ⟨(Tr.fin hκ T2), rfl, f37, f38⟩
      · have hm := cF ht hm
        refine G_skip ?_
        refine tgn ?_
        refine G_seq ?_
        refine G_region ?_
        have f39 := f29.tr t22
        refine sd E (o_ld Tryz.isAgg29 (E.ev rfl) ((f39.cell _).trans rfl)) rfl rfl rfl fun a E => ?_
        refine sd E (o_nc (E.ev rfl)) rfl rfl rfl fun a E => ?_
        refine sd E (o_fa Tryz.underlying68 rfl Tryz.sizeOf25 (E.ev rfl)) rfl rfl rfl fun a E => ?_
        have f40 := f30.tr t22 (nW1 ne02)
        refine sd E (o_ld Tryz.isAgg25 (E.ev rfl) ((f40.cell _).trans rfl)) rfl rfl rfl fun a E => ?_
        obtain ⟨X9, hx10, hm⟩ := ob_some hm
        refine sh E (o_ok Tryz.call31 (E.evs rfl) (E.ev rfl) (oq_51 _ h20 hx10)) rfl rfl rfl ?_
        rintro a _ s24 ⟨t24, h22⟩ E
        refine GL_nil ?_
        refine tgn ?_
        refine G_seq ?_
        refine G_drw (κ + 5) (by rfl) [0, 1, 2, 3, 4, 5, 6, 7, 8, 9] (by kernel_rfl) ?_
        intro s25 t25
        have f41 := (f39.tr t24).tr t25
        refine dq E rfl (fun s' t => (o_ld Tryz.isAgg29 (E.ev rfl) (((f41.up t).cell _).trans rfl))) rfl rfl rfl (by kernel_rfl) fun a E => ?_
        refine dq E rfl (fun s' t => (o_ld Tryz.isAgg29 (E.ev rfl) (((f41.up t).cell _).trans rfl))) rfl rfl rfl (by kernel_rfl) fun a E => ?_
        have f42 := ((f31.tr t22 (nW1 (rb lt3).symm)).tr t24 (nW1 (rb lt3).symm)).trN t25
        refine dr E rfl (fun s' t => (o_ldc (cs := #[.int .i64 y3.Number, .int .i64 y3.Epoch, .int .i64 y3.Area, .int .i64 y3.Words]) Tryz.isAgg49 Tryz.sizeOf49 (E.ev rfl) (f42.trN t).cell)) rfl rfl rfl (by kernel_rfl) fun a E => ?_
        refine dp E rfl (fun w => (o_mv (E.ev rfl))) rfl rfl rfl fun a E => ?_
        refine dp E rfl (fun w => (o_nc (E.ev rfl))) rfl rfl rfl fun a E => ?_
        refine dp E rfl (fun w => (o_fa Tryz.underlying68 rfl Tryz.sizeOf49 (E.ev rfl))) rfl rfl rfl fun a E => ?_
        have f43 := (f40.tr t24 (nW1 ne02)).trN t25
        refine dlN E rfl (o_st (o := 2) (cs' := #[.pointer (some ⟨b2, 0, none⟩), .int .i64 X1.area, .int .i64 y3.Number, .int .i64 y3.Epoch, .int .i64 y3.Area, .int .i64 y3.Words, w7, .pointer (some ⟨b11, 0, none⟩)]) (v := .agg #[.int .i64 y3.Number, .int .i64 y3.Epoch, .int .i64 y3.Area, .int .i64 y3.Words]) Tryz.sizeOf49 f43 (E.ev rfl) (E.ev rfl) (Nat.le_of_ble_eq_true rfl) (one_cells rfl) rfl) rfl rfl (by kernel_rfl) ?_
        rintro _ s26 ⟨o16, t26⟩
        refine dp E rfl (fun w => (o_nc (E.ev rfl))) rfl rfl rfl fun a E => ?_
        refine dp E rfl (fun w => (o_fa Tryz.underlying68 rfl Tryz.sizeOf43 (E.ev rfl))) rfl rfl rfl fun a E => ?_
        have f44 := (((((((((((((((h1.tr t3).tr t4).tr t5).tr t6).tr t7).tr t8).tr t9).tr t10).tr t11).tr t19).tr t20).tr t21).tr t22).tr t24).tr t25).tr t26
        obtain ⟨a1, c1, rfl⟩ := f44.isS
        refine dlN E rfl (o_st (o := 6) (cs' := #[.pointer (some ⟨b2, 0, none⟩), .int .i64 X1.area, .int .i64 y3.Number, .int .i64 y3.Epoch, .int .i64 y3.Area, .int .i64 y3.Words, (.slice a1 y1.length c1), .pointer (some ⟨b11, 0, none⟩)]) (v := (.slice a1 y1.length c1)) Tryz.sizeOf43 o16 (E.ev rfl) (E.ev rfl) (Nat.le_of_ble_eq_true rfl) (one_cells rfl) rfl) rfl rfl (by kernel_rfl) ?_
        rintro _ s27 ⟨o17, t27⟩
        refine gd_nil ?_
        refine tgn ?_
        refine G_seq ?_
        refine G_region ?_
        have f45 := (f41.tr t26).tr t27
        refine sd E (o_ld Tryz.isAgg29 (E.ev rfl) ((f45.cell _).trans rfl)) rfl rfl rfl fun a E => ?_
        refine sd E (o_fa Tryz.underlying49 rfl Tryz.sizeOf3 (E.ev rfl)) rfl rfl rfl fun a E => ?_
        have f46 := (f42.tr t26 (nt_fst (rb lt1).symm)).tr t27 (nt_fst (rb lt1).symm)
        refine sd E (o_ld Tryz.isAgg3 (E.ev rfl) ((f46.cell _).trans rfl)) rfl rfl rfl fun a E => ?_
        have f47 := f44.tr t27
        have f48 := ((((((h18.tr t20 (fun i => (nW1 ne12))).trN t21).tr t22 (fun i => (nW1 ne12))).tr t24 (fun i => (nW1 ne12))).trN t25).tr t26 (fun i => (nt_fst ne01.symm))).tr t27 (fun i => (nt_fst ne01.symm))
        have h23 : VaultAt k1 k1a b2 s27 b1 (⟨X1.area, (⟨y3.Number, y3.Epoch, y3.Area, y3.Words⟩ : Anchor), y1, X1.log⟩ : VaultM) := ⟨_, _, o17, f47, f48⟩
        obtain ⟨⟨y7, X10⟩, hx11, hm⟩ := ob_some hm
        obtain ⟨_, h24⟩ := h23.zero
        have f49 := ((h22.trN t25).tr t26 (fun i => (nt_fst ne02.symm))).tr t27 (fun i => (nt_fst ne02.symm))
        refine sh E (o_ok Tryz.call26 (E.evs rfl) (E.ev rfl) (ok_54 _ k1a h24 f49 ne02 ne01.symm hx11)) rfl rfl rfl ?_
        rintro a _ s28 ⟨t28, _, rfl, h25, h26, h27⟩ E
        have h28 := Vault0At.full h25 h27
        refine sd E (o_as (E.ev rfl)) rfl rfl rfl fun a E => ?_
        refine GL_nil ?_
        refine tgn ?_
        refine G_ret ?_
        cases hm
        have f50 := (((((((hd1.tr t20 (nW1 (rb lt3).symm)).trN t21).tr t22 (nW1 (rb lt3).symm)).tr t24 (nW1 (rb lt3).symm)).trN t25).tr t26 (nt_fst (rb lt1).symm)).tr t27 (nt_fst (rb lt1).symm)).tr t28 (nW2 (rb lt1).symm (rb lt3).symm)
        refine .inr (finD E f50 fun s29 t29 => ⟨_, s29, rfl, res1 E rfl rfl, ?_⟩)
        have f51 := h28.tr t29 (fun i => (nt_fst (rb lt1))) (fun i => (nt_fst (rb lt2)))
        have f52 := h26.tr t29 (fun i => (nt_fst (rb lt3)))
        have T3 : Tr (Fz κ [k1, k1a, k2]) s s29 := ((((((((((((((((((((t1.no.trans t2.no).trans t3.no).trans t4.no).trans t5.no).trans (Tr.ft Fz.f t6)).trans t7.no).trans t8.no).trans (Tr.ft Fz.f t9)).trans t10.no).trans (Tr.ft Fz.f t11)).trans (Tr.fw3 Fz.w2 Fz.f Fz.f t19)).trans (Tr.fw1 Fz.w2 t20)).trans t21.no).trans (Tr.fw1 Fz.w2 t22)).trans (Tr.fw1 Fz.w2 t24)).trans t25.no).trans (Tr.ft Fz.w0 t26)).trans (Tr.ft Fz.w0 t27)).trans (Tr.fw2 Fz.w0 Fz.w2 t28)).trans (Tr.ft Fz.f t29))
        exact ⟨(Tr.fin hκ T3), rfl, f51, f52⟩

end Go.Proofs.YtdkfdmalbbfbmaaGreat

/- What a vault is asked, as data. -/
namespace Go.Proofs.YtdkfdmalbbfbmaaGreat
open Go Go.Maps
set_option maxRecDepth 4000

structure OpV where
  Kind : Int
  F : Frame
  Keep : List Bool
  I : Int
  S : List Int
def kOpV : Kd OpV where
  sz := 13
  R s cs q := ∃ w1 w2, q.S.length = 8 ∧ cs = [.int .u8 q.Kind, .int .i64 q.F.Kind, w1, w2, .int .i64 q.I] ++ q.S.map (Value.int .u64) ∧ Sl kU s w1 q.F.Words ∧ Sl kBool s w2 q.Keep
  len := by rintro s cs x ⟨w1, w2, h, rfl, _⟩; simp [h]
  one := by
    rintro s cs x ⟨w1, w2, h, rfl, h1, h2⟩ u hu
    obtain ⟨a, c, rfl⟩ := h1.isS
    obtain ⟨a', c', rfl⟩ := h2.isS
    simp at hu
    rcases hu with rfl | rfl | rfl | rfl | rfl | ⟨z, _, rfl⟩ <;> rfl
  up := by rintro s s' cs x ⟨w1, w2, h, rfl, h1, h2⟩ hl; exact ⟨w1, w2, h, rfl, h1.up hl, h2.up hl⟩
theorem At.elOpV {s : St} {b o : Nat} {q : OpV} (h : At kOpV s ⟨b, o, none⟩ q) : ∃ w1 w2, s.w.cell? ⟨b, o, none⟩ = some (.int .u8 q.Kind) ∧ s.w.cell? ⟨b, o + 1, none⟩ = some (.int .i64 q.F.Kind) ∧ s.w.cell? ⟨b, o + 2, none⟩ = some w1 ∧ s.w.cell? ⟨b, o + 3, none⟩ = some w2 ∧ s.w.cell? ⟨b, o + 4, none⟩ = some (.int .i64 q.I) ∧ True ∧ Sl kU s w1 q.F.Words ∧ Sl kBool s w2 q.Keep ∧ q.S.length = 8 := by
  obtain ⟨_, _, _, cs, ⟨w1, w2, h8, rfl, h1, h2⟩, hc⟩ := h
  exact ⟨w1, w2, hc 0 _ rfl, hc 1 _ rfl, hc 2 _ rfl, hc 3 _ rfl, hc 4 _ rfl, trivial, h1, h2, h8⟩
end Go.Proofs.YtdkfdmalbbfbmaaGreat

/- Models and walks, printed by a program of ours. -/
namespace Go.Proofs.YtdkfdmalbbfbmaaGreat
open Go Go.Maps
set_option maxRecDepth 4000
set_option maxHeartbeats 1000000
-- gimmal/gimmallaw22.alive

noncomputable def m_23 : Option Bool :=
  ob (m_8 5) fun y1 => ob (m_24 y1 1) fun (y2, y3, X1) => ob (bif y3 == 0 then (ob (m_28 y2) fun y4 => bif y4 == 8 then (ob (m_27 y2 X1 (⟨1, []⟩ : Frame)) fun (y5, X4, X5) => bif y5 == 0 then (ob (m_26 X4 X5) fun (y6, X6, X7) => bif y6 == 0 then (ob (m_28 X6) fun y7 => bif y7 == 8 then (ob (m_30 X6) fun y8 => some (y8 == 1, X7, X6)) else (some (false, X7, X6))) else (some (false, X7, X6))) else (some (false, X5, X4))) else (some (false, X1, y2))) else (some (false, X1, y2))) fun (t3, X2, X3) => some t3
theorem ok_23 (s : St) {r0y : Bool} (hm : m_23 = some r0y) :
    Ok Tryz.prog 4 ([] : List Value).toArray s fun v s' => Tr No s s' ∧ v = .bool r0y := by
  unfold m_23 at hm
  obtain ⟨κ, hκ⟩ := s.fresh
  refine ok_of (n := 36) _ Tryz.func4 rfl _ rfl rfl fun a E => ?_
  refine G_seq ?_
  refine G_region ?_
  refine sd E (o_as (E.ev rfl)) rfl rfl rfl fun a E => ?_
  refine GL_nil ?_
  refine tgn ?_
  refine G_seq ?_
  refine G_region ?_
  obtain ⟨y1, hx1, hm⟩ := ob_some hm
  refine sh E (o_ok Tryz.call5 (E.evs rfl) (E.ev rfl) (oq_8 _ (κ + 1) (x0 := 5) hx1)) rfl rfl rfl ?_
  rintro a _ s1 ⟨t1, b1, rfl, h1⟩ E
  obtain ⟨⟨y2, y3, X1⟩, hx2, hm⟩ := ob_some hm
  refine sh E (o_ok Tryz.call7 (E.evs rfl) (E.ev rfl) (ok_24 _ (κ + 2) (κ + 3) (x1 := 1) h1 hx2)) rfl rfl rfl ?_
  rintro a _ s2 ⟨t2, b2, rfl, h3, h2⟩ E
  refine sd E (o_mv (E.ev rfl)) rfl rfl rfl fun a E => ?_
  refine sd E (o_ext (v := .pointer (some ⟨b2, 0, none⟩)) (E.ev rfl) rfl) rfl rfl rfl fun a E => ?_
  refine sd E (o_ext (v := .int .i64 y3) (E.ev rfl) rfl) rfl rfl rfl fun a E => ?_
  refine sd E (o_as (E.ev rfl)) rfl rfl rfl fun a E => ?_
  refine sd E (o_as (E.ev rfl)) rfl rfl rfl fun a E => ?_
  refine GL_nil ?_
  refine tgn ?_
  refine G_seq ?_
  obtain ⟨⟨t3, X2, X3⟩, hc1, hm⟩ := ob_some hm
  refine G_regm (fun a' w' => ∃ s', w' = s'.w ∧ Tr (Fz κ []) s2 s' ∧ En [] 36 a' [(0, .bool t3)]) ?_ ?_
  · refine sd E (o_mv (E.ev rfl)) rfl rfl rfl fun a E => ?_
    refine sd E (o_bi (E.ev rfl) (E.ev rfl) rfl) rfl rfl rfl fun a E => ?_
    refine sd E (o_mv (E.ev rfl)) rfl rfl rfl fun a E => ?_
    refine bcase (E.ev (x := .tmp 10) rfl) (fun ht => ?_) (fun ht => ?_)
    · have hc1 := cT ht hc1
      rw [ht] at E
      refine sd E (o_mv (E.ev rfl)) rfl rfl rfl fun a E => ?_
      obtain ⟨y4, hx3, hc1⟩ := ob_some hc1
      refine sh E (o_ok Tryz.call21 (E.evs rfl) (E.ev rfl) (ok_28 _ h2 (ra rfl) hx3)) rfl rfl rfl ?_
      rintro a _ s3 ⟨t4, rfl⟩ E
      refine sd E (o_bi (E.ev rfl) (E.ev rfl) rfl) rfl rfl rfl fun a E => ?_
      refine sd E (o_pickT (E.ev rfl) (E.ev rfl)) rfl rfl rfl fun a E => ?_
      refine sd E (o_mv (E.ev rfl)) rfl rfl rfl fun a E => ?_
      refine bcase (E.ev (x := .tmp 15) rfl) (fun ht => ?_) (fun ht => ?_)
      · have hc1 := cT ht hc1
        rw [ht] at E
        refine sd E (o_mv (E.ev rfl)) rfl rfl rfl fun a E => ?_
        refine sd E (o_bd (cells := #[.int .i64 1, (.slice none 0 0)]) (places := #[(0, 1), (1, 1)]) Tryz.zeroValue38 Tryz.underlying38 (fun w => by simp [Sem.run_bind, Result.andThen, Tryz.sizeOf3, Tryz.sizeOf36]) (qs := #[(0, .int .i64 1)]) (by simp only [List.map_toArray, List.map_cons, List.map_nil, E.ev (x := .const (.int .i64 1)) (v := .int .i64 1) rfl]) (by kernel_rfl)) rfl rfl rfl fun a E => ?_
        have f1 := h2.trN t4
        have f2 := h3.trN t4
        obtain ⟨⟨y5, X4, X5⟩, hx4, hc1⟩ := ob_some hc1
        refine sh E (o_ok Tryz.call14 (E.evs rfl) (E.ev rfl) (ok_27 _ (x1 := (⟨1, []⟩ : Frame)) f1 f2 (Sl.nil) (ra rfl) (ra rfl) (ra rfl) hx4)) rfl rfl rfl ?_
        rintro a _ s4 ⟨t5, rfl, h4, h5⟩ E
        refine sd E (o_bi (E.ev rfl) (E.ev rfl) rfl) rfl rfl rfl fun a E => ?_
        refine sd E (o_pickT (E.ev rfl) (E.ev rfl)) rfl rfl rfl fun a E => ?_
        refine sd E (o_mv (E.ev rfl)) rfl rfl rfl fun a E => ?_
        refine bcase (E.ev (x := .tmp 21) rfl) (fun ht => ?_) (fun ht => ?_)
        · have hc1 := cT ht hc1
          rw [ht] at E
          refine sd E (o_mv (E.ev rfl)) rfl rfl rfl fun a E => ?_
          obtain ⟨⟨y6, X6, X7⟩, hx5, hc1⟩ := ob_some hc1
          refine sh E (o_ok Tryz.call12 (E.evs rfl) (E.ev rfl) (ok_26 _ h4 h5 (ra rfl) (ra rfl) (ra rfl) hx5)) rfl rfl rfl ?_
          rintro a _ s5 ⟨t6, rfl, h6, h7⟩ E
          refine sd E (o_bi (E.ev rfl) (E.ev rfl) rfl) rfl rfl rfl fun a E => ?_
          refine sd E (o_pickT (E.ev rfl) (E.ev rfl)) rfl rfl rfl fun a E => ?_
          refine sd E (o_mv (E.ev rfl)) rfl rfl rfl fun a E => ?_
          refine bcase (E.ev (x := .tmp 26) rfl) (fun ht => ?_) (fun ht => ?_)
          · have hc1 := cT ht hc1
            rw [ht] at E
            refine sd E (o_mv (E.ev rfl)) rfl rfl rfl fun a E => ?_
            obtain ⟨y7, hx6, hc1⟩ := ob_some hc1
            refine sh E (o_ok Tryz.call21 (E.evs rfl) (E.ev rfl) (ok_28 _ h6 (ra rfl) hx6)) rfl rfl rfl ?_
            rintro a _ s6 ⟨t7, rfl⟩ E
            refine sd E (o_bi (E.ev rfl) (E.ev rfl) rfl) rfl rfl rfl fun a E => ?_
            refine sd E (o_pickT (E.ev rfl) (E.ev rfl)) rfl rfl rfl fun a E => ?_
            refine sd E (o_mv (E.ev rfl)) rfl rfl rfl fun a E => ?_
            refine bcase (E.ev (x := .tmp 31) rfl) (fun ht => ?_) (fun ht => ?_)
            · have hc1 := cT ht hc1
              rw [ht] at E
              refine sd E (o_mv (E.ev rfl)) rfl rfl rfl fun a E => ?_
              have f3 := h6.trN t7
              obtain ⟨y8, hx7, hc1⟩ := ob_some hc1
              refine sh E (o_ok Tryz.call22 (E.evs rfl) (E.ev rfl) (ok_30 _ f3 (ra rfl) hx7)) rfl rfl rfl ?_
              rintro a _ s7 ⟨t8, rfl⟩ E
              refine sd E (o_bi (E.ev rfl) (E.ev rfl) rfl) rfl rfl rfl fun a E => ?_
              refine sd E (o_pickT (E.ev rfl) (E.ev rfl)) rfl rfl rfl fun a E => ?_
              refine sd E (o_as (E.ev rfl)) rfl rfl rfl fun a E => ?_
              cases hc1
              exact GL_nil ⟨_, rfl, ((((t4.no.trans (Tr.fw3 Fz.f Fz.f Fz.f t5)).trans (Tr.fw3 Fz.f Fz.f Fz.f t6)).trans t7.no).trans t8.no), (E.nil.ad E rfl rfl)⟩
            · have hc1 := cF ht hc1
              rw [ht] at E
              refine sk E rfl rfl rfl fun a E => ?_
              refine sk E rfl rfl rfl fun a E => ?_
              refine sk E rfl rfl rfl fun a E => ?_
              refine sd E (o_pickF (E.ev rfl) (E.ev rfl)) rfl rfl rfl fun a E => ?_
              refine sd E (o_as (E.ev rfl)) rfl rfl rfl fun a E => ?_
              cases hc1
              exact GL_nil ⟨_, rfl, (((t4.no.trans (Tr.fw3 Fz.f Fz.f Fz.f t5)).trans (Tr.fw3 Fz.f Fz.f Fz.f t6)).trans t7.no), (E.nil.ad E rfl rfl)⟩
          · have hc1 := cF ht hc1
            rw [ht] at E
            refine sk E rfl rfl rfl fun a E => ?_
            refine sk E rfl rfl rfl fun a E => ?_
            refine sk E rfl rfl rfl fun a E => ?_
            refine sd E (o_pickF (E.ev rfl) (E.ev rfl)) rfl rfl rfl fun a E => ?_
            refine sd E (o_mv (E.ev rfl)) rfl rfl rfl fun a E => ?_
            refine sk E rfl rfl rfl fun a E => ?_
            refine sk E rfl rfl rfl fun a E => ?_
            refine sk E rfl rfl rfl fun a E => ?_
            refine sd E (o_pickF (E.ev rfl) (E.ev rfl)) rfl rfl rfl fun a E => ?_
            refine sd E (o_as (E.ev rfl)) rfl rfl rfl fun a E => ?_
            cases hc1
            exact GL_nil ⟨_, rfl, ((t4.no.trans (Tr.fw3 Fz.f Fz.f Fz.f t5)).trans (Tr.fw3 Fz.f Fz.f Fz.f t6)), (E.nil.ad E rfl rfl)⟩
        · have hc1 := cF ht hc1
          rw [ht] at E
          refine sk E rfl rfl rfl fun a E => ?_
          refine sk E rfl rfl rfl fun a E => ?_
          refine sk E rfl rfl rfl fun a E => ?_
          refine sd E (o_pickF (E.ev rfl) (E.ev rfl)) rfl rfl rfl fun a E => ?_
          refine sd E (o_mv (E.ev rfl)) rfl rfl rfl fun a E => ?_
          refine sk E rfl rfl rfl fun a E => ?_
          refine sk E rfl rfl rfl fun a E => ?_
          refine sk E rfl rfl rfl fun a E => ?_
          refine sd E (o_pickF (E.ev rfl) (E.ev rfl)) rfl rfl rfl fun a E => ?_
          refine sd E (o_mv (E.ev rfl)) rfl rfl rfl fun a E => ?_
          refine sk E rfl rfl rfl fun a E => ?_
          refine sk E rfl rfl rfl fun a E => ?_
          refine sk E rfl rfl rfl fun a E => ?_
          refine sd E (o_pickF (E.ev rfl) (E.ev rfl)) rfl rfl rfl fun a E => ?_
          refine sd E (o_as (E.ev rfl)) rfl rfl rfl fun a E => ?_
          cases hc1
          exact GL_nil ⟨_, rfl, (t4.no.trans (Tr.fw3 Fz.f Fz.f Fz.f t5)), (E.nil.ad E rfl rfl)⟩
      · have hc1 := cF ht hc1
        rw [ht] at E
        refine sk E rfl rfl rfl fun a E => ?_
        refine sk E rfl rfl rfl fun a E => ?_
        refine sk E rfl rfl rfl fun a E => ?_
        refine sk E rfl rfl rfl fun a E => ?_
        refine sd E (o_pickF (E.ev rfl) (E.ev rfl)) rfl rfl rfl fun a E => ?_
        refine sd E (o_mv (E.ev rfl)) rfl rfl rfl fun a E => ?_
        refine sk E rfl rfl rfl fun a E => ?_
        refine sk E rfl rfl rfl fun a E => ?_
        refine sk E rfl rfl rfl fun a E => ?_
        refine sd E (o_pickF (E.ev rfl) (E.ev rfl)) rfl rfl rfl fun a E => ?_
        refine sd E (o_mv (E.ev rfl)) rfl rfl rfl fun a E => ?_
        refine sk E rfl rfl rfl fun a E => ?_
        refine sk E rfl rfl rfl fun a E => ?_
        refine sk E rfl rfl rfl fun a E => ?_
        refine sd E (o_pickF (E.ev rfl) (E.ev rfl)) rfl rfl rfl fun a E => ?_
        refine sd E (o_mv (E.ev rfl)) rfl rfl rfl fun a E => ?_
        refine sk E rfl rfl rfl fun a E => ?_
        refine sk E rfl rfl rfl fun a E => ?_
        refine sk E rfl rfl rfl fun a E => ?_
        refine sd E (o_pickF (E.ev rfl) (E.ev rfl)) rfl rfl rfl fun a E => ?_
        refine sd E (o_as (E.ev rfl)) rfl rfl rfl fun a E => ?_
        cases hc1
        exact GL_nil ⟨_, rfl, t4.no, (E.nil.ad E rfl rfl)⟩
    · have hc1 := cF ht hc1
      rw [ht] at E
      refine sk E rfl rfl rfl fun a E => ?_
      refine sk E rfl rfl rfl fun a E => ?_
      refine sk E rfl rfl rfl fun a E => ?_
      refine sd E (o_pickF (E.ev rfl) (E.ev rfl)) rfl rfl rfl fun a E => ?_
      refine sd E (o_mv (E.ev rfl)) rfl rfl rfl fun a E => ?_
      refine sk E rfl rfl rfl fun a E => ?_
      refine sk E rfl rfl rfl fun a E => ?_
      refine sk E rfl rfl rfl fun a E => ?_
      refine sk E rfl rfl rfl fun a E => ?_
      refine sd E (o_pickF (E.ev rfl) (E.ev rfl)) rfl rfl rfl fun a E => ?_
      refine sd E (o_mv (E.ev rfl)) rfl rfl rfl fun a E => ?_
      refine sk E rfl rfl rfl fun a E => ?_
      refine sk E rfl rfl rfl fun a E => ?_
      refine sk E rfl rfl rfl fun a E => ?_
      refine sd E (o_pickF (E.ev rfl) (E.ev rfl)) rfl rfl rfl fun a E => ?_
      refine sd E (o_mv (E.ev rfl)) rfl rfl rfl fun a E => ?_
      refine sk E rfl rfl rfl fun a E => ?_
      refine sk E rfl rfl rfl fun a E => ?_
      refine sk E rfl rfl rfl fun a E => ?_
      refine sd E (o_pickF (E.ev rfl) (E.ev rfl)) rfl rfl rfl fun a E => ?_
      refine sd E (o_mv (E.ev rfl)) rfl rfl rfl fun a E => ?_
      refine sk E rfl rfl rfl fun a E => ?_
      refine sk E rfl rfl rfl fun a E => ?_
      refine sk E rfl rfl rfl fun a E => ?_
      refine sd E (o_pickF (E.ev rfl) (E.ev rfl)) rfl rfl rfl fun a E => ?_
      refine sd E (o_as (E.ev rfl)) rfl rfl rfl fun a E => ?_
      cases hc1
      exact GL_nil ⟨_, rfl, (Tr.refl _ _), (E.nil.ad E rfl rfl)⟩
  rintro a _ ⟨s8, rfl, t9, E⟩
  refine tgn ?_
  refine G_ret ?_
  cases hm
  have T1 : Tr (Fz κ []) s s8 := ((t1.no.trans (Tr.fw1 Fz.f t2)).trans t9)
  exact fin1 E rfl rfl ⟨(Tr.fin0 hκ T1), rfl⟩

-- gimmal/gimmallaw22.VaultAgain
end Go.Proofs.YtdkfdmalbbfbmaaGreat
