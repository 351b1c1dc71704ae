/- Models and walks, printed by a program of ours. -/
import Derived.Test.YtdkfdmalbbfbmaaGreatMWL23
/- Models and walks, printed by a program of ours. -/
namespace Go.Proofs.YtdkfdmalbbfbmaaGreat
open Go Go.Maps
set_option maxRecDepth 4000
set_option maxHeartbeats 1000000
structure Vault0 where
  area : Int
  at_ : Anchor
  stored : List Frame
/-- At b lies such a thing, k's. -/
def Vault0At (k dd : Nat) (dlog : Option Addr) (s : St) (b : Nat) (X : Vault0) : Prop := ∃ w0, Own (k, 0) s b #[.pointer (some ⟨dd, 0, none⟩), .int .i64 X.area, .int .i64 X.at_.Number, .int .i64 X.at_.Epoch, .int .i64 X.at_.Area, .int .i64 X.at_.Words, w0, .pointer dlog] 68 ∧ Sl kFr s w0 X.stored
theorem Vault0At.tr {k dd : Nat} {dlog : Option Addr} {s s' : St} {b : Nat} {X : Vault0} {p : Tg → Prop} (h : Vault0At k dd dlog s b X) (t : Tr p s s') (hk : ∀ i, ¬ p (k, i)) : Vault0At k dd dlog s' b X := by
  obtain ⟨w0, h, h0⟩ := h
  exact ⟨w0, h.tr t (hk 0), h0.tr t⟩
theorem Vault0At.trN {k dd : Nat} {dlog : Option Addr} {s s' : St} {b : Nat} {X : Vault0} (h : Vault0At k dd dlog s b X) (t : Tr No s s') : Vault0At k dd dlog s' b X := h.tr t (fun _ h => h)
theorem Vault0At.tag {k dd : Nat} {dlog : Option Addr} {s : St} {b : Nat} {X : Vault0} (h : Vault0At k dd dlog s b X) : s.tag b = some (k, 0) := let ⟨_, h, _⟩ := h; h.1
theorem Vault0At.rt {k dd : Nat} {dlog : Option Addr} {s : St} {b : Nat} {X : Vault0} (h : Vault0At k dd dlog s b X) (r : Nat) : ∃ s', s.w = s'.w ∧ Vault0At r dd dlog s' b X ∧ Tr (Rt k) s s' := by
  obtain ⟨w0, h, h0⟩ := h
  by_cases e : r = k
  · subst e; exact ⟨s, rfl, ⟨w0, h, h0⟩, Tr.refl _ _⟩
  obtain ⟨s1, e1, h, t1⟩ := h.rt (r, 0)
  have h0 := h0.tr t1
  exact ⟨s1, e1, ⟨w0, h, h0⟩, (t1.mono (by intro t h; subst h; rfl))⟩
structure VaultM where
  area : Int
  at_ : Anchor
  stored : List Frame
  log : LogM
/-- At b lies such a thing, k's. -/
def VaultAt (k l dd : Nat) (s : St) (b : Nat) (X : VaultM) : Prop := ∃ w0 b1, Own (k, 0) s b #[.pointer (some ⟨dd, 0, none⟩), .int .i64 X.area, .int .i64 X.at_.Number, .int .i64 X.at_.Epoch, .int .i64 X.at_.Area, .int .i64 X.at_.Words, w0, .pointer (some ⟨b1, 0, none⟩)] 68 ∧ Sl kFr s w0 X.stored ∧ LogAt l dd s b1 X.log
theorem VaultAt.tr {k l dd : Nat} {s s' : St} {b : Nat} {X : VaultM} {p : Tg → Prop} (h : VaultAt k l dd s b X) (t : Tr p s s') (hk : ∀ i, ¬ p (k, i)) (hl : ∀ i, ¬ p (l, i)) : VaultAt k l dd s' b X := by
  obtain ⟨w0, b1, h, h0, h1⟩ := h
  exact ⟨w0, b1, h.tr t (hk 0), h0.tr t, h1.tr t hl⟩
theorem VaultAt.trN {k l dd : Nat} {s s' : St} {b : Nat} {X : VaultM} (h : VaultAt k l dd s b X) (t : Tr No s s') : VaultAt k l dd s' b X := h.tr t (fun _ h => h) (fun _ h => h)
theorem VaultAt.tag {k l dd : Nat} {s : St} {b : Nat} {X : VaultM} (h : VaultAt k l dd s b X) : s.tag b = some (k, 0) := let ⟨_, _, h, _, _⟩ := h; h.1
theorem VaultAt.lt1 {k l dd : Nat} {s : St} {b : Nat} {X : VaultM} {κ : Nat} (h : VaultAt k l dd s b X) (hκ : ∀ b t, s.tag b = some t → t.1 < κ) : l < κ := let ⟨w0, b1, h, h0, h1⟩ := h; hκ _ _ h1.tag
-- (*gimmal/vault.Vault).begin

noncomputable def m_58 (X1 : Vault0) (x1 : Int) : Option Int :=
  some (IntKind.wrap .i64 (2 + (IntKind.wrap .i64 (x1 * X1.area))))
theorem ok_58 (s : St) {k1 b1 : Nat} {X1 : Vault0} {x1 : Int} {d1d : Nat} {u1 : Option Addr} (ho1 : Vault0At k1 d1d u1 s b1 X1) {r0y : Int} (hm : m_58 X1 x1 = some r0y) :
    Ok Tryz.prog 34 ([.pointer (some ⟨b1, 0, none⟩), .int .i64 x1] : List Value).toArray s fun v s' => Tr No s s' ∧ v = .int .i64 r0y := by
  unfold m_58 at hm
  obtain ⟨κ, hκ⟩ := s.fresh
  have lt1 : k1 < κ := hκ _ _ ho1.tag
  refine ok_of (n := 12) _ Tryz.func34 rfl _ rfl rfl fun a E => ?_
  refine G_seq ?_
  refine G_region ?_
  refine sd E (o_as (E.ev rfl)) rfl rfl rfl fun a E => ?_
  refine GL_nil ?_
  refine tgn ?_
  refine G_seq ?_
  refine G_region ?_
  refine sd E (o_mv (E.ev rfl)) rfl rfl rfl fun a E => ?_
  refine sd E (o_mv (E.ev rfl)) rfl rfl rfl fun a E => ?_
  refine sd E (o_nc (E.ev rfl)) rfl rfl rfl fun a E => ?_
  obtain ⟨w1, o1, h1⟩ := ho1
  refine sd E (o_fa Tryz.underlying68 rfl Tryz.sizeOf3 (E.ev rfl)) rfl rfl rfl fun a E => ?_
  refine sd E (o_ld Tryz.isAgg3 (E.ev rfl) ((o1.cell _).trans rfl)) rfl rfl rfl fun a E => ?_
  refine sd E (o_bi (E.ev rfl) (E.ev rfl) rfl) rfl rfl rfl fun a E => ?_
  refine sd E (o_bi (E.ev rfl) (E.ev rfl) rfl) rfl rfl rfl fun a E => ?_
  refine sd E (o_as (E.ev rfl)) rfl rfl rfl fun a E => ?_
  refine GL_nil ?_
  refine tgn ?_
  refine G_ret ?_
  cases hm
  have h2 : Vault0At k1 d1d u1 s b1 X1 := ⟨_, o1, h1⟩
  exact fin1 E rfl rfl ⟨(Tr.fin0 hκ (Tr.refl _ _)), rfl⟩

-- (*gimmal/vault.Vault).next
noncomputable def m_57_1k : (Int × Int × Int × Int) → Option Anchor := fun (x7, x8, x9, x10) => some (⟨x7, x8, x9, x10⟩ : Anchor)
noncomputable def m_57 (X1 : Vault0) (x1 : Int) : Option Anchor :=
  ob (bif decide (X1.at_.Number > 0) then (some (IntKind.wrap .i64 (X1.at_.Number + 1), IntKind.wrap .i64 (X1.at_.Epoch + 1), IntKind.wrap .i64 (1 - X1.at_.Area), x1)) else (some (IntKind.wrap .i64 (X1.at_.Number + 1), IntKind.wrap .i64 (X1.at_.Epoch + 1), 0, x1))) (m_57_1k)
theorem ok_57 (s : St) {k1 b1 : Nat} {X1 : Vault0} {x1 : Int} {d1d : Nat} {u1 : Option Addr} (ho1 : Vault0At k1 d1d u1 s b1 X1) {r0y : Anchor} (hm : m_57 X1 x1 = some r0y) :
    Ok Tryz.prog 33 ([.pointer (some ⟨b1, 0, none⟩), .int .i64 x1] : List Value).toArray s fun v s' => Tr No s s' ∧ v = .agg #[.int .i64 r0y.Number, .int .i64 r0y.Epoch, .int .i64 r0y.Area, .int .i64 r0y.Words] := by
  unfold m_57 at hm
  obtain ⟨κ, hκ⟩ := s.fresh
  have lt1 : k1 < κ := hκ _ _ ho1.tag
  refine ok_of (n := 34) _ Tryz.func33 rfl _ rfl rfl fun a E => ?_
  refine G_seq ?_
  refine G_region ?_
  refine sh E (o_al ((κ + 0), 1001) Tryz.zeroValue49) rfl rfl rfl ?_
  rintro a _ s1 ⟨b2, rfl, o1, t1⟩ E
  refine GL_nil ?_
  refine tgn ?_
  refine G_seq ?_
  refine G_drw (κ + 1) (by rfl) [0, 1, 2, 3, 4, 5, 6, 7, 8, 9, 10, 11, 12, 13, 14, 15] (by kernel_rfl) ?_
  intro s2 t2
  refine dp E rfl (fun w => (o_mv (E.ev rfl))) rfl rfl rfl fun a E => ?_
  refine dp E rfl (fun w => (o_nc (E.ev rfl))) rfl rfl rfl fun a E => ?_
  have f1 := (ho1.trN t1).trN t2
  obtain ⟨w1, o2, h1⟩ := f1
  refine dp E rfl (fun w => (o_fa Tryz.underlying68 rfl Tryz.sizeOf49 (E.ev rfl))) rfl rfl rfl fun a E => ?_
  refine dp E rfl (fun w => (o_fa Tryz.underlying49 rfl Tryz.sizeOf3 (E.ev rfl))) rfl rfl rfl fun a E => ?_
  refine dr E rfl (fun s' t => (o_ld Tryz.isAgg3 (E.ev rfl) (((o2.trN t).cell _).trans rfl))) rfl rfl rfl (by kernel_rfl) fun a E => ?_
  refine dp E rfl (fun w => (o_bi (E.ev rfl) (E.ev rfl) rfl)) rfl rfl rfl fun a E => ?_
  refine dp E rfl (fun w => (o_mv (E.ev rfl))) rfl rfl rfl fun a E => ?_
  refine dp E rfl (fun w => (o_nc (E.ev rfl))) rfl rfl rfl fun a E => ?_
  refine dp E rfl (fun w => (o_fa Tryz.underlying68 rfl Tryz.sizeOf49 (E.ev rfl))) rfl rfl rfl fun a E => ?_
  refine dp E rfl (fun w => (o_fa Tryz.underlying49 rfl Tryz.sizeOf3 (E.ev rfl))) rfl rfl rfl fun a E => ?_
  refine dr E rfl (fun s' t => (o_ld Tryz.isAgg3 (E.ev rfl) (((o2.trN t).cell _).trans rfl))) rfl rfl rfl (by kernel_rfl) fun a E => ?_
  refine dp E rfl (fun w => (o_bi (E.ev rfl) (E.ev rfl) rfl)) rfl rfl rfl fun a E => ?_
  refine dp E rfl (fun w => (o_mv (E.ev rfl))) rfl rfl rfl fun a E => ?_
  refine dp E rfl (fun w => (o_bd (cells := #[.int .i64 (IntKind.wrap .i64 (X1.at_.Number + 1)), .int .i64 (IntKind.wrap .i64 (X1.at_.Epoch + 1)), .int .i64 0, .int .i64 x1]) (places := #[(0, 1), (1, 1), (2, 1), (3, 1)]) Tryz.zeroValue49 Tryz.underlying49 (fun w => by simp [Sem.run_bind, Result.andThen, Tryz.sizeOf3]) (qs := #[(0, .int .i64 (IntKind.wrap .i64 (X1.at_.Number + 1))), (1, .int .i64 (IntKind.wrap .i64 (X1.at_.Epoch + 1))), (3, .int .i64 x1)]) (by simp only [List.map_toArray, List.map_cons, List.map_nil, E.ev (x := .tmp 11) (v := .int .i64 (IntKind.wrap .i64 (X1.at_.Number + 1))) rfl, E.ev (x := .tmp 17) (v := .int .i64 (IntKind.wrap .i64 (X1.at_.Epoch + 1))) rfl, E.ev (x := .tmp 18) (v := .int .i64 x1) rfl]) (by kernel_rfl))) rfl rfl rfl fun a E => ?_
  refine da E rfl rfl Tryz.zeroValue49 rfl rfl rfl (by kernel_rfl) ?_
  rintro a _ s3 ⟨b3, rfl, o3⟩ t3 E
  refine dlN E rfl (o_st (o := 0) (cs' := #[.int .i64 (IntKind.wrap .i64 (X1.at_.Number + 1)), .int .i64 (IntKind.wrap .i64 (X1.at_.Epoch + 1)), .int .i64 0, .int .i64 x1]) (v := .agg #[.int .i64 (IntKind.wrap .i64 (X1.at_.Number + 1)), .int .i64 (IntKind.wrap .i64 (X1.at_.Epoch + 1)), .int .i64 0, .int .i64 x1]) Tryz.sizeOf49 o3 (E.ev rfl) (E.ev rfl) (Nat.le_of_ble_eq_true rfl) (one_cells rfl) rfl) rfl rfl (by kernel_rfl) ?_
  rintro _ s4 ⟨o4, t4⟩
  refine gd_nil ?_
  refine tgn ?_
  refine G_seq ?_
  refine G_seq ?_
  refine G_region ?_
  refine sd E (o_mv (E.ev rfl)) rfl rfl rfl fun a E => ?_
  refine sd E (o_nc (E.ev rfl)) rfl rfl rfl fun a E => ?_
  refine sd E (o_fa Tryz.underlying68 rfl Tryz.sizeOf49 (E.ev rfl)) rfl rfl rfl fun a E => ?_
  refine sd E (o_fa Tryz.underlying49 rfl Tryz.sizeOf3 (E.ev rfl)) rfl rfl rfl fun a E => ?_
  have f2 := (o2.trN t3).tr t4 (nt_fst (rb lt1))
  refine sd E (o_ld Tryz.isAgg3 (E.ev rfl) ((f2.cell _).trans rfl)) rfl rfl rfl fun a E => ?_
  refine sd E (o_bi (E.ev rfl) (E.ev rfl) rfl) rfl rfl rfl fun a E => ?_
  refine GL_nil ?_
  refine tgn ?_
  have f3 := (h1.tr t3).tr t4
  have h2 : Vault0At k1 d1d u1 s4 b1 X1 := ⟨_, f2, f3⟩
  obtain ⟨r1, hl1, hm⟩ := ob_some hm
  refine G_mid1 (fun a' w' => ∃ x3 x4 x5 x6 s', m_57_1k (x3, x4, x5, x6) = some r0y ∧ w' = s'.w ∧ Tr (Fz κ []) s4 s' ∧ Own ((κ + 1), 14) s' b3 #[.int .i64 x3, .int .i64 x4, .int .i64 x5, .int .i64 x6] 49 ∧ Own ((κ + 0), 1001) s' b2 #[.int .i64 0, .int .i64 0, .int .i64 0, .int .i64 0] 49 ∧ En [] 34 a' [(4, .pointer (some ⟨b2, 0, none⟩)), (5, .pointer (some ⟨b3, 0, none⟩))]) ?_ ?_
  · refine G_cond (E.ev rfl) (fun ht => ?_) (fun ht => ?_)
    · have hl1 := cT ht hl1
      refine G_region ?_
      refine sd E (o_mv (E.ev rfl)) rfl rfl rfl fun a E => ?_
      refine sd E (o_nc (E.ev rfl)) rfl rfl rfl fun a E => ?_
      obtain ⟨w2, o5, h3⟩ := h2
      refine sd E (o_fa Tryz.underlying68 rfl Tryz.sizeOf49 (E.ev rfl)) rfl rfl rfl fun a E => ?_
      refine sd E (o_fa Tryz.underlying49 rfl Tryz.sizeOf3 (E.ev rfl)) rfl rfl rfl fun a E => ?_
      refine sd E (o_ld Tryz.isAgg3 (E.ev rfl) ((o5.cell _).trans rfl)) rfl rfl rfl fun a E => ?_
      refine sd E (o_bi (E.ev rfl) (E.ev rfl) rfl) rfl rfl rfl fun a E => ?_
      refine sd E (o_fa Tryz.underlying49 rfl Tryz.sizeOf3 (E.ev rfl)) rfl rfl rfl fun a E => ?_
      refine shN E (o_st (o := 2) (cs' := #[.int .i64 (IntKind.wrap .i64 (X1.at_.Number + 1)), .int .i64 (IntKind.wrap .i64 (X1.at_.Epoch + 1)), .int .i64 (IntKind.wrap .i64 (1 - X1.at_.Area)), .int .i64 x1]) (v := .int .i64 (IntKind.wrap .i64 (1 - X1.at_.Area))) Tryz.sizeOf3 o4 (E.ev rfl) (E.ev rfl) (Nat.le_of_ble_eq_true rfl) (one_cells rfl) rfl) rfl rfl ?_
      rintro _ s5 ⟨o6, t5⟩
      refine GL_nil ?_
      refine ctn ?_
      have f4 := h3.tr t5
      have f5 := o5.tr t5 (nt_fst (rb lt1))
      have h4 : Vault0At k1 d1d u1 s5 b1 X1 := ⟨_, f5, f4⟩
      cases hl1
      have f6 := (((o1.trN t2).trN t3).tr t4 (nt_fst (ra rfl))).tr t5 (nt_fst (ra rfl))
      have T1 : Tr (Fz κ []) s4 s5 := (Tr.ft Fz.f t5)
      exact ⟨_, _, _, _, _, hm, rfl, T1, o6, f6, ((E.nil.ad E rfl rfl).ad E rfl rfl)⟩
    · have hl1 := cF ht hl1
      refine G_skip ?_
      refine ctn ?_
      cases hl1
      have f7 := ((o1.trN t2).trN t3).tr t4 (nt_fst (ra rfl))
      exact ⟨_, _, _, _, _, hm, rfl, (Tr.refl _ _), o4, f7, ((E.nil.ad E rfl rfl).ad E rfl rfl)⟩
  · rintro a _ ⟨x7, x8, x9, x10, s6, hm, rfl, t6, o7, o8, E⟩
    dsimp only [m_57_1k] at hm
    refine tgn ?_
    refine G_seq ?_
    refine G_region ?_
    refine sd E (o_ldc (cs := #[.int .i64 x7, .int .i64 x8, .int .i64 x9, .int .i64 x10]) Tryz.isAgg49 Tryz.sizeOf49 (E.ev rfl) o7.cell) rfl rfl rfl fun a E => ?_
    refine shN E (o_st (o := 0) (cs' := #[.int .i64 x7, .int .i64 x8, .int .i64 x9, .int .i64 x10]) (v := .agg #[.int .i64 x7, .int .i64 x8, .int .i64 x9, .int .i64 x10]) Tryz.sizeOf49 o8 (E.ev rfl) (E.ev rfl) (Nat.le_of_ble_eq_true rfl) (one_cells rfl) rfl) rfl rfl ?_
    rintro _ s7 ⟨o9, t7⟩
    refine GL_nil ?_
    refine tgn ?_
    refine G_ret ?_
    cases hm
    have T2 : Tr (Fz κ []) s s7 := (((((t1.no.trans t2.no).trans t3.no).trans (Tr.ft Fz.f t4)).trans t6).trans (Tr.ft Fz.f t7))
    exact fin1 E rfl (rv_cell (cs := #[.int .i64 x7, .int .i64 x8, .int .i64 x9, .int .i64 x10]) rfl Tryz.isAgg49 Tryz.sizeOf49 o9.cell) ⟨(Tr.fin0 hκ T2), rfl⟩

-- (*gimmal/vault.Vault).load
noncomputable def m_53_1b (X1 : Vault0) (X2 : Disk) : (Int × (List Int) × Int) → Option (Lo (Int × (List Int) × Int) (Sum (Int × (List Int) × Int) (Int × Vault0))) := fun (x5, x6, x7) => bif decide (x7 < X1.area) then (ob (m_58 X1 X1.at_.Area) fun y1 => ob (m_14 X2 (IntKind.wrap .i64 (y1 + x7))) fun (y2, y3) => bif y3 != 0 then (some (.inr (.inr (y3, X1)))) else (ob (ap x6 y2) fun x8 => some (.inl (x5, x8, IntKind.wrap .i64 (x7 + 1))))) else (some (.inr (.inl (x5, x6, x7))))
noncomputable def m_53_1k (X1 : Vault0) : Sum (Int × (List Int) × Int) (Int × Vault0) → Option (Int × Vault0)
  | .inl (x9, x10, x11) => ob (sl x10 0 X1.at_.Words) fun x12 => ob (m_34 X1.at_.Epoch x12) fun (y4, y5) => bif y5 != X1.at_.Words then (some (2, X1)) else (some (0, (⟨X1.area, (⟨X1.at_.Number, X1.at_.Epoch, X1.at_.Area, X1.at_.Words⟩ : Anchor), y4⟩ : Vault0)))
  | .inr y => some y
noncomputable def m_53 (X1 : Vault0) (X2 : Disk) : Option (Int × Vault0) :=
  bif decide (X1.at_.Words > (IntKind.wrap .i64 (X1.area * 8))) then (some (2, X1)) else (ob (loopO (m_53_1b X1 X2) (0, [], 0)) (m_53_1k X1))
theorem ok_53 (s : St) {k1 b1 : Nat} {X1 : Vault0} {k2 b2 : Nat} {X2 : Disk} {u1 : Option Addr} (ho1 : Vault0At k1 b2 u1 s b1 X1) (ho2 : DiskAt k2 s b2 X2) (ne01 : k1 ≠ k2) {r0y : Int} {Y1 : Vault0} (hm : m_53 X1 X2 = some (r0y, Y1)) :
    Ok Tryz.prog 25 ([.pointer (some ⟨b1, 0, none⟩)] : List Value).toArray s fun v s' => Tr (Ws [k1]) s s' ∧ v = .int .i64 r0y ∧ Vault0At k1 b2 u1 s' b1 Y1 := by
  unfold m_53 at hm
  obtain ⟨κ, hκ⟩ := s.fresh
  have lt1 : k1 < κ := hκ _ _ ho1.tag
  have lt2 : k2 < κ := hκ _ _ ho2.tag
  refine ok_of (n := 78) _ Tryz.func25 rfl _ rfl rfl fun a E => ?_
  refine G_seq ?_
  refine G_region ?_
  refine sd E (o_as (E.ev rfl)) rfl rfl rfl fun a E => ?_
  refine GL_nil ?_
  refine tgn ?_
  refine G_seq ?_
  refine G_seq ?_
  refine G_drw (κ + 1) (by rfl) [0, 1, 2, 3, 4, 5, 6, 7, 8, 9, 10] (by kernel_rfl) ?_
  intro s1 t1
  refine dp E rfl (fun w => (o_mv (E.ev rfl))) rfl rfl rfl fun a E => ?_
  refine dp E rfl (fun w => (o_nc (E.ev rfl))) rfl rfl rfl fun a E => ?_
  have f1 := ho1.trN t1
  obtain ⟨w1, o1, h1⟩ := f1
  refine dp E rfl (fun w => (o_fa Tryz.underlying68 rfl Tryz.sizeOf49 (E.ev rfl))) rfl rfl rfl fun a E => ?_
  refine dp E rfl (fun w => (o_fa Tryz.underlying49 rfl Tryz.sizeOf3 (E.ev rfl))) rfl rfl rfl fun a E => ?_
  refine dr E rfl (fun s' t => (o_ld Tryz.isAgg3 (E.ev rfl) (((o1.trN t).cell _).trans rfl))) rfl rfl rfl (by kernel_rfl) fun a E => ?_
  refine dp E rfl (fun w => (o_mv (E.ev rfl))) rfl rfl rfl fun a E => ?_
  refine dp E rfl (fun w => (o_nc (E.ev rfl))) rfl rfl rfl fun a E => ?_
  refine dp E rfl (fun w => (o_fa Tryz.underlying68 rfl Tryz.sizeOf3 (E.ev rfl))) rfl rfl rfl fun a E => ?_
  refine dr E rfl (fun s' t => (o_ld Tryz.isAgg3 (E.ev rfl) (((o1.trN t).cell _).trans rfl))) rfl rfl rfl (by kernel_rfl) fun a E => ?_
  refine dp E rfl (fun w => (o_bi (E.ev rfl) (E.ev rfl) rfl)) rfl rfl rfl fun a E => ?_
  refine dp E rfl (fun w => (o_bi (E.ev rfl) (E.ev rfl) rfl)) rfl rfl rfl fun a E => ?_
  refine gd_nil ?_
  refine tgn ?_
  refine G_cond (E.ev rfl) (fun ht => ?_) (fun ht => ?_)
  · have hm := cT ht hm
    refine G_seq ?_
    refine G_region ?_
    refine sd E (o_as (E.ev rfl)) rfl rfl rfl fun a E => ?_
    refine GL_nil ?_
    refine tgn ?_
    refine G_ret ?_
    refine tgr ?_
    cases hm
    have h2 : Vault0At k1 b2 u1 s1 b1 X1 := ⟨_, o1, h1⟩
    have T1 : Tr (Fz κ [k1]) s s1 := t1.no
    exact fin1 E rfl rfl ⟨(Tr.fin hκ T1), rfl, h2⟩
  · have hm := cF ht hm
    refine G_skip ?_
    refine tgn ?_
    refine G_seq ?_
    refine G_region ?_
    refine sd E (o_as (E.ev rfl)) rfl rfl rfl fun a E => ?_
    refine GL_nil ?_
    refine tgn ?_
    refine G_seq ?_
    refine G_seq ?_
    refine G_region ?_
    refine sd E (o_mv (E.ev rfl)) rfl rfl rfl fun a E => ?_
    refine sd E (o_nc (E.ev rfl)) rfl rfl rfl fun a E => ?_
    refine sd E (o_fa Tryz.underlying68 rfl Tryz.sizeOf3 (E.ev rfl)) rfl rfl rfl fun a E => ?_
    refine sd E (o_ld Tryz.isAgg3 (E.ev rfl) ((o1.cell _).trans rfl)) rfl rfl rfl fun a E => ?_
    refine sd E (o_mv (E.ev rfl)) rfl rfl rfl fun a E => ?_
    refine GL_nil ?_
    refine tgn ?_
    have h3 : Vault0At k1 b2 u1 s1 b1 X1 := ⟨_, o1, h1⟩
    obtain ⟨r1, hl1, hm⟩ := ob_some hm
    refine G_mid1 (fun a' w' => ∃ x2 x3 x4 s' w2, m_53_1k X1 (.inl (x2, x3, x4)) = some (r0y, Y1) ∧ w' = s'.w ∧ Tr (Fz κ [k1]) s1 s' ∧ Bd ((κ + 0), 1001) kU 39 0 s' w2 x3 ∧ Vault0At k1 b2 u1 s' b1 X1 ∧ En [] 78 a' [(2, .int .i64 x2), (3, w2), (24, .int .i64 x4), (0, .pointer (some ⟨b1, 0, none⟩)), (23, .int .i64 X1.area)]) ?_ ?_
    · refine G_block ?_
      refine G_lp hl1 (fun st a' w' => ∃ x2 x3 x4 s' w2, st = (x2, x3, x4) ∧ w' = s'.w ∧ Tr (Fz κ [k1]) s1 s' ∧ Bd ((κ + 0), 1001) kU 39 0 s' w2 x3 ∧ Vault0At k1 b2 u1 s' b1 X1 ∧ En [] 78 a' [(2, .int .i64 x2), (3, w2), (24, .int .i64 x4), (0, .pointer (some ⟨b1, 0, none⟩)), (23, .int .i64 X1.area)]) ⟨_, _, _, _, _, rfl, rfl, (Tr.refl _ _), Bd.nil, h3, (((((E.nil.ad E rfl rfl).ad E rfl rfl).ad E rfl rfl).ad E rfl rfl).ad E rfl rfl)⟩ ?_
      rintro _ a _ x ⟨x5, x6, x7, s2, w3, rfl, rfl, t2, h4, h5, E⟩ hf1
      dsimp only [m_53_1b] at hf1
      refine G_seq ?_
      refine G_region ?_
      refine sd E (o_bi (E.ev rfl) (E.ev rfl) rfl) rfl rfl rfl fun a E => ?_
      refine GL_nil ?_
      refine tgn ?_
      refine G_seq ?_
      refine G_cond (E.ev rfl) (fun ht => ?_) (fun ht => ?_)
      · have hf1 := cT ht hf1
        refine G_skip ?_
        refine tgn ?_
        refine G_seq ?_
        refine G_block ?_
        refine G_seq ?_
        refine G_region ?_
        refine sd E (o_mv (E.ev rfl)) rfl rfl rfl fun a E => ?_
        refine sd E (o_as (E.ev rfl)) rfl rfl rfl fun a E => ?_
        refine GL_nil ?_
        refine tgn ?_
        refine G_seq ?_
        refine G_drw (κ + 2) (by rfl) [0, 1, 2, 3, 4, 5, 6, 7, 8, 9, 11, 10, 12, 13, 14, 15, 16, 17, 18, 19] (by kernel_rfl) ?_
        intro s3 t3
        refine dp E rfl (fun w => (o_mv (E.ev rfl))) rfl rfl rfl fun a E => ?_
        refine dp E rfl (fun w => (o_nc (E.ev rfl))) rfl rfl rfl fun a E => ?_
        have f2 := h5.trN t3
        obtain ⟨w4, o2, h6⟩ := f2
        refine dp E rfl (fun w => (o_fa Tryz.underlying68 rfl Tryz.sizeOf25 (E.ev rfl))) rfl rfl rfl fun a E => ?_
        refine dr E rfl (fun s' t => (o_ld Tryz.isAgg25 (E.ev rfl) (((o2.trN t).cell _).trans rfl))) rfl rfl rfl (by kernel_rfl) fun a E => ?_
        refine dp E rfl (fun w => (o_mv (E.ev rfl))) rfl rfl rfl fun a E => ?_
        refine dp E rfl (fun w => (o_mv (E.ev rfl))) rfl rfl rfl fun a E => ?_
        refine dp E rfl (fun w => (o_nc (E.ev rfl))) rfl rfl rfl fun a E => ?_
        refine dp E rfl (fun w => (o_fa Tryz.underlying68 rfl Tryz.sizeOf49 (E.ev rfl))) rfl rfl rfl fun a E => ?_
        refine dp E rfl (fun w => (o_fa Tryz.underlying49 rfl Tryz.sizeOf3 (E.ev rfl))) rfl rfl rfl fun a E => ?_
        refine dr E rfl (fun s' t => (o_ld Tryz.isAgg3 (E.ev rfl) (((o2.trN t).cell _).trans rfl))) rfl rfl rfl (by kernel_rfl) fun a E => ?_
        refine dp E rfl (fun w => (o_mv (E.ev rfl))) rfl rfl rfl fun a E => ?_
        have h7 : Vault0At k1 b2 u1 s3 b1 X1 := ⟨_, o2, h6⟩
        obtain ⟨y1, hx1, hf1⟩ := ob_some hf1
        refine df E rfl (fun s' t => hv_swapq (o_ok Tryz.call34 (E.evs rfl) (E.ev rfl) (ok_58 _ (x1 := X1.at_.Area) (h7.trN t) hx1))) rfl rfl rfl (by kernel_rfl) ?_
        rintro a _ s4 rfl t4 E
        refine dp E rfl (fun w => (o_bi (E.ev rfl) (E.ev rfl) rfl)) rfl rfl rfl fun a E => ?_
        have f3 := (((ho2.trN t1).tr t2 (fun i => (nZ1 lt2 ne01.symm))).trN t3).trN t4
        obtain ⟨⟨y2, y3⟩, hx2, hf1⟩ := ob_some hf1
        refine df E rfl (fun s' t => hv_swapq (o_ok Tryz.call50 (E.evs rfl) (E.ev rfl) (oq_14 _ (x1 := IntKind.wrap .i64 (y1 + x7)) (f3.trN t) hx2))) rfl rfl rfl (by kernel_rfl) ?_
        rintro a _ s5 ⟨rfl, len_y2⟩ t5 E
        refine dp E rfl (fun w => (o_mv (E.ev rfl))) rfl rfl rfl fun a E => ?_
        refine dp E rfl (fun w => (o_ext (v := eA .u64 y2) (E.ev rfl) rfl)) rfl rfl rfl fun a E => ?_
        refine dp E rfl (fun w => (o_ext (v := .int .i64 y3) (E.ev rfl) rfl)) rfl rfl rfl fun a E => ?_
        refine da E rfl rfl Tryz.zeroValue40 rfl rfl rfl (by kernel_rfl) ?_
        rintro a _ s6 ⟨b3, rfl, o3⟩ t6 E
        rw [show (_ : Value).cells = cA .u64 (List.replicate 8 0) from (by kernel_rfl)] at o3
        refine dlN E rfl (o_stA Tryz.sizeOf40 o3 (E.ev rfl) (E.ev rfl) (List.length_replicate ..) len_y2) rfl rfl (by kernel_rfl) ?_
        rintro _ s7 ⟨o4, t7⟩
        refine dp E rfl (fun w => (o_as (E.ev rfl))) rfl rfl rfl fun a E => ?_
        refine gd_nil ?_
        refine tgn ?_
        refine G_seq ?_
        refine G_seq ?_
        refine G_region ?_
        refine sd E (o_mv (E.ev rfl)) rfl rfl rfl fun a E => ?_
        refine sd E (o_bi (E.ev rfl) (E.ev rfl) rfl) rfl rfl rfl fun a E => ?_
        refine GL_nil ?_
        refine tgn ?_
        refine G_cond (E.ev rfl) (fun ht => ?_) (fun ht => ?_)
        · have hf1 := cT ht hf1
          refine G_seq ?_
          refine G_region ?_
          refine sd E (o_mv (E.ev rfl)) rfl rfl rfl fun a E => ?_
          refine sd E (o_as (E.ev rfl)) rfl rfl rfl fun a E => ?_
          refine GL_nil ?_
          refine tgn ?_
          refine G_ret ?_
          refine tgr ?_
          refine ebr ?_
          refine tgr ?_
          obtain rfl := Option.some.inj hf1
          refine lpr fun hr => ?_
          subst hr
          dsimp only [m_53_1k] at hm
          refine ebr ?_
          refine ctr ?_
          refine tgr ?_
          cases hm
          have f4 := (((h7.trN t4).trN t5).trN t6).tr t7 (fun i => (nt_fst (rb lt1)))
          have T2 : Tr (Fz κ [k1]) s s7 := ((((((t1.no.trans t2).trans t3.no).trans t4.no).trans t5.no).trans t6.no).trans (Tr.ft Fz.f t7))
          exact fin1 E rfl rfl ⟨(Tr.fin hκ T2), rfl, f4⟩
        · have hf1 := cF ht hf1
          refine G_skip ?_
          refine tgn ?_
          refine G_region ?_
          refine sd E (o_mv (E.ev rfl)) rfl rfl rfl fun a E => ?_
          refine sd E (o_slS' Tryz.underlying40 Tryz.sizeOf39 (E.ev rfl)) rfl rfl rfl fun a E => ?_
          obtain ⟨x8, hx3, hf1⟩ := ob_some hf1
          obtain ⟨hx3, hz1⟩ := ap_some hx3
          have f5 := ((((h4.trN t3).trN t4).trN t5).trN t6).tr t7 (nt_fst (ra rfl))
          refine sh E (o_app Tryz.underlying36 Tryz.type39 rfl rfl rfl rfl rfl rfl f5 (o4.rdA len_y2) (E.ev rfl) (E.ev rfl) hx3 (Nat.zero_le _)) rfl rfl rfl ?_
          rintro a w5 s8 ⟨h8, t8⟩ E
          rw [hz1] at h8
          refine sd E (o_as (E.ev rfl)) rfl rfl rfl fun a E => ?_
          refine GL_nil ?_
          refine ebn ?_
          refine tgn ?_
          refine G_region ?_
          refine sd E (o_bi (E.ev rfl) (E.ev rfl) rfl) rfl rfl rfl fun a E => ?_
          refine sd E (o_mv (E.ev rfl)) rfl rfl rfl fun a E => ?_
          refine GL_nil ?_
          obtain rfl := Option.some.inj hf1
          have f6 := ((((h7.trN t4).trN t5).trN t6).tr t7 (fun i => (nt_fst (rb lt1)))).tr t8 (fun i => (nt_fst (rb lt1)))
          have T3 : Tr (Fz κ [k1]) s1 s8 := ((((((t2.trans t3.no).trans t4.no).trans t5.no).trans t6.no).trans (Tr.ft Fz.f t7)).trans (Tr.ft Fz.f t8))
          exact lpn ⟨_, _, _, _, _, rfl, rfl, T3, h8, f6, (((((E.nil.ad E rfl rfl).ad E rfl rfl).ad E rfl rfl).ad E rfl rfl).ad E rfl rfl)⟩
      · have hf1 := cF ht hf1
        refine G_exit ?_
        refine tge ?_
        obtain rfl := Option.some.inj hf1
        refine lpe fun hr => ?_
        subst hr
        refine ebk ?_
        refine ctn ?_
        exact ⟨_, _, _, _, _, hm, rfl, t2, h4, h5, (((((E.nil.ad E rfl rfl).ad E rfl rfl).ad E rfl rfl).ad E rfl rfl).ad E rfl rfl)⟩
    · rintro a _ ⟨x9, x10, x11, s9, w6, hm, rfl, t9, h9, h10, E⟩
      dsimp only [m_53_1k] at hm
      refine tgn ?_
      refine G_seq ?_
      obtain ⟨s10, e1, h11, t10⟩ := h9.fz
      rw [e1]
      refine G_drw (κ + 3) (by rfl) [0, 1, 2, 3, 4, 5, 6, 7, 8, 9, 10, 11, 12, 13, 14, 15, 16, 17] (by kernel_rfl) ?_
      intro s11 t11
      refine dp E rfl (fun w => (o_mv (E.ev rfl))) rfl rfl rfl fun a E => ?_
      refine dp E rfl (fun w => (o_nc (E.ev rfl))) rfl rfl rfl fun a E => ?_
      have f7 := (h10.tr t10 (fun i => (nt_fst (rb lt1)))).trN t11
      obtain ⟨w7, o5, h12⟩ := f7
      refine dp E rfl (fun w => (o_fa Tryz.underlying68 rfl Tryz.sizeOf49 (E.ev rfl))) rfl rfl rfl fun a E => ?_
      refine dp E rfl (fun w => (o_fa Tryz.underlying49 rfl Tryz.sizeOf3 (E.ev rfl))) rfl rfl rfl fun a E => ?_
      refine dr E rfl (fun s' t => (o_ld Tryz.isAgg3 (E.ev rfl) (((o5.trN t).cell _).trans rfl))) rfl rfl rfl (by kernel_rfl) fun a E => ?_
      refine dp E rfl (fun w => (o_mv (E.ev rfl))) rfl rfl rfl fun a E => ?_
      refine dp E rfl (fun w => (o_mv (E.ev rfl))) rfl rfl rfl fun a E => ?_
      refine dp E rfl (fun w => (o_nc (E.ev rfl))) rfl rfl rfl fun a E => ?_
      refine dp E rfl (fun w => (o_fa Tryz.underlying68 rfl Tryz.sizeOf49 (E.ev rfl))) rfl rfl rfl fun a E => ?_
      refine dp E rfl (fun w => (o_fa Tryz.underlying49 rfl Tryz.sizeOf3 (E.ev rfl))) rfl rfl rfl fun a E => ?_
      refine dr E rfl (fun s' t => (o_ld Tryz.isAgg3 (E.ev rfl) (((o5.trN t).cell _).trans rfl))) rfl rfl rfl (by kernel_rfl) fun a E => ?_
      obtain ⟨x12, hx4, hm⟩ := ob_some hm
      have f8 := h11.tr t11
      obtain ⟨w8, g1, h13⟩ := f8.sl hx4
      refine dp E rfl (fun w => (o_slH Tryz.underlying36 Tryz.sizeOf39 g1 (E.ev rfl) (E.ev rfl))) rfl rfl rfl fun a E => ?_
      obtain ⟨⟨y4, y5⟩, hx5, hm⟩ := ob_some hm
      refine dh E rfl (o_ok Tryz.call55 (E.evs rfl) (E.ev rfl) (bd_frozen (fun w => .tuple #[w, .int .i64 y5]) fun tr => ok_34 _ tr (x0 := X1.at_.Epoch) (x1 := x12) h13 hx5)) (fun _ _ h => h.1) rfl rfl rfl (by kernel_rfl) ?_
      rintro a _ s12 ⟨t12, w9, rfl, h14⟩ E
      refine dp E rfl (fun w => (o_mv (E.ev rfl))) rfl rfl rfl fun a E => ?_
      refine dp E rfl (fun w => (o_ext (v := w9) (E.ev rfl) rfl)) rfl rfl rfl fun a E => ?_
      refine dp E rfl (fun w => (o_ext (v := .int .i64 y5) (E.ev rfl) rfl)) rfl rfl rfl fun a E => ?_
      refine dp E rfl (fun w => (o_as (E.ev rfl))) rfl rfl rfl fun a E => ?_
      refine dp E rfl (fun w => (o_as (E.ev rfl))) rfl rfl rfl fun a E => ?_
      refine gd_nil ?_
      refine tgn ?_
      refine G_seq ?_
      refine G_seq ?_
      refine G_region ?_
      refine sd E (o_mv (E.ev rfl)) rfl rfl rfl fun a E => ?_
      refine sd E (o_mv (E.ev rfl)) rfl rfl rfl fun a E => ?_
      refine sd E (o_nc (E.ev rfl)) rfl rfl rfl fun a E => ?_
      refine sd E (o_fa Tryz.underlying68 rfl Tryz.sizeOf49 (E.ev rfl)) rfl rfl rfl fun a E => ?_
      refine sd E (o_fa Tryz.underlying49 rfl Tryz.sizeOf3 (E.ev rfl)) rfl rfl rfl fun a E => ?_
      have f9 := o5.trN t12
      refine sd E (o_ld Tryz.isAgg3 (E.ev rfl) ((f9.cell _).trans rfl)) rfl rfl rfl fun a E => ?_
      refine sd E (o_bi (E.ev rfl) (E.ev rfl) rfl) rfl rfl rfl fun a E => ?_
      refine GL_nil ?_
      refine tgn ?_
      refine G_cond (E.ev rfl) (fun ht => ?_) (fun ht => ?_)
      · have hm := cT ht hm
        refine G_seq ?_
        refine G_region ?_
        refine sd E (o_as (E.ev rfl)) rfl rfl rfl fun a E => ?_
        refine GL_nil ?_
        refine tgn ?_
        refine G_ret ?_
        refine tgr ?_
        cases hm
        have f10 := h12.tr t12
        have h15 : Vault0At k1 b2 u1 s12 b1 X1 := ⟨_, f9, f10⟩
        have T4 : Tr (Fz κ [k1]) s s12 := ((((t1.no.trans t9).trans (Tr.ft Fz.f t10)).trans t11.no).trans t12.no)
        exact fin1 E rfl rfl ⟨(Tr.fin hκ T4), rfl, h15⟩
      · have hm := cF ht hm
        refine G_skip ?_
        refine tgn ?_
        refine G_seq ?_
        refine G_region ?_
        refine sd E (o_mv (E.ev rfl)) rfl rfl rfl fun a E => ?_
        refine sd E (o_mv (E.ev rfl)) rfl rfl rfl fun a E => ?_
        refine sd E (o_nc (E.ev rfl)) rfl rfl rfl fun a E => ?_
        refine sd E (o_fa Tryz.underlying68 rfl Tryz.sizeOf43 (E.ev rfl)) rfl rfl rfl fun a E => ?_
        obtain ⟨a1, c1, rfl⟩ := h14.isS
        refine shN E (o_st (o := 6) (cs' := #[.pointer (some ⟨b2, 0, none⟩), .int .i64 X1.area, .int .i64 X1.at_.Number, .int .i64 X1.at_.Epoch, .int .i64 X1.at_.Area, .int .i64 X1.at_.Words, (.slice a1 y4.length c1), .pointer u1]) (v := (.slice a1 y4.length c1)) Tryz.sizeOf43 f9 (E.ev rfl) (E.ev rfl) (Nat.le_of_ble_eq_true rfl) (one_cells rfl) rfl) rfl rfl ?_
        rintro _ s13 ⟨o6, t13⟩
        refine GL_nil ?_
        refine tgn ?_
        refine G_seq ?_
        refine G_region ?_
        refine sd E (o_as (E.ev rfl)) rfl rfl rfl fun a E => ?_
        refine GL_nil ?_
        refine tgn ?_
        refine G_ret ?_
        cases hm
        have f11 := h14.tr t13
        have h16 : Vault0At k1 b2 u1 s13 b1 (⟨X1.area, (⟨X1.at_.Number, X1.at_.Epoch, X1.at_.Area, X1.at_.Words⟩ : Anchor), y4⟩ : Vault0) := ⟨_, o6, f11⟩
        have T5 : Tr (Fz κ [k1]) s s13 := (((((t1.no.trans t9).trans (Tr.ft Fz.f t10)).trans t11.no).trans t12.no).trans (Tr.ft Fz.w0 t13))
        exact fin1 E rfl rfl ⟨(Tr.fin hκ T5), rfl, h16⟩

-- (*gimmal/vault.Vault).Frames
noncomputable def m_25_1b (x2 : List Frame) : ((List Frame) × Int) → Option (Lo ((List Frame) × Int) ((List Frame) × Int)) := fun (x5, x6) => bif decide (x6 < (x2.length : Int)) then (ob (gt x2 x6) fun x7 => ob (m_39 x7.Words) fun y3 => ob (ap x5 [(⟨x7.Kind, y3⟩ : Frame)]) fun x8 => some (.inl (x8, IntKind.wrap .i64 (x6 + 1)))) else (some (.inr (x5, x6)))
noncomputable def m_25_1k : ((List Frame) × Int) → Option (List Frame) := fun (x9, x10) => some x9
noncomputable def m_25 (X1 : VaultM) : Option (List Frame) :=
  ob (m_55 X1.stored) fun y1 => ob (m_12 X1.log) fun y2 => ob (ap y1 y2) fun x2 => ob (loopO (m_25_1b x2) ([], 0)) (m_25_1k)
theorem ok_25 (s : St) (tr0 : Tg) {k1 k1a b1 : Nat} {X1 : VaultM} {d1d : Nat} (ho1 : VaultAt k1 k1a d1d s b1 X1) (ne01 : k1 ≠ k1a) {r0y : List Frame} (hm : m_25 X1 = some r0y) :
    Ok Tryz.prog 19 ([.pointer (some ⟨b1, 0, none⟩)] : List Value).toArray s fun v s' => Tr No s s' ∧ ∃ w1, v = w1 ∧ Bd tr0 kFr 38 0 s' w1 r0y := by
  unfold m_25 at hm
  obtain ⟨κ, hκ⟩ := s.fresh
  have lt1 : k1 < κ := hκ _ _ ho1.tag
  have lt2 : k1a < κ := ho1.lt1 hκ
  refine ok_of (n := 35) _ Tryz.func19 rfl _ rfl rfl fun a E => ?_
  refine G_seq ?_
  refine G_region ?_
  refine sd E (o_as (E.ev rfl)) rfl rfl rfl fun a E => ?_
  refine GL_nil ?_
  refine tgn ?_
  refine G_seq ?_
  refine G_seq ?_
  refine G_region ?_
  refine sd E (o_mv (E.ev rfl)) rfl rfl rfl fun a E => ?_
  refine sd E (o_eqp Tryz.underlying29 (E.ev rfl) (E.ev rfl)) rfl rfl rfl fun a E => ?_
  refine GL_nil ?_
  refine tgn ?_
  refine G_cond (t := false) (E.ev rfl) nofun (fun _ => ?_)
  refine G_skip ?_
  refine tgn ?_
  refine G_seq ?_
  refine G_region ?_
  refine sd E (o_as (E.ev rfl)) rfl rfl rfl fun a E => ?_
  refine GL_nil ?_
  refine tgn ?_
  refine G_seq ?_
  refine G_seq ?_
  refine G_drw (κ + 1) (by rfl) [0, 1, 2, 3, 5, 6, 7, 8, 12, 4, 9, 10, 11] (by kernel_rfl) ?_
  intro s1 t1
  refine dp E rfl (fun w => (o_mv (E.ev rfl))) rfl rfl rfl fun a E => ?_
  refine dp E rfl (fun w => (o_nc (E.ev rfl))) rfl rfl rfl fun a E => ?_
  have f1 := ho1.trN t1
  obtain ⟨w2, b2, o1, h1, h2⟩ := f1
  refine dp E rfl (fun w => (o_fa Tryz.underlying68 rfl Tryz.sizeOf43 (E.ev rfl))) rfl rfl rfl fun a E => ?_
  refine dr E rfl (fun s' t => (o_ld Tryz.isAgg43 (E.ev rfl) (((o1.trN t).cell _).trans rfl))) rfl rfl rfl (by kernel_rfl) fun a E => ?_
  refine dp E rfl (fun w => (o_mv (E.ev rfl))) rfl rfl rfl fun a E => ?_
  refine dp E rfl (fun w => (o_nc (E.ev rfl))) rfl rfl rfl fun a E => ?_
  refine dp E rfl (fun w => (o_fa Tryz.underlying68 rfl Tryz.sizeOf66 (E.ev rfl))) rfl rfl rfl fun a E => ?_
  refine dr E rfl (fun s' t => (o_ld Tryz.isAgg66 (E.ev rfl) (((o1.trN t).cell _).trans rfl))) rfl rfl rfl (by kernel_rfl) fun a E => ?_
  refine dp E rfl (fun w => (o_mv (E.ev rfl))) rfl rfl rfl fun a E => ?_
  obtain ⟨y1, hx1, hm⟩ := ob_some hm
  refine dh E rfl (o_ok Tryz.call46 (E.evs rfl) (E.ev rfl) (oq_55 _ ((κ + 0), 1001) (x0 := X1.stored) h1 hx1)) (fun _ _ h => h.1) rfl rfl rfl (by kernel_rfl) ?_
  rintro a w3 s2 ⟨t2, _, rfl, h3⟩ E
  have f2 := h2.trN t2
  obtain ⟨y2, hx2, hm⟩ := ob_some hm
  refine dh E rfl (o_ok Tryz.call47 (E.evs rfl) (E.ev rfl) (bd_frozen id fun tr => ok_12 _ tr f2 hx2)) (fun _ _ h => h.1) rfl rfl rfl (by kernel_rfl) ?_
  rintro a w4 s3 ⟨t3, _, rfl, h4⟩ E
  obtain ⟨x2, hx3, hm⟩ := ob_some hm
  obtain ⟨hx3, hz1⟩ := ap_some hx3
  have f3 := h3.trN t3
  refine dl E rfl (o_app Tryz.underlying43 Tryz.type38 rfl rfl rfl rfl rfl rfl f3 h4.rd (E.ev rfl) (E.ev rfl) hx3 (Nat.zero_le _)) rfl rfl rfl (by kernel_rfl) ?_
  rintro a w5 s4 ⟨h5, t4⟩ E
  rw [hz1] at h5
  refine dp E rfl (fun w => (o_lenS (xs := x2) Tryz.underlying43 (E.ev rfl) h5.isS)) rfl rfl rfl fun a E => ?_
  refine gd_nil ?_
  refine tgn ?_
  have f4 := ((h1.tr t2).tr t3).tr t4
  have f5 := (f2.trN t3).tr t4 (fun i => (nt_fst (rb lt2)))
  have f6 := ((o1.trN t2).trN t3).tr t4 (nt_fst (rb lt1))
  have h6 : VaultAt k1 k1a d1d s4 b1 X1 := ⟨_, _, f6, f4, f5⟩
  obtain ⟨r1, hl1, hm⟩ := ob_some hm
  refine G_mid1 (fun a' w' => ∃ x3 x4 s' w6, m_25_1k (x3, x4) = some r0y ∧ w' = s'.w ∧ Tr (Fz κ []) s4 s' ∧ Bd ((κ + 0), 1002) kFr 38 0 s' w6 x3 ∧ Bd ((κ + 0), 1001) kFr 38 0 s' w5 x2 ∧ En [] 35 a' [(3, w6), (20, .int .i64 x4), (2, (.slice none 0 0)), (18, w5), (19, .int .i64 (x2.length : Int))]) ?_ ?_
  · refine G_block ?_
    refine G_lp hl1 (fun st a' w' => ∃ x3 x4 s' w6, st = (x3, x4) ∧ w' = s'.w ∧ Tr (Fz κ []) s4 s' ∧ Bd ((κ + 0), 1002) kFr 38 0 s' w6 x3 ∧ Bd ((κ + 0), 1001) kFr 38 0 s' w5 x2 ∧ En [] 35 a' [(3, w6), (20, .int .i64 x4), (2, (.slice none 0 0)), (18, w5), (19, .int .i64 (x2.length : Int))]) ⟨_, _, _, _, rfl, rfl, (Tr.refl _ _), Bd.nil, h5, (((((E.nil.ad E rfl rfl).ad E rfl rfl).ad E rfl rfl).ad E rfl rfl).ad E rfl rfl)⟩ ?_
    rintro _ a _ x ⟨x5, x6, s5, w7, rfl, rfl, t5, h7, h8, E⟩ hf1
    dsimp only [m_25_1b] at hf1
    refine G_seq ?_
    refine G_region ?_
    refine sd E (o_bi (E.ev rfl) (E.ev rfl) rfl) rfl rfl rfl fun a E => ?_
    refine GL_nil ?_
    refine tgn ?_
    refine G_seq ?_
    refine G_cond (E.ev rfl) (fun ht => ?_) (fun ht => ?_)
    · have hf1 := cT ht hf1
      refine G_skip ?_
      refine tgn ?_
      refine G_seq ?_
      refine G_block ?_
      refine G_seq ?_
      refine G_region ?_
      obtain ⟨x7, hx4, hf1⟩ := ob_some hf1
      obtain ⟨b3, p1, g1⟩ := bd_ix h8 hx4
      refine sd E (o_ixg Tryz.underlying43 Tryz.sizeOf38 g1 (E.ev rfl) (E.ev rfl)) rfl rfl rfl fun a E => ?_
      obtain ⟨w8, e1, e2, h10⟩ := bd_fr h8 g1 hx4
      refine sd E (o_ld2 Tryz.isAgg38 Tryz.sizeOf38 (E.ev rfl) e1 e2) rfl rfl rfl fun a E => ?_
      refine sh E (o_al ((κ + 0), 1003) Tryz.zeroValue38) rfl rfl rfl ?_
      rintro a _ s6 ⟨b4, rfl, o2, t6⟩ E
      have f7 := h10.tr t6
      obtain ⟨a1, c1, rfl⟩ := f7.isS
      refine shN E (o_st (o := 0) (cs' := #[.int .i64 x7.Kind, (.slice a1 x7.Words.length c1)]) (v := .agg #[.int .i64 x7.Kind, (.slice a1 x7.Words.length c1)]) Tryz.sizeOf38 o2 (E.ev rfl) (E.ev rfl) (Nat.le_of_ble_eq_true rfl) (one_cells rfl) rfl) rfl rfl ?_
      rintro _ s7 ⟨o3, t7⟩
      refine GL_nil ?_
      refine tgn ?_
      refine G_drw (κ + 2) (by rfl) [0, 1, 2, 3, 4, 5, 6, 7, 8, 9] (by kernel_rfl) ?_
      intro s8 t8
      refine dp E rfl (fun w => (o_mv (E.ev rfl))) rfl rfl rfl fun a E => ?_
      refine dp E rfl (fun w => (o_fa Tryz.underlying38 rfl Tryz.sizeOf3 (E.ev rfl))) rfl rfl rfl fun a E => ?_
      have f8 := o3.trN t8
      refine dr E rfl (fun s' t => (o_ld Tryz.isAgg3 (E.ev rfl) (((f8.trN t).cell _).trans rfl))) rfl rfl rfl (by kernel_rfl) fun a E => ?_
      refine dp E rfl (fun w => (o_fa Tryz.underlying38 rfl Tryz.sizeOf36 (E.ev rfl))) rfl rfl rfl fun a E => ?_
      refine dr E rfl (fun s' t => (o_ld Tryz.isAgg36 (E.ev rfl) (((f8.trN t).cell _).trans rfl))) rfl rfl rfl (by kernel_rfl) fun a E => ?_
      have f9 := (f7.tr t7).tr t8
      obtain ⟨y3, hx5, hf1⟩ := ob_some hf1
      refine df E rfl (fun s' t => hv_swapq (o_ok Tryz.call48 (E.evs rfl) (E.ev rfl) (ok_39 _ (x0 := x7.Words) (f9.tr t) hx5))) rfl rfl rfl (by kernel_rfl) ?_
      rintro a w9 s9 ⟨_, rfl, h11⟩ t9 E
      obtain ⟨a2, c2, rfl⟩ := h11.isS
      refine dp E rfl (fun w => (o_bd (cells := #[.int .i64 x7.Kind, (.slice a2 y3.length c2)]) (places := #[(0, 1), (1, 1)]) Tryz.zeroValue38 Tryz.underlying38 (fun w => by simp [Sem.run_bind, Result.andThen, Tryz.sizeOf3, Tryz.sizeOf36]) (qs := #[(0, .int .i64 x7.Kind), (1, (.slice a2 y3.length c2))]) (by simp only [List.map_toArray, List.map_cons, List.map_nil, E.ev (x := .tmp 26) (v := .int .i64 x7.Kind) rfl, E.ev (x := .tmp 29) (v := (.slice a2 y3.length c2)) rfl]) (by kernel_rfl))) rfl rfl rfl fun a E => ?_
      refine dbs (K := kFr) [(⟨x7.Kind, y3⟩ : Frame)] E rfl Tryz.underlying43 Tryz.sizeOf38 Tryz.zeroValue38 (qs := #[(0, .agg #[.int .i64 x7.Kind, (.slice a2 y3.length c2)])]) (cells := #[.int .i64 x7.Kind, (.slice a2 y3.length c2)]) (by simp only [List.map_toArray, List.map_cons, List.map_nil, E.ev (x := .tmp 30) (v := .agg #[.int .i64 x7.Kind, (.slice a2 y3.length c2)]) rfl]) rfl rfl (by kernel_rfl) (fun s' l => ⟨_, _, rfl, ⟨_, rfl, (h11.up l)⟩, rfl⟩) rfl rfl rfl rfl (by kernel_rfl) ?_
      rintro a s10 b5 h12 t10 E
      obtain ⟨x8, hx6, hf1⟩ := ob_some hf1
      obtain ⟨hx6, hz2⟩ := ap_some hx6
      have f10 := ((((h7.trN t6).tr t7 (nt_snd rfl)).trN t8).trN t9).trN t10
      refine dw E rfl (fun s' t => o_app Tryz.underlying43 Tryz.type38 rfl rfl rfl rfl rfl rfl (f10.trN t) (h12.trN t).rd (E.ev rfl) (E.ev rfl) hx6 (Nat.zero_le _)) (fun n _ => nt_fst (ra rfl)) rfl rfl rfl (by kernel_rfl) ?_
      rintro a w10 s11 h13 t11 E
      rw [hz2] at h13
      refine dp E rfl (fun w => (o_as (E.ev rfl))) rfl rfl rfl fun a E => ?_
      refine gd_nil ?_
      refine ebn ?_
      refine tgn ?_
      refine G_region ?_
      refine sd E (o_bi (E.ev rfl) (E.ev rfl) rfl) rfl rfl rfl fun a E => ?_
      refine sd E (o_mv (E.ev rfl)) rfl rfl rfl fun a E => ?_
      refine GL_nil ?_
      obtain rfl := Option.some.inj hf1
      have f11 := (((((h8.trN t6).tr t7 (nt_snd rfl)).trN t8).trN t9).trN t10).tr t11 (nt_snd rfl)
      have T1 : Tr (Fz κ []) s4 s11 := ((((((t5.trans t6.no).trans (Tr.ft Fz.f t7)).trans t8.no).trans t9.no).trans t10.no).trans (Tr.ft Fz.f t11))
      exact lpn ⟨_, _, _, _, rfl, rfl, T1, h13, f11, (((((E.nil.ad E rfl rfl).ad E rfl rfl).ad E rfl rfl).ad E rfl rfl).ad E rfl rfl)⟩
    · have hf1 := cF ht hf1
      refine G_exit ?_
      refine tge ?_
      obtain rfl := Option.some.inj hf1
      refine lpe fun hr => ?_
      subst hr
      refine ebk ?_
      refine ctn ?_
      exact ⟨_, _, _, _, hm, rfl, t5, h7, h8, (((((E.nil.ad E rfl rfl).ad E rfl rfl).ad E rfl rfl).ad E rfl rfl).ad E rfl rfl)⟩
  · rintro a _ ⟨x9, x10, s12, w11, hm, rfl, t12, h14, h15, E⟩
    dsimp only [m_25_1k] at hm
    refine tgn ?_
    refine G_seq ?_
    refine G_region ?_
    refine sd E (o_mv (E.ev rfl)) rfl rfl rfl fun a E => ?_
    refine sd E (o_as (E.ev rfl)) rfl rfl rfl fun a E => ?_
    refine GL_nil ?_
    refine tgn ?_
    refine G_ret ?_
    cases hm
    obtain ⟨s13, e3, h16, t13⟩ := h14.rt tr0
    rw [e3]
    have T2 : Tr (Fz κ []) s s13 := (((((t1.no.trans t2.no).trans t3.no).trans (Tr.ft Fz.f t4)).trans t12).trans (Tr.ft Fz.f t13))
    exact fin1 E rfl rfl ⟨(Tr.fin0 hκ T2), _, rfl, h16⟩

-- (*gimmal/vault.Vault).Append

noncomputable def m_27 (X1 : VaultM) (X2 : Disk) (x1 : Frame) : Option (Int × VaultM × Disk) :=
  ob (mq_10 X1.log X2 x1) fun (y1, X3, X4) => some (y1, (⟨X1.area, (⟨X1.at_.Number, X1.at_.Epoch, X1.at_.Area, X1.at_.Words⟩ : Anchor), X1.stored, X3⟩ : VaultM), X4)
theorem ok_27 (s : St) {k1 k1a b1 : Nat} {X1 : VaultM} {k2 b2 : Nat} {X2 : Disk} {x1 : Frame} {w1 : Value} (ho1 : VaultAt k1 k1a b2 s b1 X1) (ho2 : DiskAt k2 s b2 X2) (h1 : Sl kU s w1 x1.Words) (ne01 : k1 ≠ k1a) (ne02 : k1 ≠ k2) (ne12 : k1a ≠ k2) {r0y : Int} {Y1 : VaultM} {Y2 : Disk} (hm : m_27 X1 X2 x1 = some (r0y, Y1, Y2)) :
    Ok Tryz.prog 14 ([.pointer (some ⟨b1, 0, none⟩), .agg #[.int .i64 x1.Kind, w1]] : List Value).toArray s fun v s' => Tr (Ws [k1, k1a, k2]) s s' ∧ v = .int .i64 r0y ∧ VaultAt k1 k1a b2 s' b1 Y1 ∧ DiskAt k2 s' b2 Y2 := by
  unfold m_27 at hm
  obtain ⟨κ, hκ⟩ := s.fresh
  have lt1 : k1 < κ := hκ _ _ ho1.tag
  have lt2 : k1a < κ := ho1.lt1 hκ
  have lt3 : k2 < κ := hκ _ _ ho2.tag
  refine ok_of (n := 13) _ Tryz.func14 rfl _ rfl rfl fun a E => ?_
  refine G_seq ?_
  refine G_region ?_
  obtain ⟨a1, c1, rfl⟩ := h1.isS
  refine sh E (o_box (E.ev rfl)) rfl rfl rfl ?_
  rintro a _ s1 ⟨b3, rfl, o1, t1⟩ E
  refine sd E (o_as (E.ev rfl)) rfl rfl rfl fun a E => ?_
  refine GL_nil ?_
  refine tgn ?_
  refine G_seq ?_
  refine G_seq ?_
  refine G_region ?_
  refine sd E (o_mv (E.ev rfl)) rfl rfl rfl fun a E => ?_
  refine sd E (o_eqp Tryz.underlying29 (E.ev rfl) (E.ev rfl)) rfl rfl rfl fun a E => ?_
  refine GL_nil ?_
  refine tgn ?_
  refine G_cond (t := false) (E.ev rfl) nofun (fun _ => ?_)
  refine G_skip ?_
  refine tgn ?_
  refine G_seq ?_
  refine G_drw (κ + 1) (by rfl) [0, 1, 2, 3, 4, 5, 6] (by kernel_rfl) ?_
  intro s2 t2
  refine dp E rfl (fun w => (o_mv (E.ev rfl))) rfl rfl rfl fun a E => ?_
  refine dp E rfl (fun w => (o_nc (E.ev rfl))) rfl rfl rfl fun a E => ?_
  have f1 := (ho1.trN t1).trN t2
  obtain ⟨w2, b4, o2, h2, h3⟩ := f1
  refine dp E rfl (fun w => (o_fa Tryz.underlying68 rfl Tryz.sizeOf66 (E.ev rfl))) rfl rfl rfl fun a E => ?_
  refine dr E rfl (fun s' t => (o_ld Tryz.isAgg66 (E.ev rfl) (((o2.trN t).cell _).trans rfl))) rfl rfl rfl (by kernel_rfl) fun a E => ?_
  have f2 := o1.tr t2
  refine dq E rfl (fun s' t => (o_ldc (cs := #[.int .i64 x1.Kind, (.slice a1 x1.Words.length c1)]) Tryz.isAgg38 Tryz.sizeOf38 (E.ev rfl) (f2.up t).cell)) rfl rfl rfl (by kernel_rfl) fun a E => ?_
  have f3 := (ho2.trN t1).trN t2
  have f4 := (h1.tr t1).tr t2
  obtain ⟨⟨y1, X3, X4⟩, hx1, hm⟩ := ob_some hm
  refine dl E rfl (o_ok Tryz.call41 (E.evs rfl) (E.ev rfl) (oq_10 _ (x1 := x1) h3 f3 f4 ne12 hx1)) rfl rfl rfl (by kernel_rfl) ?_
  rintro a _ s3 ⟨t3, rfl, h4, h5⟩ E
  refine dp E rfl (fun w => (o_as (E.ev rfl))) rfl rfl rfl fun a E => ?_
  refine gd_nil ?_
  refine tgn ?_
  refine G_ret ?_
  cases hm
  have f5 := h2.tr t3
  have f6 := o2.tr t3 (nW2 ne01 ne02)
  have h6 : VaultAt k1 k1a b2 s3 b1 (⟨X1.area, (⟨X1.at_.Number, X1.at_.Epoch, X1.at_.Area, X1.at_.Words⟩ : Anchor), X1.stored, X3⟩ : VaultM) := ⟨_, _, f6, f5, h4⟩
  have T1 : Tr (Fz κ [k1, k1a, k2]) s s3 := ((t1.no.trans t2.no).trans (Tr.fw2 Fz.w1 Fz.w2 t3))
  exact fin1 E rfl rfl ⟨(Tr.fin hκ T1), rfl, h6, h5⟩

-- (*gimmal/vault.Vault).Room

noncomputable def m_28 (X1 : VaultM) : Option Int :=
  ob (mq_13 X1.log) fun y1 => some y1
theorem ok_28 (s : St) {k1 k1a b1 : Nat} {X1 : VaultM} {d1d : Nat} (ho1 : VaultAt k1 k1a d1d s b1 X1) (ne01 : k1 ≠ k1a) {r0y : Int} (hm : m_28 X1 = some r0y) :
    Ok Tryz.prog 21 ([.pointer (some ⟨b1, 0, none⟩)] : List Value).toArray s fun v s' => Tr No s s' ∧ v = .int .i64 r0y := by
  unfold m_28 at hm
  obtain ⟨κ, hκ⟩ := s.fresh
  have lt1 : k1 < κ := hκ _ _ ho1.tag
  have lt2 : k1a < κ := ho1.lt1 hκ
  refine ok_of (n := 10) _ Tryz.func21 rfl _ rfl rfl fun a E => ?_
  refine G_seq ?_
  refine G_region ?_
  refine sd E (o_as (E.ev rfl)) rfl rfl rfl fun a E => ?_
  refine GL_nil ?_
  refine tgn ?_
  refine G_seq ?_
  refine G_seq ?_
  refine G_region ?_
  refine sd E (o_mv (E.ev rfl)) rfl rfl rfl fun a E => ?_
  refine sd E (o_eqp Tryz.underlying29 (E.ev rfl) (E.ev rfl)) rfl rfl rfl fun a E => ?_
  refine GL_nil ?_
  refine tgn ?_
  refine G_cond (t := false) (E.ev rfl) nofun (fun _ => ?_)
  refine G_skip ?_
  refine tgn ?_
  refine G_seq ?_
  refine G_region ?_
  refine sd E (o_mv (E.ev rfl)) rfl rfl rfl fun a E => ?_
  refine sd E (o_nc (E.ev rfl)) rfl rfl rfl fun a E => ?_
  obtain ⟨w1, b2, o1, h1, h2⟩ := ho1
  refine sd E (o_fa Tryz.underlying68 rfl Tryz.sizeOf66 (E.ev rfl)) rfl rfl rfl fun a E => ?_
  refine sd E (o_ld Tryz.isAgg66 (E.ev rfl) ((o1.cell _).trans rfl)) rfl rfl rfl fun a E => ?_
  obtain ⟨y1, hx1, hm⟩ := ob_some hm
  refine sh E (o_ok Tryz.call49 (E.evs rfl) (E.ev rfl) (oq_13 _ h2 hx1)) rfl rfl rfl ?_
  rintro a _ s1 ⟨t1, rfl⟩ E
  refine sd E (o_as (E.ev rfl)) rfl rfl rfl fun a E => ?_
  refine GL_nil ?_
  refine tgn ?_
  refine G_ret ?_
  cases hm
  have f1 := h1.tr t1
  have f2 := h2.trN t1
  have f3 := o1.trN t1
  have h3 : VaultAt k1 k1a d1d s1 b1 X1 := ⟨_, _, f3, f1, f2⟩
  have T1 : Tr (Fz κ []) s s1 := t1.no
  exact fin1 E rfl rfl ⟨(Tr.fin0 hκ T1), rfl⟩

-- (*gimmal/vault.Vault).Epoch

-- (*gimmal/vault.Vault).Anchored

noncomputable def m_30 (X1 : VaultM) : Option Int :=
  some (X1.stored.length : Int)
theorem ok_30 (s : St) {k1 k1a b1 : Nat} {X1 : VaultM} {d1d : Nat} (ho1 : VaultAt k1 k1a d1d s b1 X1) (ne01 : k1 ≠ k1a) {r0y : Int} (hm : m_30 X1 = some r0y) :
    Ok Tryz.prog 22 ([.pointer (some ⟨b1, 0, none⟩)] : List Value).toArray s fun v s' => Tr No s s' ∧ v = .int .i64 r0y := by
  unfold m_30 at hm
  obtain ⟨κ, hκ⟩ := s.fresh
  have lt1 : k1 < κ := hκ _ _ ho1.tag
  have lt2 : k1a < κ := ho1.lt1 hκ
  refine ok_of (n := 10) _ Tryz.func22 rfl _ rfl rfl fun a E => ?_
  refine G_seq ?_
  refine G_region ?_
  refine sd E (o_as (E.ev rfl)) rfl rfl rfl fun a E => ?_
  refine GL_nil ?_
  refine tgn ?_
  refine G_seq ?_
  refine G_seq ?_
  refine G_region ?_
  refine sd E (o_mv (E.ev rfl)) rfl rfl rfl fun a E => ?_
  refine sd E (o_eqp Tryz.underlying29 (E.ev rfl) (E.ev rfl)) rfl rfl rfl fun a E => ?_
  refine GL_nil ?_
  refine tgn ?_
  refine G_cond (t := false) (E.ev rfl) nofun (fun _ => ?_)
  refine G_skip ?_
  refine tgn ?_
  refine G_seq ?_
  refine G_region ?_
  refine sd E (o_mv (E.ev rfl)) rfl rfl rfl fun a E => ?_
  refine sd E (o_nc (E.ev rfl)) rfl rfl rfl fun a E => ?_
  obtain ⟨w1, b2, o1, h1, h2⟩ := ho1
  refine sd E (o_fa Tryz.underlying68 rfl Tryz.sizeOf43 (E.ev rfl)) rfl rfl rfl fun a E => ?_
  refine sd E (o_ld Tryz.isAgg43 (E.ev rfl) ((o1.cell _).trans rfl)) rfl rfl rfl fun a E => ?_
  refine sd E (o_lenS (xs := X1.stored) Tryz.underlying43 (E.ev rfl) h1.isS) rfl rfl rfl fun a E => ?_
  refine sd E (o_as (E.ev rfl)) rfl rfl rfl fun a E => ?_
  refine GL_nil ?_
  refine tgn ?_
  refine G_ret ?_
  cases hm
  have h3 : VaultAt k1 k1a d1d s b1 X1 := ⟨_, _, o1, h1, h2⟩
  exact fin1 E rfl rfl ⟨(Tr.fin0 hκ (Tr.refl _ _)), rfl⟩

end Go.Proofs.YtdkfdmalbbfbmaaGreat
