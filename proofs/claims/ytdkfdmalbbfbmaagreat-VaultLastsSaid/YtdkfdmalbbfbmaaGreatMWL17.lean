/- Models and walks, printed by a program of ours. -/
import Derived.Test.YtdkfdmalbbfbmaaGreatMWL14
/- Models and walks, printed by a program of ours. -/
namespace Go.Proofs.YtdkfdmalbbfbmaaGreat
open Go Go.Maps
set_option maxRecDepth 4000
set_option maxHeartbeats 1000000
structure RDisk where
  Lasts : List (List Int)
  Read : List (List Int)
  Dirty : List Bool
/-- At b lies such a thing, k's. -/
def RDiskAt (k : Nat) (s : St) (b : Nat) (X : RDisk) : Prop := ∃ w0 w1 w2, Own (k, 0) s b #[w0, w1, w2] 65 ∧ Bd (k, 1) kA8 40 0 s w0 X.Lasts ∧ Bd (k, 2) kA8 40 0 s w1 X.Read ∧ Bd (k, 3) kBool 4 0 s w2 X.Dirty
theorem RDiskAt.tr {k : Nat} {s s' : St} {b : Nat} {X : RDisk} {p : Tg → Prop} (h : RDiskAt k s b X) (t : Tr p s s') (hk : ∀ i, ¬ p (k, i)) : RDiskAt k s' b X := by
  obtain ⟨w0, w1, w2, h, h0, h1, h2⟩ := h
  exact ⟨w0, w1, w2, h.tr t (hk 0), h0.tr t (hk 1), h1.tr t (hk 2), h2.tr t (hk 3)⟩
theorem RDiskAt.trN {k : Nat} {s s' : St} {b : Nat} {X : RDisk} (h : RDiskAt k s b X) (t : Tr No s s') : RDiskAt k s' b X := h.tr t (fun _ h => h)
theorem RDiskAt.tag {k : Nat} {s : St} {b : Nat} {X : RDisk} (h : RDiskAt k s b X) : s.tag b = some (k, 0) := let ⟨_, _, _, h, _, _, _⟩ := h; h.1
theorem RDiskAt.rt {k : Nat} {s : St} {b : Nat} {X : RDisk} (h : RDiskAt k s b X) (r : Nat) : ∃ s', s.w = s'.w ∧ RDiskAt r s' b X ∧ Tr (Rt k) s s' := by
  obtain ⟨w0, w1, w2, h, h0, h1, h2⟩ := h
  by_cases e : r = k
  · subst e; exact ⟨s, rfl, ⟨w0, w1, w2, h, h0, h1, h2⟩, Tr.refl _ _⟩
  obtain ⟨s1, e1, h, t1⟩ := h.rt (r, 0)
  have h0 := h0.tr t1 (nt_snd rfl)
  have h1 := h1.tr t1 (nt_snd rfl)
  have h2 := h2.tr t1 (nt_snd rfl)
  obtain ⟨s2, e2, h0, t2⟩ := h0.rt (r, 1)
  have h := h.tr t2 (nt_fst e)
  have h1 := h1.tr t2 (nt_snd rfl)
  have h2 := h2.tr t2 (nt_snd rfl)
  obtain ⟨s3, e3, h1, t3⟩ := h1.rt (r, 2)
  have h := h.tr t3 (nt_fst e)
  have h0 := h0.tr t3 (nt_fst e)
  have h2 := h2.tr t3 (nt_snd rfl)
  obtain ⟨s4, e4, h2, t4⟩ := h2.rt (r, 3)
  have h := h.tr t4 (nt_fst e)
  have h0 := h0.tr t4 (nt_fst e)
  have h1 := h1.tr t4 (nt_fst e)
  exact ⟨s4, e1.trans (e2.trans (e3.trans (e4))), ⟨w0, w1, w2, h, h0, h1, h2⟩, ((((t1.mono (by intro t h; subst h; rfl)).trans (t2.mono (by intro t h; subst h; rfl))).trans (t3.mono (by intro t h; subst h; rfl))).trans (t4.mono (by intro t h; subst h; rfl)))⟩
structure RLog where
  From : Int
  N : Int
  Epoch : Int
  L : List Frame
/-- At b lies such a thing, k's. -/
def RLogAt (k dD : Nat) (s : St) (b : Nat) (X : RLog) : Prop := ∃ w0, Own (k, 0) s b #[.pointer (some ⟨dD, 0, none⟩), .int .i64 X.From, .int .i64 X.N, .int .i64 X.Epoch, w0] 79 ∧ Sl kFr s w0 X.L
theorem RLogAt.tr {k dD : Nat} {s s' : St} {b : Nat} {X : RLog} {p : Tg → Prop} (h : RLogAt k dD s b X) (t : Tr p s s') (hk : ∀ i, ¬ p (k, i)) : RLogAt k dD s' b X := by
  obtain ⟨w0, h, h0⟩ := h
  exact ⟨w0, h.tr t (hk 0), h0.tr t⟩
theorem RLogAt.trN {k dD : Nat} {s s' : St} {b : Nat} {X : RLog} (h : RLogAt k dD s b X) (t : Tr No s s') : RLogAt k dD s' b X := h.tr t (fun _ h => h)
theorem RLogAt.tag {k dD : Nat} {s : St} {b : Nat} {X : RLog} (h : RLogAt k dD s b X) : s.tag b = some (k, 0) := let ⟨_, h, _⟩ := h; h.1
theorem RLogAt.rt {k dD : Nat} {s : St} {b : Nat} {X : RLog} (h : RLogAt k dD s b X) (r : Nat) : ∃ s', s.w = s'.w ∧ RLogAt r dD s' b X ∧ Tr (Rt k) s s' := by
  obtain ⟨w0, h, h0⟩ := h
  by_cases e : r = k
  · subst e; exact ⟨s, rfl, ⟨w0, h, h0⟩, Tr.refl _ _⟩
  obtain ⟨s1, e1, h, t1⟩ := h.rt (r, 0)
  have h0 := h0.tr t1
  exact ⟨s1, e1, ⟨w0, h, h0⟩, (t1.mono (by intro t h; subst h; rfl))⟩
-- gimmal/gimmalref03.New

noncomputable def m_16 (x0 : Int) : Option RDisk :=
  ob (gd (decide (0 ≤ x0) && decide (x0 ≤ 4096)) (some ())) fun x2 => ob (gd (decide (0 ≤ x0) && decide (x0 ≤ 4096)) (some ())) fun x3 => ob (gd (decide (0 ≤ x0) && decide (x0 ≤ 4096)) (some ())) fun x4 => some (⟨(List.replicate (Int.toNat x0) (List.replicate 8 (0 : Int))), (List.replicate (Int.toNat x0) (List.replicate 8 (0 : Int))), (List.replicate (Int.toNat x0) false)⟩ : RDisk)
theorem ok_16 (s : St) (q0 : Nat) {x0 : Int} {r0y : RDisk} (hm : m_16 x0 = some r0y) :
    Ok Tryz.prog 6 ([.int .i64 x0] : List Value).toArray s fun v s' => Tr No s s' ∧ ∃ nb0, v = .pointer (some ⟨nb0, 0, none⟩) ∧ RDiskAt q0 s' nb0 r0y := by
  unfold m_16 at hm
  obtain ⟨κ, hκ⟩ := s.fresh
  refine ok_of (n := 11) _ Tryz.func6 rfl _ rfl rfl fun a E => ?_
  refine G_seq ?_
  refine G_region ?_
  refine sd E (o_as (E.ev rfl)) rfl rfl rfl fun a E => ?_
  refine GL_nil ?_
  refine tgn ?_
  refine G_seq ?_
  refine G_drw (κ + 1) (by rfl) [0, 2, 4, 1, 3, 5, 6, 7, 8] (by kernel_rfl) ?_
  intro s1 t1
  refine dp E rfl (fun w => (o_mv (E.ev rfl))) rfl rfl rfl fun a E => ?_
  refine dp E rfl (fun w => (o_mv (E.ev rfl))) rfl rfl rfl fun a E => ?_
  refine dp E rfl (fun w => (o_mv (E.ev rfl))) rfl rfl rfl fun a E => ?_
  obtain ⟨x2, hx1, hm⟩ := ob_some hm
  refine dms (K := kA8) (c0 := .int .u64 0) (q := (List.replicate 8 0)) E rfl Tryz.underlying60 Tryz.type40 rfl rfl rfl rfl (fun s => ⟨rfl, rfl⟩) (E.ev rfl) (E.ev rfl) (ix_le hx1).1 (ix_le hx1).2 rfl rfl rfl (by kernel_rfl) ?_
  rintro a w1 s2 h1 t2 E
  obtain ⟨x3, hx2, hm⟩ := ob_some hm
  refine dms (K := kA8) (c0 := .int .u64 0) (q := (List.replicate 8 0)) E rfl Tryz.underlying60 Tryz.type40 rfl rfl rfl rfl (fun s => ⟨rfl, rfl⟩) (E.ev rfl) (E.ev rfl) (ix_le hx2).1 (ix_le hx2).2 rfl rfl rfl (by kernel_rfl) ?_
  rintro a w2 s3 h2 t3 E
  obtain ⟨x4, hx3, hm⟩ := ob_some hm
  refine dms1 (K := kBool) (c0 := .bool false) (q := false) E rfl Tryz.underlying23 Tryz.type4 rfl rfl rfl rfl rfl (fun s => rfl) (E.ev rfl) (E.ev rfl) (ix_le hx3).1 (ix_le hx3).2 rfl rfl rfl (by kernel_rfl) ?_
  rintro a w3 s4 h3 t4 E
  have f1 := (h1.trN t3).trN t4
  obtain ⟨a1, c1, rfl⟩ := f1.isS
  have f2 := h2.trN t4
  obtain ⟨a2, c2, rfl⟩ := f2.isS
  obtain ⟨a3, c3, rfl⟩ := h3.isS
  refine dp E rfl (fun w => (o_bd (cells := #[(.slice a1 (List.replicate (Int.toNat x0) (List.replicate 8 (0 : Int))).length c1), (.slice a2 (List.replicate (Int.toNat x0) (List.replicate 8 (0 : Int))).length c2), (.slice a3 (List.replicate (Int.toNat x0) false).length c3)]) (places := #[(0, 1), (1, 1), (2, 1)]) Tryz.zeroValue65 Tryz.underlying65 (fun w => by simp [Sem.run_bind, Result.andThen, Tryz.sizeOf23, Tryz.sizeOf60]) (qs := #[(0, (.slice a1 (List.replicate (Int.toNat x0) (List.replicate 8 (0 : Int))).length c1)), (1, (.slice a2 (List.replicate (Int.toNat x0) (List.replicate 8 (0 : Int))).length c2)), (2, (.slice a3 (List.replicate (Int.toNat x0) false).length c3))]) (by simp only [List.map_toArray, List.map_cons, List.map_nil, E.ev (x := .tmp 4) (v := (.slice a1 (List.replicate (Int.toNat x0) (List.replicate 8 (0 : Int))).length c1)) rfl, E.ev (x := .tmp 6) (v := (.slice a2 (List.replicate (Int.toNat x0) (List.replicate 8 (0 : Int))).length c2)) rfl, E.ev (x := .tmp 8) (v := (.slice a3 (List.replicate (Int.toNat x0) false).length c3)) rfl]) (by kernel_rfl))) rfl rfl rfl fun a E => ?_
  refine dh E rfl (o_boxo ((κ + 2), 0) (E.ev rfl)) (fun _ _ ⟨_, _, _, t⟩ => t) rfl rfl rfl (by kernel_rfl) ?_
  rintro a _ s5 ⟨b1, rfl, o1, t5⟩ E
  refine dp E rfl (fun w => (o_as (E.ev rfl))) rfl rfl rfl fun a E => ?_
  refine gd_nil ?_
  refine tgn ?_
  refine G_ret ?_
  cases hm
  have f3 := f1.trN t5
  obtain ⟨s6, e1, h4, t6⟩ := f3.rt ((κ + 2), 1)
  rw [e1]
  have f4 := (f2.trN t5).tr t6 (nt_snd rfl)
  obtain ⟨s7, e2, h5, t7⟩ := f4.rt ((κ + 2), 2)
  rw [e2]
  have f5 := ((h3.trN t5).tr t6 (nt_snd rfl)).tr t7 (nt_snd rfl)
  obtain ⟨s8, e3, h6, t8⟩ := f5.rt ((κ + 2), 3)
  rw [e3]
  have f6 := (h4.tr t7 (nt_fst (ra rfl))).tr t8 (nt_fst (ra rfl))
  have f7 := h5.tr t8 (nt_fst (ra rfl))
  have f8 := ((o1.tr t6 (nt_fst (ra rfl))).tr t7 (nt_fst (ra rfl))).tr t8 (nt_fst (ra rfl))
  have h7 : RDiskAt (κ + 2) s8 b1 (⟨(List.replicate (Int.toNat x0) (List.replicate 8 (0 : Int))), (List.replicate (Int.toNat x0) (List.replicate 8 (0 : Int))), (List.replicate (Int.toNat x0) false)⟩ : RDisk) := ⟨_, _, _, f8, f6, f7, h6⟩
  obtain ⟨s9, e4, h8, t9⟩ := h7.rt q0
  rw [e4]
  have t9 := Tr.w1 t9
  have T1 : Tr (Fz κ []) s s9 := ((((((((t1.no.trans t2.no).trans t3.no).trans t4.no).trans t5.no).trans (Tr.ft Fz.f t6)).trans (Tr.ft Fz.f t7)).trans (Tr.ft Fz.f t8)).trans (Tr.fw1 Fz.f t9))
  exact fin1 E rfl rfl ⟨(Tr.fin0 hκ T1), _, rfl, h8⟩

-- (*gimmal/gimmalref03.Disk).Write

noncomputable def m_44 (X1 : RDisk) (x1 : Int) (x2 : List Int) : Option RDisk :=
  ob (gt X1.Read x1) fun x4 => ob (gt X1.Dirty x1) fun x5 => some (⟨X1.Lasts, (X1.Read.set (Int.toNat x1) x2), (X1.Dirty.set (Int.toNat x1) true)⟩ : RDisk)
theorem ok_44 (s : St) {k1 b1 : Nat} {X1 : RDisk} {x1 : Int} {x2 : List Int} (ho1 : RDiskAt k1 s b1 X1) (len_x2 : x2.length = 8) {Y1 : RDisk} (hm : m_44 X1 x1 x2 = some Y1) :
    Ok Tryz.prog 39 ([.pointer (some ⟨b1, 0, none⟩), .int .i64 x1, eA .u64 x2] : List Value).toArray s fun v s' => Tr (Ws [k1]) s s' ∧ RDiskAt k1 s' b1 Y1 := by
  unfold m_44 at hm
  obtain ⟨κ, hκ⟩ := s.fresh
  have lt1 : k1 < κ := hκ _ _ ho1.tag
  refine ok_of (n := 19) _ Tryz.func39 rfl _ rfl rfl fun a E => ?_
  refine G_seq ?_
  refine G_region ?_
  refine sh E (o_box (E.ev rfl)) rfl rfl rfl ?_
  rintro a _ s1 ⟨b2, rfl, o1, t1⟩ E
  refine GL_nil ?_
  refine tgn ?_
  refine G_seq ?_
  refine G_drw (κ + 1) (by rfl) [0, 1, 2, 3, 4, 5, 6, 7] (by kernel_rfl) ?_
  intro s2 t2
  refine dp E rfl (fun w => (o_mv (E.ev rfl))) rfl rfl rfl fun a E => ?_
  refine dp E rfl (fun w => (o_nc (E.ev rfl))) rfl rfl rfl fun a E => ?_
  have f1 := (ho1.trN t1).trN t2
  obtain ⟨w1, w2, w3, o2, h1, h2, h3⟩ := f1
  refine dp E rfl (fun w => (o_fa Tryz.underlying65 rfl Tryz.sizeOf60 (E.ev rfl))) rfl rfl rfl fun a E => ?_
  refine dr E rfl (fun s' t => (o_ld Tryz.isAgg60 (E.ev rfl) (((o2.trN t).cell _).trans rfl))) rfl rfl rfl (by kernel_rfl) fun a E => ?_
  refine dp E rfl (fun w => (o_mv (E.ev rfl))) rfl rfl rfl fun a E => ?_
  have f2 := o1.tr t2
  refine dq E rfl (fun s' t => (o_ldA Tryz.isAgg40 Tryz.sizeOf40 (E.ev rfl) len_x2 (f2.up t).cell)) rfl rfl rfl (by kernel_rfl) fun a E => ?_
  obtain ⟨x4, hx1, hm⟩ := ob_some hm
  obtain ⟨b3, p1, g1⟩ := bd_ix h2 hx1
  refine dp E rfl (fun w => (o_ixg Tryz.underlying60 Tryz.sizeOf40 g1 (E.ev rfl) (E.ev rfl))) rfl rfl rfl fun a E => ?_
  refine dlN E rfl (o_ste (u := eA .u64 x2) (q := x2) Tryz.sizeOf40 h2 g1 (E.ev rfl) (E.ev rfl) (fun s => ⟨len_x2, rfl⟩)) rfl rfl (by kernel_rfl) ?_
  rintro _ s3 ⟨h5, t3⟩
  refine gd_nil ?_
  refine tgn ?_
  refine G_region ?_
  refine sd E (o_mv (E.ev rfl)) rfl rfl rfl fun a E => ?_
  refine sd E (o_nc (E.ev rfl)) rfl rfl rfl fun a E => ?_
  refine sd E (o_fa Tryz.underlying65 rfl Tryz.sizeOf23 (E.ev rfl)) rfl rfl rfl fun a E => ?_
  have f3 := o2.tr t3 (nt_snd rfl)
  refine sd E (o_ld Tryz.isAgg23 (E.ev rfl) ((f3.cell _).trans rfl)) rfl rfl rfl fun a E => ?_
  refine sd E (o_mv (E.ev rfl)) rfl rfl rfl fun a E => ?_
  obtain ⟨x5, hx2, hm⟩ := ob_some hm
  have f4 := h3.tr t3 (nt_snd rfl)
  obtain ⟨b4, p2, g2⟩ := bd_ix f4 hx2
  refine sd E (o_ixg Tryz.underlying23 Tryz.sizeOf4 g2 (E.ev rfl) (E.ev rfl)) rfl rfl rfl fun a E => ?_
  refine shN E (o_ste (u := .bool true) (q := true) Tryz.sizeOf4 f4 g2 (E.ev rfl) (E.ev rfl) (fun s => rfl)) rfl rfl ?_
  rintro _ s4 ⟨h7, t4⟩
  refine GL_nil ?_
  cases hm
  have f5 := (h1.tr t3 (nt_snd rfl)).tr t4 (nt_snd rfl)
  have f6 := h5.tr t4 (nt_snd rfl)
  have f7 := f3.tr t4 (nt_snd rfl)
  have h8 : RDiskAt k1 s4 b1 (⟨X1.Lasts, (X1.Read.set (Int.toNat x1) x2), (X1.Dirty.set (Int.toNat x1) true)⟩ : RDisk) := ⟨_, _, _, f7, f5, f6, h7⟩
  have T1 : Tr (Fz κ [k1]) s s4 := (((t1.no.trans t2.no).trans (Tr.ft Fz.w0 t3)).trans (Tr.ft Fz.w0 t4))
  exact fin0 E rfl ⟨(Tr.fin hκ T1), h8⟩

-- (*gimmal/gimmalref03.Disk).Sync
noncomputable def m_45_1b : (Int × RDisk) → Option (Lo (Int × RDisk) (Int × RDisk)) := fun (x4, x5) => bif decide (x4 < (x5.Read.length : Int)) then (ob (gt x5.Read x4) fun x6 => ob (gt x5.Lasts x4) fun x7 => ob (gt x5.Dirty x4) fun x8 => some (.inl (IntKind.wrap .i64 (x4 + 1), (⟨(x5.Lasts.set (Int.toNat x4) x6), x5.Read, (x5.Dirty.set (Int.toNat x4) false)⟩ : RDisk)))) else (some (.inr (x4, x5)))
noncomputable def m_45_1k : (Int × RDisk) → Option RDisk := fun (x9, x10) => some x10
noncomputable def m_45 (X1 : RDisk) : Option RDisk :=
  ob (loopO (m_45_1b) (0, X1)) (m_45_1k)
theorem ok_45 (s : St) {k1 b1 : Nat} {X1 : RDisk} (ho1 : RDiskAt k1 s b1 X1) {Y1 : RDisk} (hm : m_45 X1 = some Y1) :
    Ok Tryz.prog 10 ([.pointer (some ⟨b1, 0, none⟩)] : List Value).toArray s fun v s' => Tr (Ws [k1]) s s' ∧ RDiskAt k1 s' b1 Y1 := by
  unfold m_45 at hm
  obtain ⟨κ, hκ⟩ := s.fresh
  have lt1 : k1 < κ := hκ _ _ ho1.tag
  refine ok_of (n := 31) _ Tryz.func10 rfl _ rfl rfl fun a E => ?_
  refine G_seq ?_
  refine G_region ?_
  refine sd E (o_as (E.ev rfl)) rfl rfl rfl fun a E => ?_
  refine GL_nil ?_
  refine tgn ?_
  obtain ⟨r1, hl1, hm⟩ := ob_some hm
  refine G_mid1 (fun a' w' => ∃ x2 x3 s', m_45_1k (x2, x3) = some Y1 ∧ w' = s'.w ∧ Tr (Fz κ [k1]) s s' ∧ RDiskAt k1 s' b1 x3 ∧ En [] 31 a' [(2, .int .i64 x2), (0, .pointer (some ⟨b1, 0, none⟩))]) ?_ ?_
  · refine G_block ?_
    refine G_lp hl1 (fun st a' w' => ∃ x2 x3 s', st = (x2, x3) ∧ w' = s'.w ∧ Tr (Fz κ [k1]) s s' ∧ RDiskAt k1 s' b1 x3 ∧ En [] 31 a' [(2, .int .i64 x2), (0, .pointer (some ⟨b1, 0, none⟩))]) ⟨_, _, _, rfl, rfl, (Tr.refl _ _), ho1, ((E.nil.ad E rfl rfl).ad E rfl rfl)⟩ ?_
    rintro _ a _ x ⟨x4, x5, s1, rfl, rfl, t1, h1, E⟩ hf1
    dsimp only [m_45_1b] at hf1
    refine G_seq ?_
    refine G_seq ?_
    refine G_region ?_
    refine sd E (o_mv (E.ev rfl)) rfl rfl rfl fun a E => ?_
    refine sd E (o_mv (E.ev rfl)) rfl rfl rfl fun a E => ?_
    refine sd E (o_nc (E.ev rfl)) rfl rfl rfl fun a E => ?_
    obtain ⟨w1, w2, w3, o1, h2, h3, h4⟩ := h1
    refine sd E (o_fa Tryz.underlying65 rfl Tryz.sizeOf60 (E.ev rfl)) rfl rfl rfl fun a E => ?_
    refine sd E (o_ld Tryz.isAgg60 (E.ev rfl) ((o1.cell _).trans rfl)) rfl rfl rfl fun a E => ?_
    refine sd E (o_lenS (xs := x5.Read) Tryz.underlying60 (E.ev rfl) h3.isS) rfl rfl rfl fun a E => ?_
    refine sd E (o_bi (E.ev rfl) (E.ev rfl) rfl) rfl rfl rfl fun a E => ?_
    refine GL_nil ?_
    refine tgn ?_
    refine G_cond (E.ev rfl) (fun ht => ?_) (fun ht => ?_)
    · have hf1 := cT ht hf1
      refine G_skip ?_
      refine tgn ?_
      refine G_seq ?_
      refine G_block ?_
      refine G_seq ?_
      refine G_drw (κ + 1) (by rfl) [0, 1, 2, 3, 4, 5, 6, 7, 8, 9, 10, 11, 12, 13] (by kernel_rfl) ?_
      intro s2 t2
      refine dp E rfl (fun w => (o_mv (E.ev rfl))) rfl rfl rfl fun a E => ?_
      refine dp E rfl (fun w => (o_nc (E.ev rfl))) rfl rfl rfl fun a E => ?_
      refine dp E rfl (fun w => (o_fa Tryz.underlying65 rfl Tryz.sizeOf60 (E.ev rfl))) rfl rfl rfl fun a E => ?_
      have f1 := o1.trN t2
      refine dr E rfl (fun s' t => (o_ld Tryz.isAgg60 (E.ev rfl) (((f1.trN t).cell _).trans rfl))) rfl rfl rfl (by kernel_rfl) fun a E => ?_
      refine dp E rfl (fun w => (o_mv (E.ev rfl))) rfl rfl rfl fun a E => ?_
      refine dp E rfl (fun w => (o_mv (E.ev rfl))) rfl rfl rfl fun a E => ?_
      refine dp E rfl (fun w => (o_nc (E.ev rfl))) rfl rfl rfl fun a E => ?_
      refine dp E rfl (fun w => (o_fa Tryz.underlying65 rfl Tryz.sizeOf60 (E.ev rfl))) rfl rfl rfl fun a E => ?_
      refine dr E rfl (fun s' t => (o_ld Tryz.isAgg60 (E.ev rfl) (((f1.trN t).cell _).trans rfl))) rfl rfl rfl (by kernel_rfl) fun a E => ?_
      refine dp E rfl (fun w => (o_mv (E.ev rfl))) rfl rfl rfl fun a E => ?_
      obtain ⟨x6, hx1, hf1⟩ := ob_some hf1
      have f2 := h3.trN t2
      obtain ⟨b2, p1, g1⟩ := bd_ix f2 hx1
      refine dp E rfl (fun w => (o_ixg Tryz.underlying60 Tryz.sizeOf40 g1 (E.ev rfl) (E.ev rfl))) rfl rfl rfl fun a E => ?_
      refine dr E rfl (fun s' t => (o_ldB Tryz.isAgg40 Tryz.sizeOf40 (E.ev rfl) (f2.trN t) g1 hx1)) rfl rfl rfl (by kernel_rfl) fun a E => ?_
      obtain ⟨x7, hx2, hf1⟩ := ob_some hf1
      have f3 := h2.trN t2
      obtain ⟨b3, p2, g2⟩ := bd_ix f3 hx2
      refine dp E rfl (fun w => (o_ixg Tryz.underlying60 Tryz.sizeOf40 g2 (E.ev rfl) (E.ev rfl))) rfl rfl rfl fun a E => ?_
      refine dlN E rfl (o_ste (u := eA .u64 x6) (q := x6) Tryz.sizeOf40 f3 g2 (E.ev rfl) (E.ev rfl) (fun s => ⟨(bd_len8 f2 hx1), rfl⟩)) rfl rfl (by kernel_rfl) ?_
      rintro _ s3 ⟨h7, t3⟩
      refine gd_nil ?_
      refine tgn ?_
      refine G_region ?_
      refine sd E (o_mv (E.ev rfl)) rfl rfl rfl fun a E => ?_
      refine sd E (o_nc (E.ev rfl)) rfl rfl rfl fun a E => ?_
      refine sd E (o_fa Tryz.underlying65 rfl Tryz.sizeOf23 (E.ev rfl)) rfl rfl rfl fun a E => ?_
      have f4 := f1.tr t3 (nt_snd rfl)
      refine sd E (o_ld Tryz.isAgg23 (E.ev rfl) ((f4.cell _).trans rfl)) rfl rfl rfl fun a E => ?_
      refine sd E (o_mv (E.ev rfl)) rfl rfl rfl fun a E => ?_
      obtain ⟨x8, hx3, hf1⟩ := ob_some hf1
      have f5 := (h4.trN t2).tr t3 (nt_snd rfl)
      obtain ⟨b4, p3, g3⟩ := bd_ix f5 hx3
      refine sd E (o_ixg Tryz.underlying23 Tryz.sizeOf4 g3 (E.ev rfl) (E.ev rfl)) rfl rfl rfl fun a E => ?_
      refine shN E (o_ste (u := .bool false) (q := false) Tryz.sizeOf4 f5 g3 (E.ev rfl) (E.ev rfl) (fun s => rfl)) rfl rfl ?_
      rintro _ s4 ⟨h9, t4⟩
      refine GL_nil ?_
      refine ebn ?_
      refine tgn ?_
      refine G_region ?_
      refine sd E (o_mv (E.ev rfl)) rfl rfl rfl fun a E => ?_
      refine sd E (o_bi (E.ev rfl) (E.ev rfl) rfl) rfl rfl rfl fun a E => ?_
      refine sd E (o_as (E.ev rfl)) rfl rfl rfl fun a E => ?_
      refine GL_nil ?_
      have f6 := h7.tr t4 (nt_snd rfl)
      have f7 := (f2.tr t3 (nt_snd rfl)).tr t4 (nt_snd rfl)
      have f8 := f4.tr t4 (nt_snd rfl)
      have h10 : RDiskAt k1 s4 b1 (⟨(x5.Lasts.set (Int.toNat x4) x6), x5.Read, (x5.Dirty.set (Int.toNat x4) false)⟩ : RDisk) := ⟨_, _, _, f8, f6, f7, h9⟩
      obtain rfl := Option.some.inj hf1
      have T1 : Tr (Fz κ [k1]) s s4 := (((t1.trans t2.no).trans (Tr.ft Fz.w0 t3)).trans (Tr.ft Fz.w0 t4))
      exact lpn ⟨_, _, _, rfl, rfl, T1, h10, ((E.nil.ad E rfl rfl).ad E rfl rfl)⟩
    · have hf1 := cF ht hf1
      refine G_exit ?_
      refine tge ?_
      obtain rfl := Option.some.inj hf1
      have h11 : RDiskAt k1 s1 b1 x5 := ⟨_, _, _, o1, h2, h3, h4⟩
      refine lpe fun hr => ?_
      subst hr
      refine ebk ?_
      refine ctn ?_
      exact ⟨_, _, _, hm, rfl, t1, h11, ((E.nil.ad E rfl rfl).ad E rfl rfl)⟩
  · rintro a _ ⟨x9, x10, s5, hm, rfl, t5, h12, E⟩
    dsimp only [m_45_1k] at hm
    cases hm
    have T2 : Tr (Fz κ [k1]) s s5 := t5
    exact fin0 E rfl ⟨(Tr.fin hκ T2), h12⟩

-- (*gimmal/gimmalref03.Disk).Crash
noncomputable def m_21_2k (x6 : Int) (x7 : Int) : RDisk → Option (Lo (Int × Int × RDisk) (Int × Int × RDisk)) := fun x14 => ob (gt x14.Lasts x7) fun x15 => ob (gt x14.Read x7) fun x16 => ob (gt x14.Dirty x7) fun x17 => some (.inl (IntKind.wrap .i64 (x6 + 1), IntKind.wrap .i64 (x7 + 1), (⟨x14.Lasts, (x14.Read.set (Int.toNat x7) x15), (x14.Dirty.set (Int.toNat x7) false)⟩ : RDisk)))
noncomputable def m_21_1b (x1 : List Bool) : (Int × Int × RDisk) → Option (Lo (Int × Int × RDisk) (Int × Int × RDisk)) := fun (x6, x7, x8) => bif decide (x7 < (x8.Read.length : Int)) then (ob (gt x8.Dirty x7) fun x9 => bif !x9 then (some (.inl (x6, IntKind.wrap .i64 (x7 + 1), x8))) else (ob (bif decide (x6 < (x1.length : Int)) then (ob (gt x1 x6) fun x10 => some x10) else (some false)) fun t2 => ob (bif t2 then (ob (gt x8.Read x7) fun x12 => ob (gt x8.Lasts x7) fun x13 => some (⟨(x8.Lasts.set (Int.toNat x7) x12), x8.Read, x8.Dirty⟩ : RDisk)) else (some x8)) (m_21_2k x6 x7))) else (some (.inr (x6, x7, x8)))
noncomputable def m_21_1k : (Int × Int × RDisk) → Option RDisk := fun (x18, x19, x20) => some x20
noncomputable def m_21 (X1 : RDisk) (x1 : List Bool) : Option RDisk :=
  ob (loopO (m_21_1b x1) (0, 0, X1)) (m_21_1k)
theorem ok_21 (s : St) {k1 b1 : Nat} {X1 : RDisk} {x1 : List Bool} {w1 : Value} (ho1 : RDiskAt k1 s b1 X1) (h1 : Sl kBool s w1 x1) {Y1 : RDisk} (hm : m_21 X1 x1 = some Y1) :
    Ok Tryz.prog 18 ([.pointer (some ⟨b1, 0, none⟩), w1] : List Value).toArray s fun v s' => Tr (Ws [k1]) s s' ∧ RDiskAt k1 s' b1 Y1 := by
  unfold m_21 at hm
  obtain ⟨κ, hκ⟩ := s.fresh
  have lt1 : k1 < κ := hκ _ _ ho1.tag
  refine ok_of (n := 67) _ Tryz.func18 rfl _ rfl rfl fun a E => ?_
  refine G_seq ?_
  refine G_region ?_
  refine sd E (o_as (E.ev rfl)) rfl rfl rfl fun a E => ?_
  refine GL_nil ?_
  refine tgn ?_
  refine G_seq ?_
  refine G_region ?_
  refine sd E (o_as (E.ev rfl)) rfl rfl rfl fun a E => ?_
  refine GL_nil ?_
  refine tgn ?_
  obtain ⟨r1, hl1, hm⟩ := ob_some hm
  refine G_mid1 (fun a' w' => ∃ x3 x4 x5 s', m_21_1k (x3, x4, x5) = some Y1 ∧ w' = s'.w ∧ Tr (Fz κ [k1]) s s' ∧ RDiskAt k1 s' b1 x5 ∧ En [] 67 a' [(4, .int .i64 x3), (5, .int .i64 x4), (0, .pointer (some ⟨b1, 0, none⟩)), (1, w1)]) ?_ ?_
  · refine G_block ?_
    refine G_lp hl1 (fun st a' w' => ∃ x3 x4 x5 s', st = (x3, x4, x5) ∧ w' = s'.w ∧ Tr (Fz κ [k1]) s s' ∧ RDiskAt k1 s' b1 x5 ∧ En [] 67 a' [(4, .int .i64 x3), (5, .int .i64 x4), (0, .pointer (some ⟨b1, 0, none⟩)), (1, w1)]) ⟨_, _, _, _, rfl, rfl, (Tr.refl _ _), ho1, ((((E.nil.ad E rfl rfl).ad E rfl rfl).ad E rfl rfl).ad E rfl rfl)⟩ ?_
    rintro _ a _ x ⟨x6, x7, x8, s1, rfl, rfl, t1, h2, E⟩ hf1
    dsimp only [m_21_1b] at hf1
    refine G_seq ?_
    refine G_seq ?_
    refine G_region ?_
    refine sd E (o_mv (E.ev rfl)) rfl rfl rfl fun a E => ?_
    refine sd E (o_mv (E.ev rfl)) rfl rfl rfl fun a E => ?_
    refine sd E (o_nc (E.ev rfl)) rfl rfl rfl fun a E => ?_
    obtain ⟨w2, w3, w4, o1, h3, h4, h5⟩ := h2
    refine sd E (o_fa Tryz.underlying65 rfl Tryz.sizeOf60 (E.ev rfl)) rfl rfl rfl fun a E => ?_
    refine sd E (o_ld Tryz.isAgg60 (E.ev rfl) ((o1.cell _).trans rfl)) rfl rfl rfl fun a E => ?_
    refine sd E (o_lenS (xs := x8.Read) Tryz.underlying60 (E.ev rfl) h4.isS) rfl rfl rfl fun a E => ?_
    refine sd E (o_bi (E.ev rfl) (E.ev rfl) rfl) rfl rfl rfl fun a E => ?_
    refine GL_nil ?_
    refine tgn ?_
    refine G_cond (E.ev rfl) (fun ht => ?_) (fun ht => ?_)
    · have hf1 := cT ht hf1
      refine G_skip ?_
      refine tgn ?_
      refine G_seq ?_
      refine G_block ?_
      refine G_seq ?_
      refine G_seq ?_
      refine G_region ?_
      refine sd E (o_mv (E.ev rfl)) rfl rfl rfl fun a E => ?_
      refine sd E (o_nc (E.ev rfl)) rfl rfl rfl fun a E => ?_
      refine sd E (o_fa Tryz.underlying65 rfl Tryz.sizeOf23 (E.ev rfl)) rfl rfl rfl fun a E => ?_
      refine sd E (o_ld Tryz.isAgg23 (E.ev rfl) ((o1.cell _).trans rfl)) rfl rfl rfl fun a E => ?_
      refine sd E (o_mv (E.ev rfl)) rfl rfl rfl fun a E => ?_
      obtain ⟨x9, hx1, hf1⟩ := ob_some hf1
      obtain ⟨b2, p1, g1⟩ := bd_ix h5 hx1
      refine sd E (o_ixg Tryz.underlying23 Tryz.sizeOf4 g1 (E.ev rfl) (E.ev rfl)) rfl rfl rfl fun a E => ?_
      refine sd E (o_ld Tryz.isAgg4 (E.ev rfl) (bd_cb h5 g1 hx1)) rfl rfl rfl fun a E => ?_
      refine sd E (o_not (E.ev rfl)) rfl rfl rfl fun a E => ?_
      refine GL_nil ?_
      refine tgn ?_
      refine G_cond (E.ev rfl) (fun ht => ?_) (fun ht => ?_)
      · have hf1 := cT ht hf1
        refine G_exit ?_
        refine tge ?_
        refine ebk ?_
        refine tgn ?_
        refine G_region ?_
        refine sd E (o_mv (E.ev rfl)) rfl rfl rfl fun a E => ?_
        refine sd E (o_bi (E.ev rfl) (E.ev rfl) rfl) rfl rfl rfl fun a E => ?_
        refine sd E (o_as (E.ev rfl)) rfl rfl rfl fun a E => ?_
        refine GL_nil ?_
        have h7 : RDiskAt k1 s1 b1 x8 := ⟨_, _, _, o1, h3, h4, h5⟩
        obtain rfl := Option.some.inj hf1
        exact lpn ⟨_, _, _, _, rfl, rfl, t1, h7, ((((E.nil.ad E rfl rfl).ad E rfl rfl).ad E rfl rfl).ad E rfl rfl)⟩
      · have hf1 := cF ht hf1
        refine G_skip ?_
        refine tgn ?_
        refine G_seq ?_
        refine G_seq ?_
        obtain ⟨t2, hc1, hf1⟩ := ob_some hf1
        refine G_regm (fun a' w' => ∃ s', w' = s'.w ∧ Tr No s1 s' ∧ En [] 67 a' [(32, .bool t2), (0, .pointer (some ⟨b1, 0, none⟩)), (1, w1), (4, .int .i64 x6), (5, .int .i64 x7)]) ?_ ?_
        · refine sd E (o_mv (E.ev rfl)) rfl rfl rfl fun a E => ?_
          refine sd E (o_mv (E.ev rfl)) rfl rfl rfl fun a E => ?_
          have f1 := h1.tr t1
          refine sd E (o_lenS (xs := x1) Tryz.underlying23 (E.ev rfl) f1.isS) rfl rfl rfl fun a E => ?_
          refine sd E (o_bi (E.ev rfl) (E.ev rfl) rfl) rfl rfl rfl fun a E => ?_
          refine sd E (o_mv (E.ev rfl)) rfl rfl rfl fun a E => ?_
          refine bcase (E.ev (x := .tmp 27) rfl) (fun ht => ?_) (fun ht => ?_)
          · have hc1 := cT ht hc1
            rw [ht] at E
            refine sd E (o_mv (E.ev rfl)) rfl rfl rfl fun a E => ?_
            refine sd E (o_mv (E.ev rfl)) rfl rfl rfl fun a E => ?_
            obtain ⟨x10, hx2, hc1⟩ := ob_some hc1
            obtain ⟨b3, p2, g2, h8⟩ := f1.gt hx2
            refine sd E (o_ixg Tryz.underlying23 Tryz.sizeOf4 g2 (E.ev rfl) (E.ev rfl)) rfl rfl rfl fun a E => ?_
            refine sd E (o_ld Tryz.isAgg4 (E.ev rfl) h8.cellB) rfl rfl rfl fun a E => ?_
            refine sd E (o_pickT (E.ev rfl) (E.ev rfl)) rfl rfl rfl fun a E => ?_
            obtain rfl := Option.some.inj hc1
            exact GL_nil ⟨_, rfl, (Tr.refl _ _), (((((E.nil.ad E rfl rfl).ad E rfl rfl).ad E rfl rfl).ad E rfl rfl).ad E rfl rfl)⟩
          · have hc1 := cF ht hc1
            rw [ht] at E
            refine sk E rfl rfl rfl fun a E => ?_
            refine sk E rfl rfl rfl fun a E => ?_
            refine sk E rfl rfl rfl fun a E => ?_
            refine sk E rfl rfl rfl fun a E => ?_
            refine sd E (o_pickF (E.ev rfl) (E.ev rfl)) rfl rfl rfl fun a E => ?_
            obtain rfl := Option.some.inj hc1
            exact GL_nil ⟨_, rfl, (Tr.refl _ _), (((((E.nil.ad E rfl rfl).ad E rfl rfl).ad E rfl rfl).ad E rfl rfl).ad E rfl rfl)⟩
        rintro a _ ⟨s2, rfl, t3, E⟩
        refine tgn ?_
        have f2 := h3.trN t3
        have f3 := h4.trN t3
        have f4 := h5.trN t3
        have f5 := o1.trN t3
        have h9 : RDiskAt k1 s2 b1 x8 := ⟨_, _, _, f5, f2, f3, f4⟩
        obtain ⟨r2, hl2, hf1⟩ := ob_some hf1
        refine G_mid1 (fun a' w' => ∃ x11 s', m_21_2k x6 x7 x11 = some x ∧ w' = s'.w ∧ Tr (Fz κ [k1]) s2 s' ∧ RDiskAt k1 s' b1 x11 ∧ En [] 67 a' [(0, .pointer (some ⟨b1, 0, none⟩)), (1, w1), (4, .int .i64 x6), (5, .int .i64 x7)]) ?_ ?_
        · refine G_cond (E.ev rfl) (fun ht => ?_) (fun ht => ?_)
          · have hl2 := cT ht hl2
            refine G_drw (κ + 1) (by rfl) [0, 1, 2, 3, 4, 5, 6, 7, 8, 9, 10, 11, 12, 13] (by kernel_rfl) ?_
            intro s3 t4
            refine dp E rfl (fun w => (o_mv (E.ev rfl))) rfl rfl rfl fun a E => ?_
            refine dp E rfl (fun w => (o_nc (E.ev rfl))) rfl rfl rfl fun a E => ?_
            have f6 := h9.trN t4
            obtain ⟨w5, w6, w7, o2, h10, h11, h12⟩ := f6
            refine dp E rfl (fun w => (o_fa Tryz.underlying65 rfl Tryz.sizeOf60 (E.ev rfl))) rfl rfl rfl fun a E => ?_
            refine dr E rfl (fun s' t => (o_ld Tryz.isAgg60 (E.ev rfl) (((o2.trN t).cell _).trans rfl))) rfl rfl rfl (by kernel_rfl) fun a E => ?_
            refine dp E rfl (fun w => (o_mv (E.ev rfl))) rfl rfl rfl fun a E => ?_
            refine dp E rfl (fun w => (o_mv (E.ev rfl))) rfl rfl rfl fun a E => ?_
            refine dp E rfl (fun w => (o_nc (E.ev rfl))) rfl rfl rfl fun a E => ?_
            refine dp E rfl (fun w => (o_fa Tryz.underlying65 rfl Tryz.sizeOf60 (E.ev rfl))) rfl rfl rfl fun a E => ?_
            refine dr E rfl (fun s' t => (o_ld Tryz.isAgg60 (E.ev rfl) (((o2.trN t).cell _).trans rfl))) rfl rfl rfl (by kernel_rfl) fun a E => ?_
            refine dp E rfl (fun w => (o_mv (E.ev rfl))) rfl rfl rfl fun a E => ?_
            obtain ⟨x12, hx3, hl2⟩ := ob_some hl2
            obtain ⟨b4, p3, g3⟩ := bd_ix h11 hx3
            refine dp E rfl (fun w => (o_ixg Tryz.underlying60 Tryz.sizeOf40 g3 (E.ev rfl) (E.ev rfl))) rfl rfl rfl fun a E => ?_
            refine dr E rfl (fun s' t => (o_ldB Tryz.isAgg40 Tryz.sizeOf40 (E.ev rfl) (h11.trN t) g3 hx3)) rfl rfl rfl (by kernel_rfl) fun a E => ?_
            obtain ⟨x13, hx4, hl2⟩ := ob_some hl2
            obtain ⟨b5, p4, g4⟩ := bd_ix h10 hx4
            refine dp E rfl (fun w => (o_ixg Tryz.underlying60 Tryz.sizeOf40 g4 (E.ev rfl) (E.ev rfl))) rfl rfl rfl fun a E => ?_
            refine dlN E rfl (o_ste (u := eA .u64 x12) (q := x12) Tryz.sizeOf40 h10 g4 (E.ev rfl) (E.ev rfl) (fun s => ⟨(bd_len8 h11 hx3), rfl⟩)) rfl rfl (by kernel_rfl) ?_
            rintro _ s4 ⟨h15, t5⟩
            refine gd_nil ?_
            refine ctn ?_
            have f7 := h11.tr t5 (nt_snd rfl)
            have f8 := h12.tr t5 (nt_snd rfl)
            have f9 := o2.tr t5 (nt_snd rfl)
            have h16 : RDiskAt k1 s4 b1 (⟨(x8.Lasts.set (Int.toNat x7) x12), x8.Read, x8.Dirty⟩ : RDisk) := ⟨_, _, _, f9, h15, f7, f8⟩
            cases hl2
            have T1 : Tr (Fz κ [k1]) s2 s4 := (t4.no.trans (Tr.ft Fz.w0 t5))
            exact ⟨_, _, hf1, rfl, T1, h16, ((((E.nil.ad E rfl rfl).ad E rfl rfl).ad E rfl rfl).ad E rfl rfl)⟩
          · have hl2 := cF ht hl2
            refine G_skip ?_
            refine ctn ?_
            cases hl2
            exact ⟨_, _, hf1, rfl, (Tr.refl _ _), h9, ((((E.nil.ad E rfl rfl).ad E rfl rfl).ad E rfl rfl).ad E rfl rfl)⟩
        · rintro a _ ⟨x14, s5, hf1, rfl, t6, h17, E⟩
          dsimp only [m_21_2k] at hf1
          refine tgn ?_
          refine G_seq ?_
          refine G_region ?_
          refine sd E (o_mv (E.ev rfl)) rfl rfl rfl fun a E => ?_
          refine sd E (o_bi (E.ev rfl) (E.ev rfl) rfl) rfl rfl rfl fun a E => ?_
          refine sd E (o_as (E.ev rfl)) rfl rfl rfl fun a E => ?_
          refine GL_nil ?_
          refine tgn ?_
          refine G_seq ?_
          refine G_drw (κ + 2) (by rfl) [0, 1, 2, 3, 4, 5, 6, 7, 8, 9, 10, 11, 12, 13] (by kernel_rfl) ?_
          intro s6 t7
          refine dp E rfl (fun w => (o_mv (E.ev rfl))) rfl rfl rfl fun a E => ?_
          refine dp E rfl (fun w => (o_nc (E.ev rfl))) rfl rfl rfl fun a E => ?_
          have f10 := h17.trN t7
          obtain ⟨w8, w9, w10, o3, h18, h19, h20⟩ := f10
          refine dp E rfl (fun w => (o_fa Tryz.underlying65 rfl Tryz.sizeOf60 (E.ev rfl))) rfl rfl rfl fun a E => ?_
          refine dr E rfl (fun s' t => (o_ld Tryz.isAgg60 (E.ev rfl) (((o3.trN t).cell _).trans rfl))) rfl rfl rfl (by kernel_rfl) fun a E => ?_
          refine dp E rfl (fun w => (o_mv (E.ev rfl))) rfl rfl rfl fun a E => ?_
          refine dp E rfl (fun w => (o_mv (E.ev rfl))) rfl rfl rfl fun a E => ?_
          refine dp E rfl (fun w => (o_nc (E.ev rfl))) rfl rfl rfl fun a E => ?_
          refine dp E rfl (fun w => (o_fa Tryz.underlying65 rfl Tryz.sizeOf60 (E.ev rfl))) rfl rfl rfl fun a E => ?_
          refine dr E rfl (fun s' t => (o_ld Tryz.isAgg60 (E.ev rfl) (((o3.trN t).cell _).trans rfl))) rfl rfl rfl (by kernel_rfl) fun a E => ?_
          refine dp E rfl (fun w => (o_mv (E.ev rfl))) rfl rfl rfl fun a E => ?_
          obtain ⟨x15, hx5, hf1⟩ := ob_some hf1
          obtain ⟨b6, p5, g5⟩ := bd_ix h18 hx5
          refine dp E rfl (fun w => (o_ixg Tryz.underlying60 Tryz.sizeOf40 g5 (E.ev rfl) (E.ev rfl))) rfl rfl rfl fun a E => ?_
          refine dr E rfl (fun s' t => (o_ldB Tryz.isAgg40 Tryz.sizeOf40 (E.ev rfl) (h18.trN t) g5 hx5)) rfl rfl rfl (by kernel_rfl) fun a E => ?_
          obtain ⟨x16, hx6, hf1⟩ := ob_some hf1
          obtain ⟨b7, p6, g6⟩ := bd_ix h19 hx6
          refine dp E rfl (fun w => (o_ixg Tryz.underlying60 Tryz.sizeOf40 g6 (E.ev rfl) (E.ev rfl))) rfl rfl rfl fun a E => ?_
          refine dlN E rfl (o_ste (u := eA .u64 x15) (q := x15) Tryz.sizeOf40 h19 g6 (E.ev rfl) (E.ev rfl) (fun s => ⟨(bd_len8 h18 hx5), rfl⟩)) rfl rfl (by kernel_rfl) ?_
          rintro _ s7 ⟨h23, t8⟩
          refine gd_nil ?_
          refine tgn ?_
          refine G_region ?_
          refine sd E (o_mv (E.ev rfl)) rfl rfl rfl fun a E => ?_
          refine sd E (o_nc (E.ev rfl)) rfl rfl rfl fun a E => ?_
          refine sd E (o_fa Tryz.underlying65 rfl Tryz.sizeOf23 (E.ev rfl)) rfl rfl rfl fun a E => ?_
          have f11 := o3.tr t8 (nt_snd rfl)
          refine sd E (o_ld Tryz.isAgg23 (E.ev rfl) ((f11.cell _).trans rfl)) rfl rfl rfl fun a E => ?_
          refine sd E (o_mv (E.ev rfl)) rfl rfl rfl fun a E => ?_
          obtain ⟨x17, hx7, hf1⟩ := ob_some hf1
          have f12 := h20.tr t8 (nt_snd rfl)
          obtain ⟨b8, p7, g7⟩ := bd_ix f12 hx7
          refine sd E (o_ixg Tryz.underlying23 Tryz.sizeOf4 g7 (E.ev rfl) (E.ev rfl)) rfl rfl rfl fun a E => ?_
          refine shN E (o_ste (u := .bool false) (q := false) Tryz.sizeOf4 f12 g7 (E.ev rfl) (E.ev rfl) (fun s => rfl)) rfl rfl ?_
          rintro _ s8 ⟨h25, t9⟩
          refine GL_nil ?_
          refine ebn ?_
          refine tgn ?_
          refine G_region ?_
          refine sd E (o_mv (E.ev rfl)) rfl rfl rfl fun a E => ?_
          refine sd E (o_bi (E.ev rfl) (E.ev rfl) rfl) rfl rfl rfl fun a E => ?_
          refine sd E (o_as (E.ev rfl)) rfl rfl rfl fun a E => ?_
          refine GL_nil ?_
          have f13 := (h18.tr t8 (nt_snd rfl)).tr t9 (nt_snd rfl)
          have f14 := h23.tr t9 (nt_snd rfl)
          have f15 := f11.tr t9 (nt_snd rfl)
          have h26 : RDiskAt k1 s8 b1 (⟨x14.Lasts, (x14.Read.set (Int.toNat x7) x15), (x14.Dirty.set (Int.toNat x7) false)⟩ : RDisk) := ⟨_, _, _, f15, f13, f14, h25⟩
          obtain rfl := Option.some.inj hf1
          have T2 : Tr (Fz κ [k1]) s s8 := (((((t1.trans t3.no).trans t6).trans t7.no).trans (Tr.ft Fz.w0 t8)).trans (Tr.ft Fz.w0 t9))
          exact lpn ⟨_, _, _, _, rfl, rfl, T2, h26, ((((E.nil.ad E rfl rfl).ad E rfl rfl).ad E rfl rfl).ad E rfl rfl)⟩
    · have hf1 := cF ht hf1
      refine G_exit ?_
      refine tge ?_
      obtain rfl := Option.some.inj hf1
      have h27 : RDiskAt k1 s1 b1 x8 := ⟨_, _, _, o1, h3, h4, h5⟩
      refine lpe fun hr => ?_
      subst hr
      refine ebk ?_
      refine ctn ?_
      exact ⟨_, _, _, _, hm, rfl, t1, h27, ((((E.nil.ad E rfl rfl).ad E rfl rfl).ad E rfl rfl).ad E rfl rfl)⟩
  · rintro a _ ⟨x18, x19, x20, s9, hm, rfl, t10, h28, E⟩
    dsimp only [m_21_1k] at hm
    cases hm
    have T3 : Tr (Fz κ [k1]) s s9 := t10
    exact fin0 E rfl ⟨(Tr.fin hκ T3), h28⟩

-- gimmal/gimmalref08.Words
noncomputable def m_43_2b (X1 : RDisk) (x1 : Int) (x7 : Int) : ((List Int) × Int) → Option (Lo ((List Int) × Int) ((List Int) × Int)) := fun (x10, x11) => bif decide (x11 < 8) then (ob (gt X1.Read (IntKind.wrap .i64 (x1 + x7))) fun x12 => ob (gd (decide (0 ≤ x11) && decide (x11 < 8)) (some ())) fun x13 => ob (gt x12 x11) fun x14 => ob (ap x10 [x14]) fun x15 => some (.inl (x15, IntKind.wrap .i64 (x11 + 1)))) else (some (.inr (x10, x11)))
noncomputable def m_43_2k (x7 : Int) : ((List Int) × Int) → Option (Lo ((List Int) × Int) ((List Int) × Int)) := fun (x16, x17) => some (.inl (x16, IntKind.wrap .i64 (x7 + 1)))
noncomputable def m_43_1b (X1 : RDisk) (x1 : Int) (x2 : Int) : ((List Int) × Int) → Option (Lo ((List Int) × Int) ((List Int) × Int)) := fun (x6, x7) => bif decide (x7 < x2) then (ob (loopO (m_43_2b X1 x1 x7) (x6, 0)) (m_43_2k x7)) else (some (.inr (x6, x7)))
noncomputable def m_43_1k : ((List Int) × Int) → Option (List Int) := fun (x18, x19) => some x18
noncomputable def m_43 (X1 : RDisk) (x1 : Int) (x2 : Int) : Option (List Int) :=
  ob (loopO (m_43_1b X1 x1 x2) ([], 0)) (m_43_1k)
theorem ok_43 (s : St) {k1 b1 : Nat} {X1 : RDisk} {x1 : Int} {x2 : Int} (ho1 : RDiskAt k1 s b1 X1) {r0y : List Int} (hm : m_43 X1 x1 x2 = some r0y) :
    Ok Tryz.prog 29 ([.pointer (some ⟨b1, 0, none⟩), .int .i64 x1, .int .i64 x2] : List Value).toArray s fun v s' => Tr No s s' ∧ ∃ w1, v = w1 ∧ Sl kU s' w1 r0y := by
  unfold m_43 at hm
  obtain ⟨κ, hκ⟩ := s.fresh
  have lt1 : k1 < κ := hκ _ _ ho1.tag
  refine ok_of (n := 34) _ Tryz.func29 rfl _ rfl rfl fun a E => ?_
  refine G_seq ?_
  refine G_region ?_
  refine sd E (o_as (E.ev rfl)) rfl rfl rfl fun a E => ?_
  refine GL_nil ?_
  refine tgn ?_
  refine G_seq ?_
  refine G_region ?_
  refine sd E (o_as (E.ev rfl)) rfl rfl rfl fun a E => ?_
  refine GL_nil ?_
  refine tgn ?_
  refine G_seq ?_
  refine G_seq ?_
  refine G_region ?_
  refine sd E (o_as (E.ev rfl)) rfl rfl rfl fun a E => ?_
  refine GL_nil ?_
  refine tgn ?_
  obtain ⟨r1, hl1, hm⟩ := ob_some hm
  refine G_mid1 (fun a' w' => ∃ x4 x5 s' w2, m_43_1k (x4, x5) = some r0y ∧ w' = s'.w ∧ Tr (Fz κ []) s s' ∧ Bd ((κ + 0), 1001) kU 39 0 s' w2 x4 ∧ En [] 34 a' [(7, w2), (8, .int .i64 x5), (0, .pointer (some ⟨b1, 0, none⟩)), (1, .int .i64 x1), (2, .int .i64 x2), (6, (.slice none 0 0))]) ?_ ?_
  · refine G_block ?_
    refine G_lp hl1 (fun st a' w' => ∃ x4 x5 s' w2, st = (x4, x5) ∧ w' = s'.w ∧ Tr (Fz κ []) s s' ∧ Bd ((κ + 0), 1001) kU 39 0 s' w2 x4 ∧ En [] 34 a' [(7, w2), (8, .int .i64 x5), (0, .pointer (some ⟨b1, 0, none⟩)), (1, .int .i64 x1), (2, .int .i64 x2), (6, (.slice none 0 0))]) ⟨_, _, _, _, rfl, rfl, (Tr.refl _ _), Bd.nil, ((((((E.nil.ad E rfl rfl).ad E rfl rfl).ad E rfl rfl).ad E rfl rfl).ad E rfl rfl).ad E rfl rfl)⟩ ?_
    rintro _ a _ x ⟨x6, x7, s1, w3, rfl, rfl, t1, h1, E⟩ hf1
    dsimp only [m_43_1b] at hf1
    refine G_seq ?_
    refine G_seq ?_
    refine G_region ?_
    refine sd E (o_mv (E.ev rfl)) rfl rfl rfl fun a E => ?_
    refine sd E (o_mv (E.ev rfl)) rfl rfl rfl fun a E => ?_
    refine sd E (o_bi (E.ev rfl) (E.ev rfl) rfl) rfl rfl rfl fun a E => ?_
    refine GL_nil ?_
    refine tgn ?_
    refine G_cond (E.ev rfl) (fun ht => ?_) (fun ht => ?_)
    · have hf1 := cT ht hf1
      refine G_skip ?_
      refine tgn ?_
      refine G_seq ?_
      refine G_block ?_
      refine G_seq ?_
      refine G_region ?_
      refine sd E (o_as (E.ev rfl)) rfl rfl rfl fun a E => ?_
      refine GL_nil ?_
      refine tgn ?_
      obtain ⟨r2, hl2, hf1⟩ := ob_some hf1
      refine G_mid1 (fun a' w' => ∃ x8 x9 s' w4, m_43_2k x7 (x8, x9) = some x ∧ w' = s'.w ∧ Tr (Fz κ []) s1 s' ∧ Bd ((κ + 0), 1001) kU 39 0 s' w4 x8 ∧ En [] 34 a' [(7, w4), (9, .int .i64 x9), (0, .pointer (some ⟨b1, 0, none⟩)), (1, .int .i64 x1), (2, .int .i64 x2), (6, (.slice none 0 0)), (8, .int .i64 x7)]) ?_ ?_
      · refine G_block ?_
        refine G_lp hl2 (fun st a' w' => ∃ x8 x9 s' w4, st = (x8, x9) ∧ w' = s'.w ∧ Tr (Fz κ []) s1 s' ∧ Bd ((κ + 0), 1001) kU 39 0 s' w4 x8 ∧ En [] 34 a' [(7, w4), (9, .int .i64 x9), (0, .pointer (some ⟨b1, 0, none⟩)), (1, .int .i64 x1), (2, .int .i64 x2), (6, (.slice none 0 0)), (8, .int .i64 x7)]) ⟨_, _, _, _, rfl, rfl, (Tr.refl _ _), h1, (((((((E.nil.ad E rfl rfl).ad E rfl rfl).ad E rfl rfl).ad E rfl rfl).ad E rfl rfl).ad E rfl rfl).ad E rfl rfl)⟩ ?_
        rintro _ a _ x ⟨x10, x11, s2, w5, rfl, rfl, t2, h2, E⟩ hf2
        dsimp only [m_43_2b] at hf2
        refine G_seq ?_
        refine G_seq ?_
        refine G_region ?_
        refine sd E (o_mv (E.ev rfl)) rfl rfl rfl fun a E => ?_
        refine sd E (o_bi (E.ev rfl) (E.ev rfl) rfl) rfl rfl rfl fun a E => ?_
        refine GL_nil ?_
        refine tgn ?_
        refine G_cond (E.ev rfl) (fun ht => ?_) (fun ht => ?_)
        · have hf2 := cT ht hf2
          refine G_skip ?_
          refine tgn ?_
          refine G_seq ?_
          refine G_block ?_
          refine G_region ?_
          refine sd E (o_mv (E.ev rfl)) rfl rfl rfl fun a E => ?_
          refine sd E (o_mv (E.ev rfl)) rfl rfl rfl fun a E => ?_
          refine sd E (o_nc (E.ev rfl)) rfl rfl rfl fun a E => ?_
          have f1 := (ho1.tr t1 (fun i => (nZ0 lt1))).tr t2 (fun i => (nZ0 lt1))
          obtain ⟨w6, w7, w8, o1, h3, h4, h5⟩ := f1
          refine sd E (o_fa Tryz.underlying65 rfl Tryz.sizeOf60 (E.ev rfl)) rfl rfl rfl fun a E => ?_
          refine sd E (o_ld Tryz.isAgg60 (E.ev rfl) ((o1.cell _).trans rfl)) rfl rfl rfl fun a E => ?_
          refine sd E (o_mv (E.ev rfl)) rfl rfl rfl fun a E => ?_
          refine sd E (o_mv (E.ev rfl)) rfl rfl rfl fun a E => ?_
          refine sd E (o_bi (E.ev rfl) (E.ev rfl) rfl) rfl rfl rfl fun a E => ?_
          refine sd E (o_mv (E.ev rfl)) rfl rfl rfl fun a E => ?_
          obtain ⟨x12, hx1, hf2⟩ := ob_some hf2
          obtain ⟨b2, p1, g1⟩ := bd_ix h4 hx1
          refine sd E (o_ixg Tryz.underlying60 Tryz.sizeOf40 g1 (E.ev rfl) (E.ev rfl)) rfl rfl rfl fun a E => ?_
          obtain ⟨x13, hx2, hf2⟩ := ob_some hf2
          refine sd E (o_ixo Tryz.underlying40 Tryz.sizeOf39 (E.ev rfl) (E.ev rfl) (ix_some hx2).1 (ix_some hx2).2) rfl rfl rfl fun a E => ?_
          obtain ⟨x14, hx3, hf2⟩ := ob_some hf2
          refine sd E (o_ld Tryz.isAgg39 (E.ev rfl) (bd_ca1 h4 g1 hx1 hx3)) rfl rfl rfl fun a E => ?_
          refine sh E (o_bs Tryz.underlying36 Tryz.sizeOf39 Tryz.zeroValue39 (qs := #[(0, .int .u64 x14)]) (cells := #[.int .u64 x14]) (by simp only [List.map_toArray, List.map_cons, List.map_nil, E.ev (x := .tmp 30) (v := .int .u64 x14) rfl]) rfl rfl (by kernel_rfl)) rfl rfl rfl ?_
          rintro a _ s3 ⟨b3, rfl, h7, t3⟩ E
          have h8 := h7.sl (K := kU) (xs := [x14]) ⟨_, _, rfl, rfl, rfl⟩ rfl
          obtain ⟨x15, hx4, hf2⟩ := ob_some hf2
          obtain ⟨hx4, hz1⟩ := ap_some hx4
          have f2 := h2.trN t3
          refine sh E (o_app Tryz.underlying36 Tryz.type39 rfl rfl rfl rfl rfl rfl f2 h8.rd (E.ev rfl) (E.ev rfl) hx4 (Nat.zero_le _)) rfl rfl rfl ?_
          rintro a w9 s4 ⟨h9, t4⟩ E
          rw [hz1] at h9
          refine sd E (o_as (E.ev rfl)) rfl rfl rfl fun a E => ?_
          refine GL_nil ?_
          refine ebn ?_
          refine tgn ?_
          refine G_region ?_
          refine sd E (o_mv (E.ev rfl)) rfl rfl rfl fun a E => ?_
          refine sd E (o_bi (E.ev rfl) (E.ev rfl) rfl) rfl rfl rfl fun a E => ?_
          refine sd E (o_as (E.ev rfl)) rfl rfl rfl fun a E => ?_
          refine GL_nil ?_
          have f3 := (h3.trN t3).tr t4 (nt_fst (rb lt1))
          have f4 := (h4.trN t3).tr t4 (nt_fst (rb lt1))
          have f5 := (h5.trN t3).tr t4 (nt_fst (rb lt1))
          have f6 := (o1.trN t3).tr t4 (nt_fst (rb lt1))
          have h10 : RDiskAt k1 s4 b1 X1 := ⟨_, _, _, f6, f3, f4, f5⟩
          obtain rfl := Option.some.inj hf2
          have T1 : Tr (Fz κ []) s1 s4 := ((t2.trans t3.no).trans (Tr.ft Fz.f t4))
          exact lpn ⟨_, _, _, _, rfl, rfl, T1, h9, (((((((E.nil.ad E rfl rfl).ad E rfl rfl).ad E rfl rfl).ad E rfl rfl).ad E rfl rfl).ad E rfl rfl).ad E rfl rfl)⟩
        · have hf2 := cF ht hf2
          refine G_exit ?_
          refine tge ?_
          obtain rfl := Option.some.inj hf2
          refine lpe fun hr => ?_
          subst hr
          refine ebk ?_
          refine ctn ?_
          exact ⟨_, _, _, _, hf1, rfl, t2, h2, (((((((E.nil.ad E rfl rfl).ad E rfl rfl).ad E rfl rfl).ad E rfl rfl).ad E rfl rfl).ad E rfl rfl).ad E rfl rfl)⟩
      · rintro a _ ⟨x16, x17, s5, w10, hf1, rfl, t5, h11, E⟩
        dsimp only [m_43_2k] at hf1
        refine ebn ?_
        refine tgn ?_
        refine G_region ?_
        refine sd E (o_mv (E.ev rfl)) rfl rfl rfl fun a E => ?_
        refine sd E (o_bi (E.ev rfl) (E.ev rfl) rfl) rfl rfl rfl fun a E => ?_
        refine sd E (o_as (E.ev rfl)) rfl rfl rfl fun a E => ?_
        refine GL_nil ?_
        obtain rfl := Option.some.inj hf1
        have T2 : Tr (Fz κ []) s s5 := (t1.trans t5)
        exact lpn ⟨_, _, _, _, rfl, rfl, T2, h11, ((((((E.nil.ad E rfl rfl).ad E rfl rfl).ad E rfl rfl).ad E rfl rfl).ad E rfl rfl).ad E rfl rfl)⟩
    · have hf1 := cF ht hf1
      refine G_exit ?_
      refine tge ?_
      obtain rfl := Option.some.inj hf1
      refine lpe fun hr => ?_
      subst hr
      refine ebk ?_
      refine ctn ?_
      exact ⟨_, _, _, _, hm, rfl, t1, h1, ((((((E.nil.ad E rfl rfl).ad E rfl rfl).ad E rfl rfl).ad E rfl rfl).ad E rfl rfl).ad E rfl rfl)⟩
  · rintro a _ ⟨x18, x19, s6, w11, hm, rfl, t6, h12, E⟩
    dsimp only [m_43_1k] at hm
    refine tgn ?_
    refine G_seq ?_
    refine G_region ?_
    refine sd E (o_mv (E.ev rfl)) rfl rfl rfl fun a E => ?_
    refine sd E (o_as (E.ev rfl)) rfl rfl rfl fun a E => ?_
    refine GL_nil ?_
    refine tgn ?_
    refine G_ret ?_
    cases hm
    obtain ⟨s7, e1, h13, t7⟩ := h12.fz
    rw [e1]
    have T3 : Tr (Fz κ []) s s7 := (t6.trans (Tr.ft Fz.f t7))
    exact fin1 E rfl rfl ⟨(Tr.fin0 hκ T3), _, rfl, h13⟩

-- (*gimmal/gimmalref08.Log).Used
noncomputable def m_47_1b (X1 : RLog) : (Int × Int) → Option (Lo (Int × Int) (Int × Int)) := fun (x4, x5) => bif decide (x5 < (X1.L.length : Int)) then (ob (gt X1.L x5) fun x6 => some (.inl (IntKind.wrap .i64 ((IntKind.wrap .i64 (x4 + 1)) + (x6.Words.length : Int)), IntKind.wrap .i64 (x5 + 1)))) else (some (.inr (x4, x5)))
noncomputable def m_47_1k : (Int × Int) → Option Int := fun (x7, x8) => some x7
noncomputable def m_47 (X1 : RLog) : Option Int :=
  ob (loopO (m_47_1b X1) (0, 0)) (m_47_1k)
theorem ok_47 (s : St) {k1 b1 : Nat} {X1 : RLog} {d1D : Nat} (ho1 : RLogAt k1 d1D s b1 X1) {r0y : Int} (hm : m_47 X1 = some r0y) :
    Ok Tryz.prog 43 ([.pointer (some ⟨b1, 0, none⟩)] : List Value).toArray s fun v s' => Tr No s s' ∧ v = .int .i64 r0y := by
  unfold m_47 at hm
  obtain ⟨κ, hκ⟩ := s.fresh
  have lt1 : k1 < κ := hκ _ _ ho1.tag
  refine ok_of (n := 27) _ Tryz.func43 rfl _ rfl rfl fun a E => ?_
  refine G_seq ?_
  refine G_region ?_
  refine sd E (o_as (E.ev rfl)) rfl rfl rfl fun a E => ?_
  refine GL_nil ?_
  refine tgn ?_
  refine G_seq ?_
  refine G_region ?_
  refine sd E (o_as (E.ev rfl)) rfl rfl rfl fun a E => ?_
  refine GL_nil ?_
  refine tgn ?_
  refine G_seq ?_
  refine G_seq ?_
  refine G_region ?_
  refine sd E (o_as (E.ev rfl)) rfl rfl rfl fun a E => ?_
  refine GL_nil ?_
  refine tgn ?_
  obtain ⟨r1, hl1, hm⟩ := ob_some hm
  refine G_mid1 (fun a' w' => ∃ x2 x3 s', m_47_1k (x2, x3) = some r0y ∧ w' = s'.w ∧ Tr (Fz κ []) s s' ∧ En [] 27 a' [(3, .int .i64 x2), (4, .int .i64 x3), (0, .pointer (some ⟨b1, 0, none⟩)), (2, .int .i64 0)]) ?_ ?_
  · refine G_block ?_
    refine G_lp hl1 (fun st a' w' => ∃ x2 x3 s', st = (x2, x3) ∧ w' = s'.w ∧ Tr (Fz κ []) s s' ∧ En [] 27 a' [(3, .int .i64 x2), (4, .int .i64 x3), (0, .pointer (some ⟨b1, 0, none⟩)), (2, .int .i64 0)]) ⟨_, _, _, rfl, rfl, (Tr.refl _ _), ((((E.nil.ad E rfl rfl).ad E rfl rfl).ad E rfl rfl).ad E rfl rfl)⟩ ?_
    rintro _ a _ x ⟨x4, x5, s1, rfl, rfl, t1, E⟩ hf1
    dsimp only [m_47_1b] at hf1
    refine G_seq ?_
    refine G_seq ?_
    refine G_region ?_
    refine sd E (o_mv (E.ev rfl)) rfl rfl rfl fun a E => ?_
    refine sd E (o_mv (E.ev rfl)) rfl rfl rfl fun a E => ?_
    refine sd E (o_nc (E.ev rfl)) rfl rfl rfl fun a E => ?_
    have f1 := ho1.tr t1 (fun i => (nZ0 lt1))
    obtain ⟨w1, o1, h1⟩ := f1
    refine sd E (o_fa Tryz.underlying79 rfl Tryz.sizeOf43 (E.ev rfl)) rfl rfl rfl fun a E => ?_
    refine sd E (o_ld Tryz.isAgg43 (E.ev rfl) ((o1.cell _).trans rfl)) rfl rfl rfl fun a E => ?_
    refine sd E (o_lenS (xs := X1.L) Tryz.underlying43 (E.ev rfl) h1.isS) rfl rfl rfl fun a E => ?_
    refine sd E (o_bi (E.ev rfl) (E.ev rfl) rfl) rfl rfl rfl fun a E => ?_
    refine GL_nil ?_
    refine tgn ?_
    refine G_cond (E.ev rfl) (fun ht => ?_) (fun ht => ?_)
    · have hf1 := cT ht hf1
      refine G_skip ?_
      refine tgn ?_
      refine G_seq ?_
      refine G_block ?_
      refine G_region ?_
      refine sd E (o_mv (E.ev rfl)) rfl rfl rfl fun a E => ?_
      refine sd E (o_bi (E.ev rfl) (E.ev rfl) rfl) rfl rfl rfl fun a E => ?_
      refine sd E (o_mv (E.ev rfl)) rfl rfl rfl fun a E => ?_
      refine sd E (o_nc (E.ev rfl)) rfl rfl rfl fun a E => ?_
      refine sd E (o_fa Tryz.underlying79 rfl Tryz.sizeOf43 (E.ev rfl)) rfl rfl rfl fun a E => ?_
      refine sd E (o_ld Tryz.isAgg43 (E.ev rfl) ((o1.cell _).trans rfl)) rfl rfl rfl fun a E => ?_
      refine sd E (o_mv (E.ev rfl)) rfl rfl rfl fun a E => ?_
      obtain ⟨x6, hx1, hf1⟩ := ob_some hf1
      obtain ⟨b2, p1, g1, h2⟩ := h1.gt hx1
      refine sd E (o_ixg Tryz.underlying43 Tryz.sizeOf38 g1 (E.ev rfl) (E.ev rfl)) rfl rfl rfl fun a E => ?_
      refine sd E (o_fa Tryz.underlying38 rfl Tryz.sizeOf36 (E.ev rfl)) rfl rfl rfl fun a E => ?_
      obtain ⟨w2, e1, e2, h3⟩ := h2.fr
      refine sd E (o_ld Tryz.isAgg36 (E.ev rfl) e2) rfl rfl rfl fun a E => ?_
      refine sd E (o_lenS (xs := x6.Words) Tryz.underlying36 (E.ev rfl) h3.isS) rfl rfl rfl fun a E => ?_
      refine sd E (o_bi (E.ev rfl) (E.ev rfl) rfl) rfl rfl rfl fun a E => ?_
      refine sd E (o_as (E.ev rfl)) rfl rfl rfl fun a E => ?_
      refine GL_nil ?_
      refine ebn ?_
      refine tgn ?_
      refine G_region ?_
      refine sd E (o_mv (E.ev rfl)) rfl rfl rfl fun a E => ?_
      refine sd E (o_bi (E.ev rfl) (E.ev rfl) rfl) rfl rfl rfl fun a E => ?_
      refine sd E (o_as (E.ev rfl)) rfl rfl rfl fun a E => ?_
      refine GL_nil ?_
      have h4 : RLogAt k1 d1D s1 b1 X1 := ⟨_, o1, h1⟩
      obtain rfl := Option.some.inj hf1
      exact lpn ⟨_, _, _, rfl, rfl, t1, ((((E.nil.ad E rfl rfl).ad E rfl rfl).ad E rfl rfl).ad E rfl rfl)⟩
    · have hf1 := cF ht hf1
      refine G_exit ?_
      refine tge ?_
      obtain rfl := Option.some.inj hf1
      have h5 : RLogAt k1 d1D s1 b1 X1 := ⟨_, o1, h1⟩
      refine lpe fun hr => ?_
      subst hr
      refine ebk ?_
      refine ctn ?_
      exact ⟨_, _, _, hm, rfl, t1, ((((E.nil.ad E rfl rfl).ad E rfl rfl).ad E rfl rfl).ad E rfl rfl)⟩
  · rintro a _ ⟨x7, x8, s2, hm, rfl, t2, E⟩
    dsimp only [m_47_1k] at hm
    refine tgn ?_
    refine G_seq ?_
    refine G_region ?_
    refine sd E (o_mv (E.ev rfl)) rfl rfl rfl fun a E => ?_
    refine sd E (o_as (E.ev rfl)) rfl rfl rfl fun a E => ?_
    refine GL_nil ?_
    refine tgn ?_
    refine G_ret ?_
    cases hm
    have T1 : Tr (Fz κ []) s s2 := t2
    exact fin1 E rfl rfl ⟨(Tr.fin0 hκ T1), rfl⟩

-- (*gimmal/gimmalref08.Log).Append
noncomputable def m_18_3k (x11 : Int) : (List Int) → Option (Lo (Int × (List Int)) (Int × (List Int))) := fun x22 => some (.inl (IntKind.wrap .i64 (x11 + 1), x22))
noncomputable def m_18_2b (X1 : RLog) (y2 : Int) (y3 : List Int) (x4 : List Frame) (x7 : Int) (x8 : RDisk) : (Int × (List Int)) → Option (Lo (Int × (List Int)) (Int × (List Int))) := fun (x11, x12) => bif decide (x11 < 8) then (ob (bif decide ((IntKind.wrap .i64 ((IntKind.wrap .i64 (8 * x7)) + x11)) < y2) then (ob (gt x8.Read (IntKind.wrap .i64 (((⟨X1.From, X1.N, X1.Epoch, x4⟩ : RLog).From) + x7))) fun x14 => ob (gd (decide (0 ≤ x11) && decide (x11 < 8)) (some ())) fun x15 => ob (gt x14 x11) fun x16 => ob (gd (decide (0 ≤ x11) && decide (x11 < 8)) (some ())) fun x17 => ob (st x12 x11 x16) fun x18 => some x18) else (bif decide ((IntKind.wrap .i64 ((IntKind.wrap .i64 (8 * x7)) + x11)) < (IntKind.wrap .i64 (y2 + (y3.length : Int)))) then (ob (gt y3 (IntKind.wrap .i64 ((IntKind.wrap .i64 ((IntKind.wrap .i64 (8 * x7)) + x11)) - y2))) fun x19 => ob (gd (decide (0 ≤ x11) && decide (x11 < 8)) (some ())) fun x20 => ob (st x12 x11 x19) fun x21 => some x21) else (some x12))) (m_18_3k x11)) else (some (.inr (x11, x12)))
noncomputable def m_18_2k (X1 : RLog) (x4 : List Frame) (x7 : Int) (x8 : RDisk) : (Int × (List Int)) → Option (Lo (Int × RDisk) (Int × RDisk)) := fun (x23, x24) => ob (m_44 x8 (IntKind.wrap .i64 (((⟨X1.From, X1.N, X1.Epoch, x4⟩ : RLog).From) + x7)) x24) fun X3 => some (.inl (IntKind.wrap .i64 (x7 + 1), X3))
noncomputable def m_18_1b (X1 : RLog) (y2 : Int) (y3 : List Int) (x4 : List Frame) : (Int × RDisk) → Option (Lo (Int × RDisk) (Int × RDisk)) := fun (x7, x8) => bif decide ((IntKind.wrap .i64 (x7 * 8)) < (IntKind.wrap .i64 (y2 + (y3.length : Int)))) then (ob (loopO (m_18_2b X1 y2 y3 x4 x7 x8) (0, (List.replicate 8 (0 : Int)))) (m_18_2k X1 x4 x7 x8)) else (some (.inr (x7, x8)))
noncomputable def m_18_1k (X1 : RLog) (x4 : List Frame) : (Int × RDisk) → Option (Int × RLog × RDisk) := fun (x25, x26) => some (0, (⟨X1.From, X1.N, X1.Epoch, x4⟩ : RLog), x26)
noncomputable def m_18 (X1 : RLog) (X2 : RDisk) (x1 : Frame) : Option (Int × RLog × RDisk) :=
  ob (m_46 x1) fun y1 => bif !y1 then (some (1, X1, X2)) else (ob (m_47 X1) fun y2 => ob (m_48 X1.Epoch (X1.L.length : Int) x1) fun y3 => bif decide ((IntKind.wrap .i64 (y2 + (y3.length : Int))) > (IntKind.wrap .i64 (8 * X1.N))) then (some (4, X1, X2)) else (ob (ap [] X1.L) fun x3 => ob (ap x3 [x1]) fun x4 => ob (loopO (m_18_1b X1 y2 y3 x4) (IntKind.wrap .i64 (Int.tdiv y2 8), X2)) (m_18_1k X1 x4)))
theorem ok_18 (s : St) {k1 b1 : Nat} {X1 : RLog} {k2 b2 : Nat} {X2 : RDisk} {x1 : Frame} {w1 : Value} (ho1 : RLogAt k1 b2 s b1 X1) (ho2 : RDiskAt k2 s b2 X2) (h1 : Sl kU s w1 x1.Words) (ne01 : k1 ≠ k2) {r0y : Int} {Y1 : RLog} {Y2 : RDisk} (hm : m_18 X1 X2 x1 = some (r0y, Y1, Y2)) :
    Ok Tryz.prog 15 ([.pointer (some ⟨b1, 0, none⟩), .agg #[.int .i64 x1.Kind, w1]] : List Value).toArray s fun v s' => Tr (Ws [k1, k2]) s s' ∧ v = .int .i64 r0y ∧ RLogAt k1 b2 s' b1 Y1 ∧ RDiskAt k2 s' b2 Y2 := by
  unfold m_18 at hm
  obtain ⟨κ, hκ⟩ := s.fresh
  have lt1 : k1 < κ := hκ _ _ ho1.tag
  have lt2 : k2 < κ := hκ _ _ ho2.tag
  refine ok_of (n := 116) _ Tryz.func15 rfl _ rfl rfl fun a E => ?_
  refine G_seq ?_
  refine G_region ?_
  obtain ⟨a1, c1, rfl⟩ := h1.isS
  refine sh E (o_box (E.ev rfl)) rfl rfl rfl ?_
  rintro a _ s1 ⟨b3, rfl, o1, t1⟩ E
  refine sd E (o_as (E.ev rfl)) rfl rfl rfl fun a E => ?_
  refine GL_nil ?_
  refine tgn ?_
  refine G_seq ?_
  refine G_seq ?_
  refine G_region ?_
  refine sd E (o_ldc (cs := #[.int .i64 x1.Kind, (.slice a1 x1.Words.length c1)]) Tryz.isAgg38 Tryz.sizeOf38 (E.ev rfl) o1.cell) rfl rfl rfl fun a E => ?_
  have f1 := h1.tr t1
  obtain ⟨y1, hx1, hm⟩ := ob_some hm
  refine sh E (o_ok Tryz.call42 (E.evs rfl) (E.ev rfl) (ok_46 _ (x0 := x1) f1 hx1)) rfl rfl rfl ?_
  rintro a _ s2 ⟨t2, rfl⟩ E
  refine sd E (o_not (E.ev rfl)) rfl rfl rfl fun a E => ?_
  refine GL_nil ?_
  refine tgn ?_
  refine G_cond (E.ev rfl) (fun ht => ?_) (fun ht => ?_)
  · have hm := cT ht hm
    refine G_seq ?_
    refine G_region ?_
    refine sd E (o_as (E.ev rfl)) rfl rfl rfl fun a E => ?_
    refine GL_nil ?_
    refine tgn ?_
    refine G_ret ?_
    refine tgr ?_
    cases hm
    have f2 := (ho1.trN t1).trN t2
    have f3 := (ho2.trN t1).trN t2
    have T1 : Tr (Fz κ [k1, k2]) s s2 := (t1.no.trans t2.no)
    exact fin1 E rfl rfl ⟨(Tr.fin hκ T1), rfl, f2, f3⟩
  · have hm := cF ht hm
    refine G_skip ?_
    refine tgn ?_
    refine G_seq ?_
    refine G_region ?_
    refine sd E (o_mv (E.ev rfl)) rfl rfl rfl fun a E => ?_
    have f4 := (ho1.trN t1).trN t2
    obtain ⟨y2, hx2, hm⟩ := ob_some hm
    refine sh E (o_ok Tryz.call43 (E.evs rfl) (E.ev rfl) (ok_47 _ f4 hx2)) rfl rfl rfl ?_
    rintro a _ s3 ⟨t3, rfl⟩ E
    refine sd E (o_as (E.ev rfl)) rfl rfl rfl fun a E => ?_
    refine GL_nil ?_
    refine tgn ?_
    refine G_seq ?_
    refine G_drw (κ + 1) (by rfl) [0, 1, 2, 3, 4, 5, 6, 7, 8, 9, 10, 11] (by kernel_rfl) ?_
    intro s4 t4
    refine dp E rfl (fun w => (o_mv (E.ev rfl))) rfl rfl rfl fun a E => ?_
    refine dp E rfl (fun w => (o_nc (E.ev rfl))) rfl rfl rfl fun a E => ?_
    have f5 := (f4.trN t3).trN t4
    obtain ⟨w2, o2, h2⟩ := f5
    refine dp E rfl (fun w => (o_fa Tryz.underlying79 rfl Tryz.sizeOf3 (E.ev rfl))) rfl rfl rfl fun a E => ?_
    refine dr E rfl (fun s' t => (o_ld Tryz.isAgg3 (E.ev rfl) (((o2.trN t).cell _).trans rfl))) rfl rfl rfl (by kernel_rfl) fun a E => ?_
    refine dp E rfl (fun w => (o_mv (E.ev rfl))) rfl rfl rfl fun a E => ?_
    refine dp E rfl (fun w => (o_nc (E.ev rfl))) rfl rfl rfl fun a E => ?_
    refine dp E rfl (fun w => (o_fa Tryz.underlying79 rfl Tryz.sizeOf43 (E.ev rfl))) rfl rfl rfl fun a E => ?_
    refine dr E rfl (fun s' t => (o_ld Tryz.isAgg43 (E.ev rfl) (((o2.trN t).cell _).trans rfl))) rfl rfl rfl (by kernel_rfl) fun a E => ?_
    refine dp E rfl (fun w => (o_lenS (xs := X1.L) Tryz.underlying43 (E.ev rfl) h2.isS)) rfl rfl rfl fun a E => ?_
    have f6 := ((o1.tr t2).tr t3).tr t4
    refine dq E rfl (fun s' t => (o_ldc (cs := #[.int .i64 x1.Kind, (.slice a1 x1.Words.length c1)]) Tryz.isAgg38 Tryz.sizeOf38 (E.ev rfl) (f6.up t).cell)) rfl rfl rfl (by kernel_rfl) fun a E => ?_
    have f7 := ((f1.tr t2).tr t3).tr t4
    obtain ⟨y3, hx3, hm⟩ := ob_some hm
    refine dh E rfl (o_ok Tryz.call38 (E.evs rfl) (E.ev rfl) (ok_48 _ (x0 := X1.Epoch) (x1 := (X1.L.length : Int)) (x2 := x1) f7 hx3)) (fun _ _ h => h.1) rfl rfl rfl (by kernel_rfl) ?_
    rintro a w3 s5 ⟨t5, _, rfl, h3⟩ E
    refine dp E rfl (fun w => (o_as (E.ev rfl))) rfl rfl rfl fun a E => ?_
    refine gd_nil ?_
    refine tgn ?_
    refine G_seq ?_
    refine G_seq ?_
    refine G_region ?_
    refine sd E (o_mv (E.ev rfl)) rfl rfl rfl fun a E => ?_
    refine sd E (o_mv (E.ev rfl)) rfl rfl rfl fun a E => ?_
    refine sd E (o_lenS (xs := y3) Tryz.underlying36 (E.ev rfl) h3.isS) rfl rfl rfl fun a E => ?_
    refine sd E (o_bi (E.ev rfl) (E.ev rfl) rfl) rfl rfl rfl fun a E => ?_
    refine sd E (o_mv (E.ev rfl)) rfl rfl rfl fun a E => ?_
    refine sd E (o_nc (E.ev rfl)) rfl rfl rfl fun a E => ?_
    refine sd E (o_fa Tryz.underlying79 rfl Tryz.sizeOf3 (E.ev rfl)) rfl rfl rfl fun a E => ?_
    have f8 := o2.trN t5
    refine sd E (o_ld Tryz.isAgg3 (E.ev rfl) ((f8.cell _).trans rfl)) rfl rfl rfl fun a E => ?_
    refine sd E (o_bi (E.ev rfl) (E.ev rfl) rfl) rfl rfl rfl fun a E => ?_
    refine sd E (o_bi (E.ev rfl) (E.ev rfl) rfl) rfl rfl rfl fun a E => ?_
    refine GL_nil ?_
    refine tgn ?_
    refine G_cond (E.ev rfl) (fun ht => ?_) (fun ht => ?_)
    · have hm := cT ht hm
      refine G_seq ?_
      refine G_region ?_
      refine sd E (o_as (E.ev rfl)) rfl rfl rfl fun a E => ?_
      refine GL_nil ?_
      refine tgn ?_
      refine G_ret ?_
      refine tgr ?_
      cases hm
      have f9 := h2.tr t5
      have h4 : RLogAt k1 b2 s5 b1 X1 := ⟨_, f8, f9⟩
      have f10 := ((((ho2.trN t1).trN t2).trN t3).trN t4).trN t5
      have T2 : Tr (Fz κ [k1, k2]) s s5 := ((((t1.no.trans t2.no).trans t3.no).trans t4.no).trans t5.no)
      exact fin1 E rfl rfl ⟨(Tr.fin hκ T2), rfl, h4, f10⟩
    · have hm := cF ht hm
      refine G_skip ?_
      refine tgn ?_
      refine G_seq ?_
      refine G_drw (κ + 2) (by rfl) [0, 2, 3, 4, 5, 7, 1, 6, 8, 9, 10, 11, 12] (by kernel_rfl) ?_
      intro s6 t6
      refine dp E rfl (fun w => (o_mv (E.ev rfl))) rfl rfl rfl fun a E => ?_
      refine dp E rfl (fun w => (o_mv (E.ev rfl))) rfl rfl rfl fun a E => ?_
      refine dp E rfl (fun w => (o_nc (E.ev rfl))) rfl rfl rfl fun a E => ?_
      refine dp E rfl (fun w => (o_fa Tryz.underlying79 rfl Tryz.sizeOf43 (E.ev rfl))) rfl rfl rfl fun a E => ?_
      have f11 := f8.trN t6
      refine dr E rfl (fun s' t => (o_ld Tryz.isAgg43 (E.ev rfl) (((f11.trN t).cell _).trans rfl))) rfl rfl rfl (by kernel_rfl) fun a E => ?_
      have f12 := (f6.tr t5).tr t6
      refine dq E rfl (fun s' t => (o_ldc (cs := #[.int .i64 x1.Kind, (.slice a1 x1.Words.length c1)]) Tryz.isAgg38 Tryz.sizeOf38 (E.ev rfl) (f12.up t).cell)) rfl rfl rfl (by kernel_rfl) fun a E => ?_
      refine dbs0 (K := kFr) E rfl Tryz.underlying43 Tryz.sizeOf38 rfl rfl (by kernel_rfl) ?_
      rintro a w4 s7 h5 t7 E
      obtain ⟨x3, hx4, hm⟩ := ob_some hm
      obtain ⟨hx4, hz1⟩ := ap_some hx4
      have f13 := ((h2.tr t5).tr t6).tr t7
      refine dw E rfl (fun s' t => o_app Tryz.underlying43 Tryz.type38 rfl rfl rfl rfl rfl rfl (h5.trN t) (f13.tr t).rd (E.ev rfl) (E.ev rfl) hx4 (Nat.zero_le _)) (nq rfl) rfl rfl rfl (by kernel_rfl) ?_
      rintro a w5 s8 h6 t8 E
      rw [hz1] at h6
      have f14 := (((f7.tr t5).tr t6).tr t7).tr t8
      refine dbs (K := kFr) [x1] E rfl Tryz.underlying43 Tryz.sizeOf38 Tryz.zeroValue38 (qs := #[(0, .agg #[.int .i64 x1.Kind, (.slice a1 x1.Words.length c1)])]) (cells := #[.int .i64 x1.Kind, (.slice a1 x1.Words.length c1)]) (by simp only [List.map_toArray, List.map_cons, List.map_nil, E.ev (x := .tmp 44) (v := .agg #[.int .i64 x1.Kind, (.slice a1 x1.Words.length c1)]) rfl]) rfl rfl (by kernel_rfl) (fun s' l => ⟨_, _, rfl, ⟨_, rfl, (f14.up l)⟩, rfl⟩) rfl rfl rfl rfl (by kernel_rfl) ?_
      rintro a s9 b5 h7 t9 E
      obtain ⟨x4, hx5, hm⟩ := ob_some hm
      obtain ⟨hx5, hz2⟩ := ap_some hx5
      have f15 := h6.trN t9
      refine dw E rfl (fun s' t => o_app Tryz.underlying43 Tryz.type38 rfl rfl rfl rfl rfl rfl (f15.trN t) (h7.trN t).rd (E.ev rfl) (E.ev rfl) hx5 (Nat.zero_le _)) (nq rfl) rfl rfl rfl (by kernel_rfl) ?_
      rintro a w6 s10 h8 t10 E
      rw [hz2] at h8
      refine dp E rfl (fun w => (o_nc (E.ev rfl))) rfl rfl rfl fun a E => ?_
      refine dp E rfl (fun w => (o_fa Tryz.underlying79 rfl Tryz.sizeOf43 (E.ev rfl))) rfl rfl rfl fun a E => ?_
      obtain ⟨a2, c2, rfl⟩ := h8.isS
      have f16 := (((f11.trN t7).tr t8 (nt_fst (rb lt1))).trN t9).tr t10 (nt_fst (rb lt1))
      refine dlN E rfl (o_st (o := 4) (cs' := #[.pointer (some ⟨b2, 0, none⟩), .int .i64 X1.From, .int .i64 X1.N, .int .i64 X1.Epoch, (.slice a2 x4.length c2)]) (v := (.slice a2 x4.length c2)) Tryz.sizeOf43 f16 (E.ev rfl) (E.ev rfl) (Nat.le_of_ble_eq_true rfl) (one_cells rfl) rfl) rfl rfl (by kernel_rfl) ?_
      rintro _ s11 ⟨o3, t11⟩
      refine gd_nil ?_
      refine tgn ?_
      refine G_seq ?_
      refine G_seq ?_
      refine G_region ?_
      refine sd E (o_mv (E.ev rfl)) rfl rfl rfl fun a E => ?_
      refine sd E (o_quo (E.ev rfl) (E.ev rfl) rfl) rfl rfl rfl fun a E => ?_
      refine sd E (o_as (E.ev rfl)) rfl rfl rfl fun a E => ?_
      refine GL_nil ?_
      refine tgn ?_
      have f17 := h8.tr t11 (nt_fst (rb lt1).symm)
      obtain ⟨s12, e1, h9, t12⟩ := f17.fz
      rw [e1]
      have f18 := o3.tr t12 (nt_fst (rb lt1))
      have h10 : RLogAt k1 b2 s12 b1 (⟨X1.From, X1.N, X1.Epoch, x4⟩ : RLog) := ⟨_, f18, h9⟩
      obtain ⟨r1, hl1, hm⟩ := ob_some hm
      refine G_mid1 (fun a' w' => ∃ x5 x6 s', m_18_1k X1 x4 (x5, x6) = some (r0y, Y1, Y2) ∧ w' = s'.w ∧ Tr (Fz κ [k1, k2]) s12 s' ∧ RDiskAt k2 s' b2 x6 ∧ RLogAt k1 b2 s' b1 (⟨X1.From, X1.N, X1.Epoch, x4⟩ : RLog) ∧ En [] 116 a' [(7, .int .i64 x5), (0, .pointer (some ⟨b1, 0, none⟩)), (4, .int .i64 0), (5, .int .i64 y2), (6, w3)]) ?_ ?_
      · refine G_block ?_
        have f19 := (((((((((((ho2.trN t1).trN t2).trN t3).trN t4).trN t5).trN t6).trN t7).tr t8 (fun i => (nt_fst (rb lt2)))).trN t9).tr t10 (fun i => (nt_fst (rb lt2)))).tr t11 (fun i => (nt_fst ne01.symm))).tr t12 (fun i => (nt_fst (rb lt2)))
        refine G_lp hl1 (fun st a' w' => ∃ x5 x6 s', st = (x5, x6) ∧ w' = s'.w ∧ Tr (Fz κ [k1, k2]) s12 s' ∧ RDiskAt k2 s' b2 x6 ∧ RLogAt k1 b2 s' b1 (⟨X1.From, X1.N, X1.Epoch, x4⟩ : RLog) ∧ En [] 116 a' [(7, .int .i64 x5), (0, .pointer (some ⟨b1, 0, none⟩)), (4, .int .i64 0), (5, .int .i64 y2), (6, w3)]) ⟨_, _, _, rfl, rfl, (Tr.refl _ _), f19, h10, (((((E.nil.ad E rfl rfl).ad E rfl rfl).ad E rfl rfl).ad E rfl rfl).ad E rfl rfl)⟩ ?_
        rintro _ a _ x ⟨x7, x8, s13, rfl, rfl, t13, h11, h12, E⟩ hf1
        dsimp only [m_18_1b] at hf1
        refine G_seq ?_
        refine G_seq ?_
        refine G_region ?_
        refine sd E (o_mv (E.ev rfl)) rfl rfl rfl fun a E => ?_
        refine sd E (o_bi (E.ev rfl) (E.ev rfl) rfl) rfl rfl rfl fun a E => ?_
        refine sd E (o_mv (E.ev rfl)) rfl rfl rfl fun a E => ?_
        refine sd E (o_mv (E.ev rfl)) rfl rfl rfl fun a E => ?_
        have f20 := (((((((h3.tr t6).tr t7).tr t8).tr t9).tr t10).tr t11).tr t12).tr t13
        refine sd E (o_lenS (xs := y3) Tryz.underlying36 (E.ev rfl) f20.isS) rfl rfl rfl fun a E => ?_
        refine sd E (o_bi (E.ev rfl) (E.ev rfl) rfl) rfl rfl rfl fun a E => ?_
        refine sd E (o_bi (E.ev rfl) (E.ev rfl) rfl) rfl rfl rfl fun a E => ?_
        refine GL_nil ?_
        refine tgn ?_
        refine G_cond (E.ev rfl) (fun ht => ?_) (fun ht => ?_)
        · have hf1 := cT ht hf1
          refine G_skip ?_
          refine tgn ?_
          refine G_seq ?_
          refine G_block ?_
          refine G_seq ?_
          refine G_region ?_
          refine sh E (o_ala ((κ + 0), 1002) .u64 8 Tryz.zeroValue40 (by kernel_rfl)) rfl rfl rfl ?_
          rintro a _ s14 ⟨b6, rfl, o4, t14⟩ E
          refine GL_nil ?_
          refine tgn ?_
          refine G_seq ?_
          refine G_seq ?_
          refine G_region ?_
          refine sd E (o_as (E.ev rfl)) rfl rfl rfl fun a E => ?_
          refine GL_nil ?_
          refine tgn ?_
          obtain ⟨r2, hl2, hf1⟩ := ob_some hf1
          refine G_mid1 (fun a' w' => ∃ x9 x10 s', m_18_2k X1 x4 x7 x8 (x9, x10) = some x ∧ w' = s'.w ∧ Tr (Fz κ [k1, k2]) s14 s' ∧ Own ((κ + 0), 1002) s' b6 (cA .u64 x10) 40 ∧ x10.length = 8 ∧ RLogAt k1 b2 s' b1 (⟨X1.From, X1.N, X1.Epoch, x4⟩ : RLog) ∧ RDiskAt k2 s' b2 x8 ∧ En [] 116 a' [(9, .int .i64 x9), (0, .pointer (some ⟨b1, 0, none⟩)), (4, .int .i64 0), (5, .int .i64 y2), (6, w3), (7, .int .i64 x7), (8, .pointer (some ⟨b6, 0, none⟩))]) ?_ ?_
          · refine G_block ?_
            have f21 := h12.trN t14
            have f22 := h11.trN t14
            refine G_lp hl2 (fun st a' w' => ∃ x9 x10 s', st = (x9, x10) ∧ w' = s'.w ∧ Tr (Fz κ [k1, k2]) s14 s' ∧ Own ((κ + 0), 1002) s' b6 (cA .u64 x10) 40 ∧ x10.length = 8 ∧ RLogAt k1 b2 s' b1 (⟨X1.From, X1.N, X1.Epoch, x4⟩ : RLog) ∧ RDiskAt k2 s' b2 x8 ∧ En [] 116 a' [(9, .int .i64 x9), (0, .pointer (some ⟨b1, 0, none⟩)), (4, .int .i64 0), (5, .int .i64 y2), (6, w3), (7, .int .i64 x7), (8, .pointer (some ⟨b6, 0, none⟩))]) ⟨_, _, _, rfl, rfl, (Tr.refl _ _), o4, (List.length_replicate ..), f21, f22, (((((((E.nil.ad E rfl rfl).ad E rfl rfl).ad E rfl rfl).ad E rfl rfl).ad E rfl rfl).ad E rfl rfl).ad E rfl rfl)⟩ ?_
            rintro _ a _ x ⟨x11, x12, s15, rfl, rfl, t15, o5, ln1, h13, h14, E⟩ hf2
            dsimp only [m_18_2b] at hf2
            refine G_seq ?_
            refine G_seq ?_
            refine G_region ?_
            refine sd E (o_mv (E.ev rfl)) rfl rfl rfl fun a E => ?_
            refine sd E (o_bi (E.ev rfl) (E.ev rfl) rfl) rfl rfl rfl fun a E => ?_
            refine GL_nil ?_
            refine tgn ?_
            refine G_cond (E.ev rfl) (fun ht => ?_) (fun ht => ?_)
            · have hf2 := cT ht hf2
              refine G_skip ?_
              refine tgn ?_
              refine G_seq ?_
              refine G_block ?_
              refine G_seq ?_
              refine G_region ?_
              refine sd E (o_mv (E.ev rfl)) rfl rfl rfl fun a E => ?_
              refine sd E (o_bi (E.ev rfl) (E.ev rfl) rfl) rfl rfl rfl fun a E => ?_
              refine sd E (o_mv (E.ev rfl)) rfl rfl rfl fun a E => ?_
              refine sd E (o_bi (E.ev rfl) (E.ev rfl) rfl) rfl rfl rfl fun a E => ?_
              refine sd E (o_as (E.ev rfl)) rfl rfl rfl fun a E => ?_
              refine GL_nil ?_
              refine tgn ?_
              refine G_seq ?_
              refine G_region ?_
              refine sd E (o_mv (E.ev rfl)) rfl rfl rfl fun a E => ?_
              refine sd E (o_mv (E.ev rfl)) rfl rfl rfl fun a E => ?_
              refine sd E (o_bi (E.ev rfl) (E.ev rfl) rfl) rfl rfl rfl fun a E => ?_
              refine GL_nil ?_
              refine tgn ?_
              obtain ⟨r3, hl3, hf2⟩ := ob_some hf2
              refine G_mid1 (fun a' w' => ∃ x13 s', m_18_3k x11 x13 = some x ∧ w' = s'.w ∧ Tr (Fz κ [k1, k2]) s15 s' ∧ Own ((κ + 0), 1002) s' b6 (cA .u64 x13) 40 ∧ x13.length = 8 ∧ RLogAt k1 b2 s' b1 (⟨X1.From, X1.N, X1.Epoch, x4⟩ : RLog) ∧ RDiskAt k2 s' b2 x8 ∧ En [] 116 a' [(0, .pointer (some ⟨b1, 0, none⟩)), (4, .int .i64 0), (5, .int .i64 y2), (6, w3), (7, .int .i64 x7), (8, .pointer (some ⟨b6, 0, none⟩)), (9, .int .i64 x11)]) ?_ ?_
              · refine G_cond (E.ev rfl) (fun ht => ?_) (fun ht => ?_)
                · have hl3 := cT ht hl3
                  refine G_drw (κ + 3) (by rfl) [0, 1, 2, 3, 4, 5, 6, 7, 8, 9, 10, 11, 12, 13, 14, 15, 16, 17, 18, 19] (by kernel_rfl) ?_
                  intro s16 t16
                  refine dp E rfl (fun w => (o_mv (E.ev rfl))) rfl rfl rfl fun a E => ?_
                  refine dp E rfl (fun w => (o_mv (E.ev rfl))) rfl rfl rfl fun a E => ?_
                  refine dp E rfl (fun w => (o_nc (E.ev rfl))) rfl rfl rfl fun a E => ?_
                  have f23 := h13.trN t16
                  obtain ⟨w7, o6, h15⟩ := f23
                  refine dp E rfl (fun w => (o_fa Tryz.underlying79 rfl Tryz.sizeOf27 (E.ev rfl))) rfl rfl rfl fun a E => ?_
                  refine dr E rfl (fun s' t => (o_ld Tryz.isAgg27 (E.ev rfl) (((o6.trN t).cell _).trans rfl))) rfl rfl rfl (by kernel_rfl) fun a E => ?_
                  refine dp E rfl (fun w => (o_nc (E.ev rfl))) rfl rfl rfl fun a E => ?_
                  have f24 := h14.trN t16
                  obtain ⟨w8, w9, w10, o7, h16, h17, h18⟩ := f24
                  refine dp E rfl (fun w => (o_fa Tryz.underlying65 rfl Tryz.sizeOf60 (E.ev rfl))) rfl rfl rfl fun a E => ?_
                  refine dr E rfl (fun s' t => (o_ld Tryz.isAgg60 (E.ev rfl) (((o7.trN t).cell _).trans rfl))) rfl rfl rfl (by kernel_rfl) fun a E => ?_
                  refine dp E rfl (fun w => (o_mv (E.ev rfl))) rfl rfl rfl fun a E => ?_
                  refine dp E rfl (fun w => (o_nc (E.ev rfl))) rfl rfl rfl fun a E => ?_
                  refine dp E rfl (fun w => (o_fa Tryz.underlying79 rfl Tryz.sizeOf3 (E.ev rfl))) rfl rfl rfl fun a E => ?_
                  refine dr E rfl (fun s' t => (o_ld Tryz.isAgg3 (E.ev rfl) (((o6.trN t).cell _).trans rfl))) rfl rfl rfl (by kernel_rfl) fun a E => ?_
                  refine dp E rfl (fun w => (o_mv (E.ev rfl))) rfl rfl rfl fun a E => ?_
                  refine dp E rfl (fun w => (o_bi (E.ev rfl) (E.ev rfl) rfl)) rfl rfl rfl fun a E => ?_
                  refine dp E rfl (fun w => (o_mv (E.ev rfl))) rfl rfl rfl fun a E => ?_
                  obtain ⟨x14, hx6, hl3⟩ := ob_some hl3
                  obtain ⟨b7, p1, g1⟩ := bd_ix h17 hx6
                  refine dp E rfl (fun w => (o_ixg Tryz.underlying60 Tryz.sizeOf40 g1 (E.ev rfl) (E.ev rfl))) rfl rfl rfl fun a E => ?_
                  obtain ⟨x15, hx7, hl3⟩ := ob_some hl3
                  refine dp E rfl (fun w => (o_ixo Tryz.underlying40 Tryz.sizeOf39 (E.ev rfl) (E.ev rfl) (ix_some hx7).1 (ix_some hx7).2)) rfl rfl rfl fun a E => ?_
                  obtain ⟨x16, hx8, hl3⟩ := ob_some hl3
                  refine dr E rfl (fun s' t => (o_ld Tryz.isAgg39 (E.ev rfl) (bd_ca1 (h17.trN t) g1 hx6 hx8))) rfl rfl rfl (by kernel_rfl) fun a E => ?_
                  obtain ⟨x17, hx9, hl3⟩ := ob_some hl3
                  refine dp E rfl (fun w => (o_ixa Tryz.underlying40 Tryz.sizeOf39 (E.ev rfl) (E.ev rfl) (ix_some hx9).1 (ix_some hx9).2)) rfl rfl rfl fun a E => ?_
                  obtain ⟨x18, hx10, hl3⟩ := ob_some hl3
                  have f25 := o5.trN t16
                  refine dlN E rfl (o_sta Tryz.sizeOf39 f25 (E.ev rfl) (E.ev rfl) hx10) rfl rfl (by kernel_rfl) ?_
                  rintro _ s17 ⟨o8, t17⟩
                  refine gd_nil ?_
                  refine ctn ?_
                  have f26 := h15.tr t17
                  have f27 := o6.tr t17 (nt_fst (rb lt1))
                  have h20 : RLogAt k1 b2 s17 b1 (⟨(⟨X1.From, X1.N, X1.Epoch, x4⟩ : RLog).From, (⟨X1.From, X1.N, X1.Epoch, x4⟩ : RLog).N, (⟨X1.From, X1.N, X1.Epoch, x4⟩ : RLog).Epoch, (⟨X1.From, X1.N, X1.Epoch, x4⟩ : RLog).L⟩ : RLog) := ⟨_, f27, f26⟩
                  have f28 := h16.tr t17 (nt_fst (rb lt2))
                  have f29 := h17.tr t17 (nt_fst (rb lt2))
                  have f30 := h18.tr t17 (nt_fst (rb lt2))
                  have f31 := o7.tr t17 (nt_fst (rb lt2))
                  have h21 : RDiskAt k2 s17 b2 x8 := ⟨_, _, _, f31, f28, f29, f30⟩
                  cases hl3
                  have T3 : Tr (Fz κ [k1, k2]) s15 s17 := (t16.no.trans (Tr.ft Fz.f t17))
                  exact ⟨_, _, hf2, rfl, T3, o8, ((st_len hx10).trans ln1), h20, h21, (((((((E.nil.ad E rfl rfl).ad E rfl rfl).ad E rfl rfl).ad E rfl rfl).ad E rfl rfl).ad E rfl rfl).ad E rfl rfl)⟩
                · have hl3 := cF ht hl3
                  refine G_seq ?_
                  refine G_region ?_
                  refine sd E (o_mv (E.ev rfl)) rfl rfl rfl fun a E => ?_
                  refine sd E (o_mv (E.ev rfl)) rfl rfl rfl fun a E => ?_
                  refine sd E (o_mv (E.ev rfl)) rfl rfl rfl fun a E => ?_
                  have f32 := (f20.tr t14).tr t15
                  refine sd E (o_lenS (xs := y3) Tryz.underlying36 (E.ev rfl) f32.isS) rfl rfl rfl fun a E => ?_
                  refine sd E (o_bi (E.ev rfl) (E.ev rfl) rfl) rfl rfl rfl fun a E => ?_
                  refine sd E (o_bi (E.ev rfl) (E.ev rfl) rfl) rfl rfl rfl fun a E => ?_
                  refine GL_nil ?_
                  refine tgn ?_
                  refine G_cond (E.ev rfl) (fun ht => ?_) (fun ht => ?_)
                  · have hl3 := cT ht hl3
                    refine G_region ?_
                    refine sd E (o_mv (E.ev rfl)) rfl rfl rfl fun a E => ?_
                    refine sd E (o_mv (E.ev rfl)) rfl rfl rfl fun a E => ?_
                    refine sd E (o_mv (E.ev rfl)) rfl rfl rfl fun a E => ?_
                    refine sd E (o_mv (E.ev rfl)) rfl rfl rfl fun a E => ?_
                    refine sd E (o_bi (E.ev rfl) (E.ev rfl) rfl) rfl rfl rfl fun a E => ?_
                    obtain ⟨x19, hx11, hl3⟩ := ob_some hl3
                    obtain ⟨b8, p2, g2, h22⟩ := f32.gt hx11
                    refine sd E (o_ixg Tryz.underlying36 Tryz.sizeOf39 g2 (E.ev rfl) (E.ev rfl)) rfl rfl rfl fun a E => ?_
                    refine sd E (o_ld Tryz.isAgg39 (E.ev rfl) h22.cell) rfl rfl rfl fun a E => ?_
                    obtain ⟨x20, hx12, hl3⟩ := ob_some hl3
                    refine sd E (o_ixa Tryz.underlying40 Tryz.sizeOf39 (E.ev rfl) (E.ev rfl) (ix_some hx12).1 (ix_some hx12).2) rfl rfl rfl fun a E => ?_
                    obtain ⟨x21, hx13, hl3⟩ := ob_some hl3
                    refine shN E (o_sta Tryz.sizeOf39 o5 (E.ev rfl) (E.ev rfl) hx13) rfl rfl ?_
                    rintro _ s18 ⟨o9, t18⟩
                    refine GL_nil ?_
                    refine ctn ?_
                    cases hl3
                    have f33 := h13.tr t18 (fun i => (nt_fst (rb lt1)))
                    have f34 := h14.tr t18 (fun i => (nt_fst (rb lt2)))
                    have T4 : Tr (Fz κ [k1, k2]) s15 s18 := (Tr.ft Fz.f t18)
                    exact ⟨_, _, hf2, rfl, T4, o9, ((st_len hx13).trans ln1), f33, f34, (((((((E.nil.ad E rfl rfl).ad E rfl rfl).ad E rfl rfl).ad E rfl rfl).ad E rfl rfl).ad E rfl rfl).ad E rfl rfl)⟩
                  · have hl3 := cF ht hl3
                    refine G_skip ?_
                    refine ctn ?_
                    cases hl3
                    exact ⟨_, _, hf2, rfl, (Tr.refl _ _), o5, ln1, h13, h14, (((((((E.nil.ad E rfl rfl).ad E rfl rfl).ad E rfl rfl).ad E rfl rfl).ad E rfl rfl).ad E rfl rfl).ad E rfl rfl)⟩
              · rintro a _ ⟨x22, s19, hf2, rfl, t19, o10, ln2, h23, h24, E⟩
                dsimp only [m_18_3k] at hf2
                refine ebn ?_
                refine tgn ?_
                refine G_region ?_
                refine sd E (o_mv (E.ev rfl)) rfl rfl rfl fun a E => ?_
                refine sd E (o_bi (E.ev rfl) (E.ev rfl) rfl) rfl rfl rfl fun a E => ?_
                refine sd E (o_as (E.ev rfl)) rfl rfl rfl fun a E => ?_
                refine GL_nil ?_
                obtain rfl := Option.some.inj hf2
                have T5 : Tr (Fz κ [k1, k2]) s14 s19 := (t15.trans t19)
                exact lpn ⟨_, _, _, rfl, rfl, T5, o10, ln2, h23, h24, (((((((E.nil.ad E rfl rfl).ad E rfl rfl).ad E rfl rfl).ad E rfl rfl).ad E rfl rfl).ad E rfl rfl).ad E rfl rfl)⟩
            · have hf2 := cF ht hf2
              refine G_exit ?_
              refine tge ?_
              obtain rfl := Option.some.inj hf2
              refine lpe fun hr => ?_
              subst hr
              refine ebk ?_
              refine ctn ?_
              exact ⟨_, _, _, hf1, rfl, t15, o5, ln1, h13, h14, (((((((E.nil.ad E rfl rfl).ad E rfl rfl).ad E rfl rfl).ad E rfl rfl).ad E rfl rfl).ad E rfl rfl).ad E rfl rfl)⟩
          · rintro a _ ⟨x23, x24, s20, hf1, rfl, t20, o11, ln3, h25, h26, E⟩
            dsimp only [m_18_2k] at hf1
            refine tgn ?_
            refine G_drw (κ + 4) (by rfl) [0, 1, 2, 3, 4, 5, 6, 7, 8, 9, 10, 11] (by kernel_rfl) ?_
            intro s21 t21
            refine dp E rfl (fun w => (o_mv (E.ev rfl))) rfl rfl rfl fun a E => ?_
            refine dp E rfl (fun w => (o_nc (E.ev rfl))) rfl rfl rfl fun a E => ?_
            have f35 := h25.trN t21
            obtain ⟨w11, o12, h27⟩ := f35
            refine dp E rfl (fun w => (o_fa Tryz.underlying79 rfl Tryz.sizeOf27 (E.ev rfl))) rfl rfl rfl fun a E => ?_
            refine dr E rfl (fun s' t => (o_ld Tryz.isAgg27 (E.ev rfl) (((o12.trN t).cell _).trans rfl))) rfl rfl rfl (by kernel_rfl) fun a E => ?_
            refine dp E rfl (fun w => (o_mv (E.ev rfl))) rfl rfl rfl fun a E => ?_
            refine dp E rfl (fun w => (o_nc (E.ev rfl))) rfl rfl rfl fun a E => ?_
            refine dp E rfl (fun w => (o_fa Tryz.underlying79 rfl Tryz.sizeOf3 (E.ev rfl))) rfl rfl rfl fun a E => ?_
            refine dr E rfl (fun s' t => (o_ld Tryz.isAgg3 (E.ev rfl) (((o12.trN t).cell _).trans rfl))) rfl rfl rfl (by kernel_rfl) fun a E => ?_
            refine dp E rfl (fun w => (o_mv (E.ev rfl))) rfl rfl rfl fun a E => ?_
            refine dp E rfl (fun w => (o_bi (E.ev rfl) (E.ev rfl) rfl)) rfl rfl rfl fun a E => ?_
            have f36 := o11.trN t21
            refine dr E rfl (fun s' t => (o_ldA Tryz.isAgg40 Tryz.sizeOf40 (E.ev rfl) ln3 (f36.trN t).cell)) rfl rfl rfl (by kernel_rfl) fun a E => ?_
            have f37 := h26.trN t21
            obtain ⟨X3, hx14, hf1⟩ := ob_some hf1
            refine dl E rfl (o_ok Tryz.call39 (E.evs rfl) (E.ev rfl) (ok_44 _ (x1 := IntKind.wrap .i64 (((⟨X1.From, X1.N, X1.Epoch, x4⟩ : RLog).From) + x7)) (x2 := x24) f37 ln3 hx14)) rfl rfl rfl (by kernel_rfl) ?_
            rintro a _ s22 ⟨t22, h28⟩ E
            refine gd_nil ?_
            refine ebn ?_
            refine tgn ?_
            refine G_region ?_
            refine sd E (o_mv (E.ev rfl)) rfl rfl rfl fun a E => ?_
            refine sd E (o_bi (E.ev rfl) (E.ev rfl) rfl) rfl rfl rfl fun a E => ?_
            refine sd E (o_as (E.ev rfl)) rfl rfl rfl fun a E => ?_
            refine GL_nil ?_
            have f38 := h27.tr t22
            have f39 := o12.tr t22 (nW1 ne01)
            have h29 : RLogAt k1 b2 s22 b1 (⟨(⟨X1.From, X1.N, X1.Epoch, x4⟩ : RLog).From, (⟨X1.From, X1.N, X1.Epoch, x4⟩ : RLog).N, (⟨X1.From, X1.N, X1.Epoch, x4⟩ : RLog).Epoch, (⟨X1.From, X1.N, X1.Epoch, x4⟩ : RLog).L⟩ : RLog) := ⟨_, f39, f38⟩
            obtain rfl := Option.some.inj hf1
            have T6 : Tr (Fz κ [k1, k2]) s12 s22 := ((((t13.trans t14.no).trans t20).trans t21.no).trans (Tr.fw1 Fz.w1 t22))
            exact lpn ⟨_, _, _, rfl, rfl, T6, h28, h29, (((((E.nil.ad E rfl rfl).ad E rfl rfl).ad E rfl rfl).ad E rfl rfl).ad E rfl rfl)⟩
        · have hf1 := cF ht hf1
          refine G_exit ?_
          refine tge ?_
          obtain rfl := Option.some.inj hf1
          refine lpe fun hr => ?_
          subst hr
          refine ebk ?_
          refine ctn ?_
          exact ⟨_, _, _, hm, rfl, t13, h11, h12, (((((E.nil.ad E rfl rfl).ad E rfl rfl).ad E rfl rfl).ad E rfl rfl).ad E rfl rfl)⟩
      · rintro a _ ⟨x25, x26, s23, hm, rfl, t23, h30, h31, E⟩
        dsimp only [m_18_1k] at hm
        refine tgn ?_
        refine G_seq ?_
        refine G_region ?_
        refine sd E (o_as (E.ev rfl)) rfl rfl rfl fun a E => ?_
        refine GL_nil ?_
        refine tgn ?_
        refine G_ret ?_
        cases hm
        have T7 : Tr (Fz κ [k1, k2]) s s23 := ((((((((((((t1.no.trans t2.no).trans t3.no).trans t4.no).trans t5.no).trans t6.no).trans t7.no).trans (Tr.ft Fz.f t8)).trans t9.no).trans (Tr.ft Fz.f t10)).trans (Tr.ft Fz.w0 t11)).trans (Tr.ft Fz.f t12)).trans t23)
        exact fin1 E rfl rfl ⟨(Tr.fin hκ T7), rfl, h31, h30⟩

-- gimmal/gimmalref08.Open
noncomputable def m_17_3k (x16 : Int) : (Bool × (List Int)) → Option (Lo (Bool × Int × (List Int)) (Bool × Int × (List Int))) := fun (x24, x25) => some (.inl (x24, IntKind.wrap .i64 (x16 + 1), x25))
noncomputable def m_17_4k (x9 : Int) : (Bool × RDisk) → Option (Lo (Bool × Int × RDisk) (Bool × Int × RDisk)) := fun (x31, x32) => some (.inl (x31, IntKind.wrap .i64 (x9 + 1), x32))
noncomputable def m_17_2b (y3 : Int) (x9 : Int) : (Bool × Int × (List Int)) → Option (Lo (Bool × Int × (List Int)) (Bool × Int × (List Int))) := fun (x15, x16, x17) => bif decide (x16 < 8) then (ob (bif decide ((IntKind.wrap .i64 ((IntKind.wrap .i64 (8 * x9)) + x16)) ≥ y3) then (ob (gd (decide (0 ≤ x16) && decide (x16 < 8)) (some ())) fun x18 => ob (gt x17 x16) fun x19 => some (x19 != 0)) else (some false)) fun t7 => ob (bif t7 then (ob (gd (decide (0 ≤ x16) && decide (x16 < 8)) (some ())) fun x22 => ob (st x17 x16 0) fun x23 => some (true, x23)) else (some (x15, x17))) (m_17_3k x16)) else (some (.inr (x15, x16, x17)))
noncomputable def m_17_2k (x1 : Int) (x8 : Bool) (x9 : Int) (x10 : RDisk) : (Bool × Int × (List Int)) → Option (Lo (Bool × Int × RDisk) (Bool × Int × RDisk)) := fun (x26, x27, x28) => ob (bif x26 then (ob (m_44 x10 (IntKind.wrap .i64 (x1 + x9)) x28) fun X2 => some (true, X2)) else (some (x8, x10))) (m_17_4k x9)
noncomputable def m_17_5k (x1 : Int) (x2 : Int) (x3 : Int) (y2 : List Frame) : RDisk → Option (RLog × RDisk) := fun x37 => some ((⟨x1, x2, x3, y2⟩ : RLog), x37)
noncomputable def m_17_1b (x1 : Int) (x2 : Int) (y3 : Int) : (Bool × Int × RDisk) → Option (Lo (Bool × Int × RDisk) (Bool × Int × RDisk)) := fun (x8, x9, x10) => bif decide (x9 < x2) then (ob (gt x10.Read (IntKind.wrap .i64 (x1 + x9))) fun x11 => ob (loopO (m_17_2b y3 x9) (false, 0, x11)) (m_17_2k x1 x8 x9 x10)) else (some (.inr (x8, x9, x10)))
noncomputable def m_17_1k (x1 : Int) (x2 : Int) (x3 : Int) (y2 : List Frame) : (Bool × Int × RDisk) → Option (RLog × RDisk) := fun (x33, x34, x35) => ob (bif x33 then (ob (m_45 x35) fun X3 => some X3) else (some x35)) (m_17_5k x1 x2 x3 y2)
noncomputable def m_17 (X1 : RDisk) (x1 : Int) (x2 : Int) (x3 : Int) : Option (RLog × RDisk) :=
  ob (m_43 X1 x1 x2) fun y1 => ob (m_15 x3 y1) fun (y2, y3) => ob (loopO (m_17_1b x1 x2 y3) (false, 0, X1)) (m_17_1k x1 x2 x3 y2)
theorem ok_17 (s : St) (q0 : Nat) {k1 b1 : Nat} {X1 : RDisk} {x1 : Int} {x2 : Int} {x3 : Int} (ho1 : RDiskAt k1 s b1 X1) {r0y : RLog} {Y1 : RDisk} (hm : m_17 X1 x1 x2 x3 = some (r0y, Y1)) :
    Ok Tryz.prog 30 ([.pointer (some ⟨b1, 0, none⟩), .int .i64 x1, .int .i64 x2, .int .i64 x3] : List Value).toArray s fun v s' => Tr (Ws [k1]) s s' ∧ ∃ nb0, v = .pointer (some ⟨nb0, 0, none⟩) ∧ RDiskAt k1 s' b1 Y1 ∧ RLogAt q0 b1 s' nb0 r0y := by
  unfold m_17 at hm
  obtain ⟨κ, hκ⟩ := s.fresh
  have lt1 : k1 < κ := hκ _ _ ho1.tag
  refine ok_of (n := 74) _ Tryz.func30 rfl _ rfl rfl fun a E => ?_
  refine G_seq ?_
  refine G_region ?_
  refine sd E (o_as (E.ev rfl)) rfl rfl rfl fun a E => ?_
  refine GL_nil ?_
  refine tgn ?_
  refine G_seq ?_
  refine G_region ?_
  refine sd E (o_mv (E.ev rfl)) rfl rfl rfl fun a E => ?_
  refine sd E (o_mv (E.ev rfl)) rfl rfl rfl fun a E => ?_
  refine sd E (o_mv (E.ev rfl)) rfl rfl rfl fun a E => ?_
  refine sd E (o_mv (E.ev rfl)) rfl rfl rfl fun a E => ?_
  obtain ⟨y1, hx1, hm⟩ := ob_some hm
  refine sh E (o_ok Tryz.call29 (E.evs rfl) (E.ev rfl) (ok_43 _ (x1 := x1) (x2 := x2) ho1 hx1)) rfl rfl rfl ?_
  rintro a w1 s1 ⟨t1, _, rfl, h1⟩ E
  obtain ⟨⟨y2, y3⟩, hx2, hm⟩ := ob_some hm
  refine sh E (o_ok Tryz.call28 (E.evs rfl) (E.ev rfl) (ok_15 _ (x0 := x3) (x1 := y1) h1 hx2)) rfl rfl rfl ?_
  rintro a _ s2 ⟨t2, w2, rfl, h2⟩ E
  refine sd E (o_mv (E.ev rfl)) rfl rfl rfl fun a E => ?_
  refine sd E (o_ext (v := w2) (E.ev rfl) rfl) rfl rfl rfl fun a E => ?_
  refine sd E (o_ext (v := .int .i64 y3) (E.ev rfl) rfl) rfl rfl rfl fun a E => ?_
  refine sd E (o_as (E.ev rfl)) rfl rfl rfl fun a E => ?_
  refine sd E (o_as (E.ev rfl)) rfl rfl rfl fun a E => ?_
  refine GL_nil ?_
  refine tgn ?_
  refine G_seq ?_
  refine G_region ?_
  refine sd E (o_as (E.ev rfl)) rfl rfl rfl fun a E => ?_
  refine GL_nil ?_
  refine tgn ?_
  refine G_seq ?_
  refine G_seq ?_
  refine G_region ?_
  refine sd E (o_as (E.ev rfl)) rfl rfl rfl fun a E => ?_
  refine GL_nil ?_
  refine tgn ?_
  obtain ⟨r1, hl1, hm⟩ := ob_some hm
  refine G_mid1 (fun a' w' => ∃ x5 x6 x7 s', m_17_1k x1 x2 x3 y2 (x5, x6, x7) = some (r0y, Y1) ∧ w' = s'.w ∧ Tr (Fz κ [k1]) s2 s' ∧ RDiskAt k1 s' b1 x7 ∧ En [] 74 a' [(11, .bool x5), (12, .int .i64 x6), (0, .pointer (some ⟨b1, 0, none⟩)), (1, .int .i64 x1), (2, .int .i64 x2), (3, .int .i64 x3), (8, .pointer none), (9, w2), (10, .int .i64 y3)]) ?_ ?_
  · refine G_block ?_
    have f1 := (ho1.trN t1).trN t2
    refine G_lp hl1 (fun st a' w' => ∃ x5 x6 x7 s', st = (x5, x6, x7) ∧ w' = s'.w ∧ Tr (Fz κ [k1]) s2 s' ∧ RDiskAt k1 s' b1 x7 ∧ En [] 74 a' [(11, .bool x5), (12, .int .i64 x6), (0, .pointer (some ⟨b1, 0, none⟩)), (1, .int .i64 x1), (2, .int .i64 x2), (3, .int .i64 x3), (8, .pointer none), (9, w2), (10, .int .i64 y3)]) ⟨_, _, _, _, rfl, rfl, (Tr.refl _ _), f1, (((((((((E.nil.ad E rfl rfl).ad E rfl rfl).ad E rfl rfl).ad E rfl rfl).ad E rfl rfl).ad E rfl rfl).ad E rfl rfl).ad E rfl rfl).ad E rfl rfl)⟩ ?_
    rintro _ a _ x ⟨x8, x9, x10, s3, rfl, rfl, t3, h3, E⟩ hf1
    dsimp only [m_17_1b] at hf1
    refine G_seq ?_
    refine G_seq ?_
    refine G_region ?_
    refine sd E (o_mv (E.ev rfl)) rfl rfl rfl fun a E => ?_
    refine sd E (o_mv (E.ev rfl)) rfl rfl rfl fun a E => ?_
    refine sd E (o_bi (E.ev rfl) (E.ev rfl) rfl) rfl rfl rfl fun a E => ?_
    refine GL_nil ?_
    refine tgn ?_
    refine G_cond (E.ev rfl) (fun ht => ?_) (fun ht => ?_)
    · have hf1 := cT ht hf1
      refine G_skip ?_
      refine tgn ?_
      refine G_seq ?_
      refine G_block ?_
      refine G_seq ?_
      refine G_region ?_
      refine sd E (o_mv (E.ev rfl)) rfl rfl rfl fun a E => ?_
      refine sd E (o_nc (E.ev rfl)) rfl rfl rfl fun a E => ?_
      obtain ⟨w3, w4, w5, o1, h4, h5, h6⟩ := h3
      refine sd E (o_fa Tryz.underlying65 rfl Tryz.sizeOf60 (E.ev rfl)) rfl rfl rfl fun a E => ?_
      refine sd E (o_ld Tryz.isAgg60 (E.ev rfl) ((o1.cell _).trans rfl)) rfl rfl rfl fun a E => ?_
      refine sd E (o_mv (E.ev rfl)) rfl rfl rfl fun a E => ?_
      refine sd E (o_mv (E.ev rfl)) rfl rfl rfl fun a E => ?_
      refine sd E (o_bi (E.ev rfl) (E.ev rfl) rfl) rfl rfl rfl fun a E => ?_
      obtain ⟨x11, hx3, hf1⟩ := ob_some hf1
      obtain ⟨b2, p1, g1⟩ := bd_ix h5 hx3
      refine sd E (o_ixg Tryz.underlying60 Tryz.sizeOf40 g1 (E.ev rfl) (E.ev rfl)) rfl rfl rfl fun a E => ?_
      refine sd E (o_ldB Tryz.isAgg40 Tryz.sizeOf40 (E.ev rfl) h5 g1 hx3) rfl rfl rfl fun a E => ?_
      refine sh E (o_ala ((κ + 0), 1001) .u64 8 Tryz.zeroValue40 (by kernel_rfl)) rfl rfl rfl ?_
      rintro a _ s4 ⟨b3, rfl, o2, t4⟩ E
      refine shN E (o_stA Tryz.sizeOf40 o2 (E.ev rfl) (E.ev rfl) (List.length_replicate ..) (bd_len8 h5 hx3)) rfl rfl ?_
      rintro _ s5 ⟨o3, t5⟩
      refine GL_nil ?_
      refine tgn ?_
      refine G_seq ?_
      refine G_region ?_
      refine sd E (o_as (E.ev rfl)) rfl rfl rfl fun a E => ?_
      refine GL_nil ?_
      refine tgn ?_
      refine G_seq ?_
      refine G_seq ?_
      refine G_region ?_
      refine sd E (o_as (E.ev rfl)) rfl rfl rfl fun a E => ?_
      refine GL_nil ?_
      refine tgn ?_
      have f2 := (h4.trN t4).tr t5 (nt_fst (rb lt1))
      have f3 := (h5.trN t4).tr t5 (nt_fst (rb lt1))
      have f4 := (h6.trN t4).tr t5 (nt_fst (rb lt1))
      have f5 := (o1.trN t4).tr t5 (nt_fst (rb lt1))
      have h8 : RDiskAt k1 s5 b1 x10 := ⟨_, _, _, f5, f2, f3, f4⟩
      obtain ⟨r2, hl2, hf1⟩ := ob_some hf1
      refine G_mid1 (fun a' w' => ∃ x12 x13 x14 s', m_17_2k x1 x8 x9 x10 (x12, x13, x14) = some x ∧ w' = s'.w ∧ Tr (Fz κ [k1]) s5 s' ∧ Own ((κ + 0), 1001) s' b3 (cA .u64 x14) 40 ∧ x14.length = 8 ∧ RDiskAt k1 s' b1 x10 ∧ En [] 74 a' [(14, .bool x12), (15, .int .i64 x13), (0, .pointer (some ⟨b1, 0, none⟩)), (1, .int .i64 x1), (2, .int .i64 x2), (3, .int .i64 x3), (8, .pointer none), (9, w2), (10, .int .i64 y3), (11, .bool x8), (12, .int .i64 x9), (13, .pointer (some ⟨b3, 0, none⟩))]) ?_ ?_
      · refine G_block ?_
        refine G_lp hl2 (fun st a' w' => ∃ x12 x13 x14 s', st = (x12, x13, x14) ∧ w' = s'.w ∧ Tr (Fz κ [k1]) s5 s' ∧ Own ((κ + 0), 1001) s' b3 (cA .u64 x14) 40 ∧ x14.length = 8 ∧ RDiskAt k1 s' b1 x10 ∧ En [] 74 a' [(14, .bool x12), (15, .int .i64 x13), (0, .pointer (some ⟨b1, 0, none⟩)), (1, .int .i64 x1), (2, .int .i64 x2), (3, .int .i64 x3), (8, .pointer none), (9, w2), (10, .int .i64 y3), (11, .bool x8), (12, .int .i64 x9), (13, .pointer (some ⟨b3, 0, none⟩))]) ⟨_, _, _, _, rfl, rfl, (Tr.refl _ _), o3, (bd_len8 h5 hx3), h8, ((((((((((((E.nil.ad E rfl rfl).ad E rfl rfl).ad E rfl rfl).ad E rfl rfl).ad E rfl rfl).ad E rfl rfl).ad E rfl rfl).ad E rfl rfl).ad E rfl rfl).ad E rfl rfl).ad E rfl rfl).ad E rfl rfl)⟩ ?_
        rintro _ a _ x ⟨x15, x16, x17, s6, rfl, rfl, t6, o4, ln1, h9, E⟩ hf2
        dsimp only [m_17_2b] at hf2
        refine G_seq ?_
        refine G_seq ?_
        refine G_region ?_
        refine sd E (o_mv (E.ev rfl)) rfl rfl rfl fun a E => ?_
        refine sd E (o_bi (E.ev rfl) (E.ev rfl) rfl) rfl rfl rfl fun a E => ?_
        refine GL_nil ?_
        refine tgn ?_
        refine G_cond (E.ev rfl) (fun ht => ?_) (fun ht => ?_)
        · have hf2 := cT ht hf2
          refine G_skip ?_
          refine tgn ?_
          refine G_seq ?_
          refine G_block ?_
          refine G_seq ?_
          obtain ⟨t7, hc1, hf2⟩ := ob_some hf2
          refine G_regm (fun a' w' => ∃ s', w' = s'.w ∧ Tr No s6 s' ∧ En [] 74 a' [(54, .bool t7), (0, .pointer (some ⟨b1, 0, none⟩)), (1, .int .i64 x1), (2, .int .i64 x2), (3, .int .i64 x3), (8, .pointer none), (9, w2), (10, .int .i64 y3), (11, .bool x8), (12, .int .i64 x9), (13, .pointer (some ⟨b3, 0, none⟩)), (14, .bool x15), (15, .int .i64 x16)]) ?_ ?_
          · refine sd E (o_mv (E.ev rfl)) rfl rfl rfl fun a E => ?_
            refine sd E (o_bi (E.ev rfl) (E.ev rfl) rfl) rfl rfl rfl fun a E => ?_
            refine sd E (o_mv (E.ev rfl)) rfl rfl rfl fun a E => ?_
            refine sd E (o_bi (E.ev rfl) (E.ev rfl) rfl) rfl rfl rfl fun a E => ?_
            refine sd E (o_mv (E.ev rfl)) rfl rfl rfl fun a E => ?_
            refine sd E (o_bi (E.ev rfl) (E.ev rfl) rfl) rfl rfl rfl fun a E => ?_
            refine sd E (o_mv (E.ev rfl)) rfl rfl rfl fun a E => ?_
            refine bcase (E.ev (x := .tmp 49) rfl) (fun ht => ?_) (fun ht => ?_)
            · have hc1 := cT ht hc1
              rw [ht] at E
              refine sd E (o_mv (E.ev rfl)) rfl rfl rfl fun a E => ?_
              obtain ⟨x18, hx4, hc1⟩ := ob_some hc1
              refine sd E (o_ixa Tryz.underlying40 Tryz.sizeOf39 (E.ev rfl) (E.ev rfl) (ix_some hx4).1 (ix_some hx4).2) rfl rfl rfl fun a E => ?_
              obtain ⟨x19, hx5, hc1⟩ := ob_some hc1
              refine sd E (o_ld Tryz.isAgg39 (E.ev rfl) ((o4.cell _).trans (cA_get (gt_get hx5)))) rfl rfl rfl fun a E => ?_
              refine sd E (o_bi (E.ev rfl) (E.ev rfl) rfl) rfl rfl rfl fun a E => ?_
              refine sd E (o_pickT (E.ev rfl) (E.ev rfl)) rfl rfl rfl fun a E => ?_
              obtain rfl := Option.some.inj hc1
              exact GL_nil ⟨_, rfl, (Tr.refl _ _), (((((((((((((E.nil.ad E rfl rfl).ad E rfl rfl).ad E rfl rfl).ad E rfl rfl).ad E rfl rfl).ad E rfl rfl).ad E rfl rfl).ad E rfl rfl).ad E rfl rfl).ad E rfl rfl).ad E rfl rfl).ad E rfl rfl).ad E rfl rfl)⟩
            · have hc1 := cF ht hc1
              rw [ht] at E
              refine sk E rfl rfl rfl fun a E => ?_
              refine sk E rfl rfl rfl fun a E => ?_
              refine sk E rfl rfl rfl fun a E => ?_
              refine sk E rfl rfl rfl fun a E => ?_
              refine sd E (o_pickF (E.ev rfl) (E.ev rfl)) rfl rfl rfl fun a E => ?_
              obtain rfl := Option.some.inj hc1
              exact GL_nil ⟨_, rfl, (Tr.refl _ _), (((((((((((((E.nil.ad E rfl rfl).ad E rfl rfl).ad E rfl rfl).ad E rfl rfl).ad E rfl rfl).ad E rfl rfl).ad E rfl rfl).ad E rfl rfl).ad E rfl rfl).ad E rfl rfl).ad E rfl rfl).ad E rfl rfl).ad E rfl rfl)⟩
          rintro a _ ⟨s7, rfl, t8, E⟩
          refine tgn ?_
          obtain ⟨r3, hl3, hf2⟩ := ob_some hf2
          refine G_mid1 (fun a' w' => ∃ x20 x21 s', m_17_3k x16 (x20, x21) = some x ∧ w' = s'.w ∧ Tr (Fz κ [k1]) s7 s' ∧ Own ((κ + 0), 1001) s' b3 (cA .u64 x21) 40 ∧ x21.length = 8 ∧ RDiskAt k1 s' b1 x10 ∧ En [] 74 a' [(14, .bool x20), (0, .pointer (some ⟨b1, 0, none⟩)), (1, .int .i64 x1), (2, .int .i64 x2), (3, .int .i64 x3), (8, .pointer none), (9, w2), (10, .int .i64 y3), (11, .bool x8), (12, .int .i64 x9), (13, .pointer (some ⟨b3, 0, none⟩)), (15, .int .i64 x16)]) ?_ ?_
          · refine G_cond (E.ev rfl) (fun ht => ?_) (fun ht => ?_)
            · have hl3 := cT ht hl3
              refine G_seq ?_
              refine G_region ?_
              refine sd E (o_mv (E.ev rfl)) rfl rfl rfl fun a E => ?_
              obtain ⟨x22, hx6, hl3⟩ := ob_some hl3
              refine sd E (o_ixa Tryz.underlying40 Tryz.sizeOf39 (E.ev rfl) (E.ev rfl) (ix_some hx6).1 (ix_some hx6).2) rfl rfl rfl fun a E => ?_
              obtain ⟨x23, hx7, hl3⟩ := ob_some hl3
              have f6 := o4.trN t8
              refine shN E (o_sta Tryz.sizeOf39 f6 (E.ev rfl) (E.ev rfl) hx7) rfl rfl ?_
              rintro _ s8 ⟨o5, t9⟩
              refine GL_nil ?_
              refine tgn ?_
              refine G_region ?_
              refine sd E (o_as (E.ev rfl)) rfl rfl rfl fun a E => ?_
              refine GL_nil ?_
              refine ctn ?_
              cases hl3
              have f7 := (h9.trN t8).tr t9 (fun i => (nt_fst (rb lt1)))
              have T1 : Tr (Fz κ [k1]) s7 s8 := (Tr.ft Fz.f t9)
              exact ⟨_, _, _, hf2, rfl, T1, o5, ((st_len hx7).trans ln1), f7, ((((((((((((E.nil.ad E rfl rfl).ad E rfl rfl).ad E rfl rfl).ad E rfl rfl).ad E rfl rfl).ad E rfl rfl).ad E rfl rfl).ad E rfl rfl).ad E rfl rfl).ad E rfl rfl).ad E rfl rfl).ad E rfl rfl)⟩
            · have hl3 := cF ht hl3
              refine G_skip ?_
              refine ctn ?_
              cases hl3
              have f8 := o4.trN t8
              have f9 := h9.trN t8
              exact ⟨_, _, _, hf2, rfl, (Tr.refl _ _), f8, ln1, f9, ((((((((((((E.nil.ad E rfl rfl).ad E rfl rfl).ad E rfl rfl).ad E rfl rfl).ad E rfl rfl).ad E rfl rfl).ad E rfl rfl).ad E rfl rfl).ad E rfl rfl).ad E rfl rfl).ad E rfl rfl).ad E rfl rfl)⟩
          · rintro a _ ⟨x24, x25, s9, hf2, rfl, t10, o6, ln2, h10, E⟩
            dsimp only [m_17_3k] at hf2
            refine ebn ?_
            refine tgn ?_
            refine G_region ?_
            refine sd E (o_mv (E.ev rfl)) rfl rfl rfl fun a E => ?_
            refine sd E (o_bi (E.ev rfl) (E.ev rfl) rfl) rfl rfl rfl fun a E => ?_
            refine sd E (o_as (E.ev rfl)) rfl rfl rfl fun a E => ?_
            refine GL_nil ?_
            obtain rfl := Option.some.inj hf2
            have T2 : Tr (Fz κ [k1]) s5 s9 := ((t6.trans t8.no).trans t10)
            exact lpn ⟨_, _, _, _, rfl, rfl, T2, o6, ln2, h10, ((((((((((((E.nil.ad E rfl rfl).ad E rfl rfl).ad E rfl rfl).ad E rfl rfl).ad E rfl rfl).ad E rfl rfl).ad E rfl rfl).ad E rfl rfl).ad E rfl rfl).ad E rfl rfl).ad E rfl rfl).ad E rfl rfl)⟩
        · have hf2 := cF ht hf2
          refine G_exit ?_
          refine tge ?_
          obtain rfl := Option.some.inj hf2
          refine lpe fun hr => ?_
          subst hr
          refine ebk ?_
          refine ctn ?_
          exact ⟨_, _, _, _, hf1, rfl, t6, o4, ln1, h9, ((((((((((((E.nil.ad E rfl rfl).ad E rfl rfl).ad E rfl rfl).ad E rfl rfl).ad E rfl rfl).ad E rfl rfl).ad E rfl rfl).ad E rfl rfl).ad E rfl rfl).ad E rfl rfl).ad E rfl rfl).ad E rfl rfl)⟩
      · rintro a _ ⟨x26, x27, x28, s10, hf1, rfl, t11, o7, ln3, h11, E⟩
        dsimp only [m_17_2k] at hf1
        refine tgn ?_
        refine G_seq ?_
        refine G_region ?_
        refine sd E (o_mv (E.ev rfl)) rfl rfl rfl fun a E => ?_
        refine GL_nil ?_
        refine tgn ?_
        obtain ⟨r4, hl4, hf1⟩ := ob_some hf1
        refine G_mid1 (fun a' w' => ∃ x29 x30 s', m_17_4k x9 (x29, x30) = some x ∧ w' = s'.w ∧ Tr (Fz κ [k1]) s10 s' ∧ RDiskAt k1 s' b1 x30 ∧ En [] 74 a' [(11, .bool x29), (0, .pointer (some ⟨b1, 0, none⟩)), (1, .int .i64 x1), (2, .int .i64 x2), (3, .int .i64 x3), (8, .pointer none), (9, w2), (10, .int .i64 y3), (12, .int .i64 x9)]) ?_ ?_
        · refine G_cond (E.ev rfl) (fun ht => ?_) (fun ht => ?_)
          · have hl4 := cT ht hl4
            refine G_seq ?_
            refine G_region ?_
            refine sd E (o_as (E.ev rfl)) rfl rfl rfl fun a E => ?_
            refine GL_nil ?_
            refine tgn ?_
            refine G_region ?_
            refine sd E (o_mv (E.ev rfl)) rfl rfl rfl fun a E => ?_
            refine sd E (o_mv (E.ev rfl)) rfl rfl rfl fun a E => ?_
            refine sd E (o_mv (E.ev rfl)) rfl rfl rfl fun a E => ?_
            refine sd E (o_bi (E.ev rfl) (E.ev rfl) rfl) rfl rfl rfl fun a E => ?_
            refine sd E (o_ldA Tryz.isAgg40 Tryz.sizeOf40 (E.ev rfl) ln3 o7.cell) rfl rfl rfl fun a E => ?_
            obtain ⟨X2, hx8, hl4⟩ := ob_some hl4
            refine sh E (o_ok Tryz.call39 (E.evs rfl) (E.ev rfl) (ok_44 _ (x1 := IntKind.wrap .i64 (x1 + x9)) (x2 := x28) h11 ln3 hx8)) rfl rfl rfl ?_
            rintro a _ s11 ⟨t12, h12⟩ E
            refine GL_nil ?_
            refine ctn ?_
            cases hl4
            have T3 : Tr (Fz κ [k1]) s10 s11 := (Tr.fw1 Fz.w0 t12)
            exact ⟨_, _, _, hf1, rfl, T3, h12, (((((((((E.nil.ad E rfl rfl).ad E rfl rfl).ad E rfl rfl).ad E rfl rfl).ad E rfl rfl).ad E rfl rfl).ad E rfl rfl).ad E rfl rfl).ad E rfl rfl)⟩
          · have hl4 := cF ht hl4
            refine G_skip ?_
            refine ctn ?_
            cases hl4
            exact ⟨_, _, _, hf1, rfl, (Tr.refl _ _), h11, (((((((((E.nil.ad E rfl rfl).ad E rfl rfl).ad E rfl rfl).ad E rfl rfl).ad E rfl rfl).ad E rfl rfl).ad E rfl rfl).ad E rfl rfl).ad E rfl rfl)⟩
        · rintro a _ ⟨x31, x32, s12, hf1, rfl, t13, h13, E⟩
          dsimp only [m_17_4k] at hf1
          refine ebn ?_
          refine tgn ?_
          refine G_region ?_
          refine sd E (o_mv (E.ev rfl)) rfl rfl rfl fun a E => ?_
          refine sd E (o_bi (E.ev rfl) (E.ev rfl) rfl) rfl rfl rfl fun a E => ?_
          refine sd E (o_as (E.ev rfl)) rfl rfl rfl fun a E => ?_
          refine GL_nil ?_
          obtain rfl := Option.some.inj hf1
          have T4 : Tr (Fz κ [k1]) s2 s12 := ((((t3.trans t4.no).trans (Tr.ft Fz.f t5)).trans t11).trans t13)
          exact lpn ⟨_, _, _, _, rfl, rfl, T4, h13, (((((((((E.nil.ad E rfl rfl).ad E rfl rfl).ad E rfl rfl).ad E rfl rfl).ad E rfl rfl).ad E rfl rfl).ad E rfl rfl).ad E rfl rfl).ad E rfl rfl)⟩
    · have hf1 := cF ht hf1
      refine G_exit ?_
      refine tge ?_
      obtain rfl := Option.some.inj hf1
      refine lpe fun hr => ?_
      subst hr
      refine ebk ?_
      refine ctn ?_
      exact ⟨_, _, _, _, hm, rfl, t3, h3, (((((((((E.nil.ad E rfl rfl).ad E rfl rfl).ad E rfl rfl).ad E rfl rfl).ad E rfl rfl).ad E rfl rfl).ad E rfl rfl).ad E rfl rfl).ad E rfl rfl)⟩
  · rintro a _ ⟨x33, x34, x35, s13, hm, rfl, t14, h14, E⟩
    dsimp only [m_17_1k] at hm
    refine tgn ?_
    refine G_seq ?_
    refine G_seq ?_
    refine G_region ?_
    refine sd E (o_mv (E.ev rfl)) rfl rfl rfl fun a E => ?_
    refine GL_nil ?_
    refine tgn ?_
    obtain ⟨r5, hl5, hm⟩ := ob_some hm
    refine G_mid1 (fun a' w' => ∃ x36 s', m_17_5k x1 x2 x3 y2 x36 = some (r0y, Y1) ∧ w' = s'.w ∧ Tr (Fz κ [k1]) s13 s' ∧ RDiskAt k1 s' b1 x36 ∧ En [] 74 a' [(0, .pointer (some ⟨b1, 0, none⟩)), (1, .int .i64 x1), (2, .int .i64 x2), (3, .int .i64 x3), (8, .pointer none), (9, w2)]) ?_ ?_
    · refine G_cond (E.ev rfl) (fun ht => ?_) (fun ht => ?_)
      · have hl5 := cT ht hl5
        refine G_region ?_
        refine sd E (o_mv (E.ev rfl)) rfl rfl rfl fun a E => ?_
        obtain ⟨X3, hx9, hl5⟩ := ob_some hl5
        refine sh E (o_ok Tryz.call10 (E.evs rfl) (E.ev rfl) (ok_45 _ h14 hx9)) rfl rfl rfl ?_
        rintro a _ s14 ⟨t15, h15⟩ E
        refine GL_nil ?_
        refine ctn ?_
        cases hl5
        have T5 : Tr (Fz κ [k1]) s13 s14 := (Tr.fw1 Fz.w0 t15)
        exact ⟨_, _, hm, rfl, T5, h15, ((((((E.nil.ad E rfl rfl).ad E rfl rfl).ad E rfl rfl).ad E rfl rfl).ad E rfl rfl).ad E rfl rfl)⟩
      · have hl5 := cF ht hl5
        refine G_skip ?_
        refine ctn ?_
        cases hl5
        exact ⟨_, _, hm, rfl, (Tr.refl _ _), h14, ((((((E.nil.ad E rfl rfl).ad E rfl rfl).ad E rfl rfl).ad E rfl rfl).ad E rfl rfl).ad E rfl rfl)⟩
    · rintro a _ ⟨x37, s15, hm, rfl, t16, h16, E⟩
      dsimp only [m_17_5k] at hm
      refine tgn ?_
      refine G_seq ?_
      refine G_region ?_
      refine sd E (o_mv (E.ev rfl)) rfl rfl rfl fun a E => ?_
      refine sd E (o_mv (E.ev rfl)) rfl rfl rfl fun a E => ?_
      refine sd E (o_mv (E.ev rfl)) rfl rfl rfl fun a E => ?_
      refine sd E (o_mv (E.ev rfl)) rfl rfl rfl fun a E => ?_
      refine sd E (o_mv (E.ev rfl)) rfl rfl rfl fun a E => ?_
      have f10 := (h2.tr t14).tr t16
      obtain ⟨a1, c1, rfl⟩ := f10.isS
      refine sd E (o_bd (cells := #[.pointer (some ⟨b1, 0, none⟩), .int .i64 x1, .int .i64 x2, .int .i64 x3, (.slice a1 y2.length c1)]) (places := #[(0, 1), (1, 1), (2, 1), (3, 1), (4, 1)]) Tryz.zeroValue79 Tryz.underlying79 (fun w => by simp [Sem.run_bind, Result.andThen, Tryz.sizeOf3, Tryz.sizeOf43, Tryz.sizeOf27]) (qs := #[(0, .pointer (some ⟨b1, 0, none⟩)), (1, .int .i64 x1), (2, .int .i64 x2), (3, .int .i64 x3), (4, (.slice a1 y2.length c1))]) (by simp only [List.map_toArray, List.map_cons, List.map_nil, E.ev (x := .tmp 67) (v := .pointer (some ⟨b1, 0, none⟩)) rfl, E.ev (x := .tmp 68) (v := .int .i64 x1) rfl, E.ev (x := .tmp 69) (v := .int .i64 x2) rfl, E.ev (x := .tmp 70) (v := .int .i64 x3) rfl, E.ev (x := .tmp 71) (v := (.slice a1 y2.length c1)) rfl]) (by kernel_rfl)) rfl rfl rfl fun a E => ?_
      refine sh E (o_boxo ((κ + 1), 0) (E.ev rfl)) rfl rfl rfl ?_
      rintro a _ s16 ⟨b4, rfl, o8, t17⟩ E
      refine sd E (o_as (E.ev rfl)) rfl rfl rfl fun a E => ?_
      refine GL_nil ?_
      refine tgn ?_
      refine G_ret ?_
      cases hm
      have f11 := f10.tr t17
      have h17 : RLogAt (κ + 1) b1 s16 b4 (⟨x1, x2, x3, y2⟩ : RLog) := ⟨_, o8, f11⟩
      obtain ⟨s17, e1, h18, t18⟩ := h17.rt q0
      rw [e1]
      have t18 := Tr.w1 t18
      have f12 := (h16.trN t17).tr t18 (fun i => (nW1 (rb lt1)))
      have T6 : Tr (Fz κ [k1]) s s17 := (((((t1.no.trans t2.no).trans t14).trans t16).trans t17.no).trans (Tr.fw1 Fz.f t18))
      exact fin1 E rfl rfl ⟨(Tr.fin hκ T6), _, rfl, f12, h18⟩

end Go.Proofs.YtdkfdmalbbfbmaaGreat
