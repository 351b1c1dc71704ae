/- Models and walks, printed by a program of ours. -/
import Derived.Test.YtdkfdmalbbfbmaaGreatMWL13
/- Models and walks, printed by a program of ours. -/
namespace Go.Proofs.YtdkfdmalbbfbmaaGreat
open Go Go.Maps
set_option maxRecDepth 4000
set_option maxHeartbeats 1000000
-- (*gimmal/log.Log).Epoch

-- (*gimmal/log.Log).Frames
noncomputable def m_12_1b (X1 : LogM) : ((List Frame) × Int) → Option (Lo ((List Frame) × Int) ((List Frame) × Int)) := fun (x4, x5) => bif decide (x5 < (X1.frames.length : Int)) then (ob (gt X1.frames x5) fun x6 => ob (m_39 x6.Words) fun y1 => ob (ap x4 [(⟨x6.Kind, y1⟩ : Frame)]) fun x7 => some (.inl (x7, IntKind.wrap .i64 (x5 + 1)))) else (some (.inr (x4, x5)))
noncomputable def m_12_1k : ((List Frame) × Int) → Option (List Frame) := fun (x8, x9) => some x8
noncomputable def m_12 (X1 : LogM) : Option (List Frame) :=
  ob (loopO (m_12_1b X1) ([], 0)) (m_12_1k)
theorem ok_12 (s : St) (tr0 : Tg) {k1 b1 : Nat} {X1 : LogM} {d1d : Nat} (ho1 : LogAt k1 d1d s b1 X1) {r0y : List Frame} (hm : m_12 X1 = some r0y) :
    Ok Tryz.prog 47 ([.pointer (some ⟨b1, 0, none⟩)] : List Value).toArray s fun v s' => Tr No s s' ∧ ∃ w1, v = w1 ∧ Bd tr0 kFr 38 0 s' w1 r0y := by
  unfold m_12 at hm
  obtain ⟨κ, hκ⟩ := s.fresh
  have lt1 : k1 < κ := hκ _ _ ho1.tag
  refine ok_of (n := 28) _ Tryz.func47 rfl _ rfl rfl fun a E => ?_
  refine G_seq ?_
  refine G_region ?_
  refine sd E (o_as (E.ev rfl)) rfl rfl rfl fun a E => ?_
  refine GL_nil ?_
  refine tgn ?_
  refine G_seq ?_
  refine G_seq ?_
  refine G_region ?_
  refine sd E (o_mv (E.ev rfl)) rfl rfl rfl fun a E => ?_
  refine sd E (o_eqp Tryz.underlying66 (E.ev rfl) (E.ev rfl)) rfl rfl rfl fun a E => ?_
  refine GL_nil ?_
  refine tgn ?_
  refine G_cond (t := false) (E.ev rfl) nofun (fun _ => ?_)
  refine G_skip ?_
  refine tgn ?_
  refine G_seq ?_
  refine G_region ?_
  refine sd E (o_as (E.ev rfl)) rfl rfl rfl fun a E => ?_
  refine GL_nil ?_
  refine tgn ?_
  refine G_seq ?_
  refine G_seq ?_
  refine G_region ?_
  refine sd E (o_mv (E.ev rfl)) rfl rfl rfl fun a E => ?_
  refine sd E (o_nc (E.ev rfl)) rfl rfl rfl fun a E => ?_
  obtain ⟨w2, w3, o1, h1, h2⟩ := ho1
  refine sd E (o_fa Tryz.underlying112 rfl Tryz.sizeOf43 (E.ev rfl)) rfl rfl rfl fun a E => ?_
  refine sd E (o_ld Tryz.isAgg43 (E.ev rfl) ((o1.cell _).trans rfl)) rfl rfl rfl fun a E => ?_
  refine sd E (o_lenS (xs := X1.frames) Tryz.underlying43 (E.ev rfl) h2.isS) rfl rfl rfl fun a E => ?_
  refine sd E (o_mv (E.ev rfl)) rfl rfl rfl fun a E => ?_
  refine GL_nil ?_
  refine tgn ?_
  have h3 : LogAt k1 d1d s b1 X1 := ⟨_, _, o1, h1, h2⟩
  obtain ⟨r1, hl1, hm⟩ := ob_some hm
  refine G_mid1 (fun a' w' => ∃ x2 x3 s' w4, m_12_1k (x2, x3) = some r0y ∧ w' = s'.w ∧ Tr (Fz κ []) s s' ∧ Bd ((κ + 0), 1001) kFr 38 0 s' w4 x2 ∧ Bd (k1, 2) kFr 38 0 s' w3 X1.frames ∧ En [] 28 a' [(3, w4), (13, .int .i64 x3), (2, (.slice none 0 0)), (11, w3), (12, .int .i64 (X1.frames.length : Int))]) ?_ ?_
  · refine G_block ?_
    refine G_lp hl1 (fun st a' w' => ∃ x2 x3 s' w4, st = (x2, x3) ∧ w' = s'.w ∧ Tr (Fz κ []) s s' ∧ Bd ((κ + 0), 1001) kFr 38 0 s' w4 x2 ∧ Bd (k1, 2) kFr 38 0 s' w3 X1.frames ∧ En [] 28 a' [(3, w4), (13, .int .i64 x3), (2, (.slice none 0 0)), (11, w3), (12, .int .i64 (X1.frames.length : Int))]) ⟨_, _, _, _, rfl, rfl, (Tr.refl _ _), Bd.nil, h2, (((((E.nil.ad E rfl rfl).ad E rfl rfl).ad E rfl rfl).ad E rfl rfl).ad E rfl rfl)⟩ ?_
    rintro _ a _ x ⟨x4, x5, s1, w5, rfl, rfl, t1, h4, h5, E⟩ hf1
    dsimp only [m_12_1b] at hf1
    refine G_seq ?_
    refine G_region ?_
    refine sd E (o_bi (E.ev rfl) (E.ev rfl) rfl) rfl rfl rfl fun a E => ?_
    refine GL_nil ?_
    refine tgn ?_
    refine G_seq ?_
    refine G_cond (E.ev rfl) (fun ht => ?_) (fun ht => ?_)
    · have hf1 := cT ht hf1
      refine G_skip ?_
      refine tgn ?_
      refine G_seq ?_
      refine G_block ?_
      refine G_seq ?_
      refine G_region ?_
      obtain ⟨x6, hx1, hf1⟩ := ob_some hf1
      obtain ⟨b2, p1, g1⟩ := bd_ix h5 hx1
      refine sd E (o_ixg Tryz.underlying43 Tryz.sizeOf38 g1 (E.ev rfl) (E.ev rfl)) rfl rfl rfl fun a E => ?_
      obtain ⟨w6, e1, e2, h7⟩ := bd_fr h5 g1 hx1
      refine sd E (o_ld2 Tryz.isAgg38 Tryz.sizeOf38 (E.ev rfl) e1 e2) rfl rfl rfl fun a E => ?_
      refine sh E (o_al ((κ + 0), 1002) Tryz.zeroValue38) rfl rfl rfl ?_
      rintro a _ s2 ⟨b3, rfl, o2, t2⟩ E
      have f1 := h7.tr t2
      obtain ⟨a1, c1, rfl⟩ := f1.isS
      refine shN E (o_st (o := 0) (cs' := #[.int .i64 x6.Kind, (.slice a1 x6.Words.length c1)]) (v := .agg #[.int .i64 x6.Kind, (.slice a1 x6.Words.length c1)]) Tryz.sizeOf38 o2 (E.ev rfl) (E.ev rfl) (Nat.le_of_ble_eq_true rfl) (one_cells rfl) rfl) rfl rfl ?_
      rintro _ s3 ⟨o3, t3⟩
      refine GL_nil ?_
      refine tgn ?_
      refine G_drw (κ + 1) (by rfl) [0, 1, 2, 3, 4, 5, 6, 7, 8, 9] (by kernel_rfl) ?_
      intro s4 t4
      refine dp E rfl (fun w => (o_mv (E.ev rfl))) rfl rfl rfl fun a E => ?_
      refine dp E rfl (fun w => (o_fa Tryz.underlying38 rfl Tryz.sizeOf3 (E.ev rfl))) rfl rfl rfl fun a E => ?_
      have f2 := o3.trN t4
      refine dr E rfl (fun s' t => (o_ld Tryz.isAgg3 (E.ev rfl) (((f2.trN t).cell _).trans rfl))) rfl rfl rfl (by kernel_rfl) fun a E => ?_
      refine dp E rfl (fun w => (o_fa Tryz.underlying38 rfl Tryz.sizeOf36 (E.ev rfl))) rfl rfl rfl fun a E => ?_
      refine dr E rfl (fun s' t => (o_ld Tryz.isAgg36 (E.ev rfl) (((f2.trN t).cell _).trans rfl))) rfl rfl rfl (by kernel_rfl) fun a E => ?_
      have f3 := (f1.tr t3).tr t4
      obtain ⟨y1, hx2, hf1⟩ := ob_some hf1
      refine df E rfl (fun s' t => hv_swapq (o_ok Tryz.call48 (E.evs rfl) (E.ev rfl) (ok_39 _ (x0 := x6.Words) (f3.tr t) hx2))) rfl rfl rfl (by kernel_rfl) ?_
      rintro a w7 s5 ⟨_, rfl, h8⟩ t5 E
      obtain ⟨a2, c2, rfl⟩ := h8.isS
      refine dp E rfl (fun w => (o_bd (cells := #[.int .i64 x6.Kind, (.slice a2 y1.length c2)]) (places := #[(0, 1), (1, 1)]) Tryz.zeroValue38 Tryz.underlying38 (fun w => by simp [Sem.run_bind, Result.andThen, Tryz.sizeOf3, Tryz.sizeOf36]) (qs := #[(0, .int .i64 x6.Kind), (1, (.slice a2 y1.length c2))]) (by simp only [List.map_toArray, List.map_cons, List.map_nil, E.ev (x := .tmp 19) (v := .int .i64 x6.Kind) rfl, E.ev (x := .tmp 22) (v := (.slice a2 y1.length c2)) rfl]) (by kernel_rfl))) rfl rfl rfl fun a E => ?_
      refine dbs (K := kFr) [(⟨x6.Kind, y1⟩ : Frame)] E rfl Tryz.underlying43 Tryz.sizeOf38 Tryz.zeroValue38 (qs := #[(0, .agg #[.int .i64 x6.Kind, (.slice a2 y1.length c2)])]) (cells := #[.int .i64 x6.Kind, (.slice a2 y1.length c2)]) (by simp only [List.map_toArray, List.map_cons, List.map_nil, E.ev (x := .tmp 23) (v := .agg #[.int .i64 x6.Kind, (.slice a2 y1.length c2)]) rfl]) rfl rfl (by kernel_rfl) (fun s' l => ⟨_, _, rfl, ⟨_, rfl, (h8.up l)⟩, rfl⟩) rfl rfl rfl rfl (by kernel_rfl) ?_
      rintro a s6 b4 h9 t6 E
      obtain ⟨x7, hx3, hf1⟩ := ob_some hf1
      obtain ⟨hx3, hz1⟩ := ap_some hx3
      have f4 := ((((h4.trN t2).tr t3 (nt_snd rfl)).trN t4).trN t5).trN t6
      refine dw E rfl (fun s' t => o_app Tryz.underlying43 Tryz.type38 rfl rfl rfl rfl rfl rfl (f4.trN t) (h9.trN t).rd (E.ev rfl) (E.ev rfl) hx3 (Nat.zero_le _)) (fun n _ => nt_fst (ra rfl)) rfl rfl rfl (by kernel_rfl) ?_
      rintro a w8 s7 h10 t7 E
      rw [hz1] at h10
      refine dp E rfl (fun w => (o_as (E.ev rfl))) rfl rfl rfl fun a E => ?_
      refine gd_nil ?_
      refine ebn ?_
      refine tgn ?_
      refine G_region ?_
      refine sd E (o_bi (E.ev rfl) (E.ev rfl) rfl) rfl rfl rfl fun a E => ?_
      refine sd E (o_mv (E.ev rfl)) rfl rfl rfl fun a E => ?_
      refine GL_nil ?_
      obtain rfl := Option.some.inj hf1
      have f5 := (((((h5.trN t2).tr t3 (nt_fst (rb lt1))).trN t4).trN t5).trN t6).tr t7 (nt_fst (rb lt1))
      have T1 : Tr (Fz κ []) s s7 := ((((((t1.trans t2.no).trans (Tr.ft Fz.f t3)).trans t4.no).trans t5.no).trans t6.no).trans (Tr.ft Fz.f t7))
      exact lpn ⟨_, _, _, _, rfl, rfl, T1, h10, f5, (((((E.nil.ad E rfl rfl).ad E rfl rfl).ad E rfl rfl).ad E rfl rfl).ad E rfl rfl)⟩
    · have hf1 := cF ht hf1
      refine G_exit ?_
      refine tge ?_
      obtain rfl := Option.some.inj hf1
      refine lpe fun hr => ?_
      subst hr
      refine ebk ?_
      refine ctn ?_
      exact ⟨_, _, _, _, hm, rfl, t1, h4, h5, (((((E.nil.ad E rfl rfl).ad E rfl rfl).ad E rfl rfl).ad E rfl rfl).ad E rfl rfl)⟩
  · rintro a _ ⟨x8, x9, s8, w9, hm, rfl, t8, h11, h12, E⟩
    dsimp only [m_12_1k] at hm
    refine tgn ?_
    refine G_seq ?_
    refine G_region ?_
    refine sd E (o_mv (E.ev rfl)) rfl rfl rfl fun a E => ?_
    refine sd E (o_as (E.ev rfl)) rfl rfl rfl fun a E => ?_
    refine GL_nil ?_
    refine tgn ?_
    refine G_ret ?_
    cases hm
    obtain ⟨s9, e3, h13, t9⟩ := h11.rt tr0
    rw [e3]
    have T2 : Tr (Fz κ []) s s9 := (t8.trans (Tr.ft Fz.f t9))
    exact fin1 E rfl rfl ⟨(Tr.fin0 hκ T2), _, rfl, h13⟩

-- gimmal/log.Open

noncomputable def m_9 (X1 : Disk) (x1 : Int) (x2 : Int) (x3 : Int) : Option (LogM × Int × Disk) :=
  ob (mq_32 X1) fun y1 => ob (bif decide (x1 < 0) then (some true) else (bif decide (x2 < 1) then (some true) else (bif decide (x1 > y1) then (some true) else (some (decide (x2 > (IntKind.wrap .i64 (y1 - x1)))))))) fun t2 => bif t2 then (none) else (ob (bif decide (x3 < 0) then (some true) else (some (decide (x3 > 4294967295)))) fun t4 => bif t4 then (none) else (ob (mq_33 X1 x1 x2) fun (y2, y3) => bif y3 != 0 then (none) else (ob (m_34 x3 y2) fun (y4, y5) => ob (sl y2 0 y5) fun x5 => ob (gd (!y2.isEmpty) (some ())) fun x6 => ob (m_35 (⟨x1, x2, x3, x5, y4⟩ : LogM) X1 y2) fun X2 => some ((⟨x1, x2, x3, x5, y4⟩ : LogM), 0, X2))))
theorem ok_9 (s : St) (q0 : Nat) {k1 b1 : Nat} {X1 : Disk} {x1 : Int} {x2 : Int} {x3 : Int} (ho1 : DiskAt k1 s b1 X1) {r0y : LogM} {r1y : Int} {Y1 : Disk} (hm : m_9 X1 x1 x2 x3 = some (r0y, r1y, Y1)) :
    Ok Tryz.prog 56 ([.pointer (some ⟨b1, 0, none⟩), .int .i64 x1, .int .i64 x2, .int .i64 x3] : List Value).toArray s fun v s' => Tr (Ws [k1]) s s' ∧ ∃ nb0, v = .tuple #[.pointer (some ⟨nb0, 0, none⟩), .int .i64 r1y] ∧ DiskAt k1 s' b1 Y1 ∧ LogAt q0 b1 s' nb0 r0y := by
  unfold m_9 at hm
  obtain ⟨κ, hκ⟩ := s.fresh
  have lt1 : k1 < κ := hκ _ _ ho1.tag
  refine ok_of (n := 75) _ Tryz.func56 rfl _ rfl rfl fun a E => ?_
  refine G_seq ?_
  refine G_region ?_
  refine sd E (o_as (E.ev rfl)) rfl rfl rfl fun a E => ?_
  refine sd E (o_as (E.ev rfl)) rfl rfl rfl fun a E => ?_
  refine GL_nil ?_
  refine tgn ?_
  refine G_seq ?_
  refine G_seq ?_
  refine G_region ?_
  refine sd E (o_mv (E.ev rfl)) rfl rfl rfl fun a E => ?_
  obtain ⟨y1, hx1, hm⟩ := ob_some hm
  refine sh E (o_ok Tryz.call23 (E.evs rfl) (E.ev rfl) (oq_32 _ ho1 hx1)) rfl rfl rfl ?_
  rintro a _ s1 ⟨t1, rfl⟩ E
  refine sd E (o_as (E.ev rfl)) rfl rfl rfl fun a E => ?_
  refine GL_nil ?_
  refine tgn ?_
  refine G_block ?_
  refine G_seq ?_
  obtain ⟨t2, hc1, hm⟩ := ob_some hm
  refine G_regm (fun a' w' => ∃ s', w' = s'.w ∧ Tr No s1 s' ∧ En [] 75 a' [(18, .bool t2), (0, .pointer (some ⟨b1, 0, none⟩)), (1, .int .i64 x1), (2, .int .i64 x2), (3, .int .i64 x3), (8, .pointer none), (9, .int .i64 0)]) ?_ ?_
  · refine sd E (o_mv (E.ev rfl)) rfl rfl rfl fun a E => ?_
    refine sd E (o_bi (E.ev rfl) (E.ev rfl) rfl) rfl rfl rfl fun a E => ?_
    refine sd E (o_mv (E.ev rfl)) rfl rfl rfl fun a E => ?_
    refine bcase (E.ev (x := .tmp 21) rfl) (fun ht => ?_) (fun ht => ?_)
    · have hc1 := cT ht hc1
      rw [ht] at E
      refine sk E rfl rfl rfl fun a E => ?_
      refine sk E rfl rfl rfl fun a E => ?_
      refine sd E (o_pickT (E.ev rfl) (E.ev rfl)) rfl rfl rfl fun a E => ?_
      refine sd E (o_mv (E.ev rfl)) rfl rfl rfl fun a E => ?_
      refine sk E rfl rfl rfl fun a E => ?_
      refine sk E rfl rfl rfl fun a E => ?_
      refine sk E rfl rfl rfl fun a E => ?_
      refine sd E (o_pickT (E.ev rfl) (E.ev rfl)) rfl rfl rfl fun a E => ?_
      refine sd E (o_mv (E.ev rfl)) rfl rfl rfl fun a E => ?_
      refine sk E rfl rfl rfl fun a E => ?_
      refine sk E rfl rfl rfl fun a E => ?_
      refine sk E rfl rfl rfl fun a E => ?_
      refine sk E rfl rfl rfl fun a E => ?_
      refine sk E rfl rfl rfl fun a E => ?_
      refine sd E (o_pickT (E.ev rfl) (E.ev rfl)) rfl rfl rfl fun a E => ?_
      refine sd E (o_as (E.ev rfl)) rfl rfl rfl fun a E => ?_
      obtain rfl := Option.some.inj hc1
      exact GL_nil ⟨_, rfl, (Tr.refl _ _), (((((((E.nil.ad E rfl rfl).ad E rfl rfl).ad E rfl rfl).ad E rfl rfl).ad E rfl rfl).ad E rfl rfl).ad E rfl rfl)⟩
    · have hc1 := cF ht hc1
      rw [ht] at E
      refine sd E (o_mv (E.ev rfl)) rfl rfl rfl fun a E => ?_
      refine sd E (o_bi (E.ev rfl) (E.ev rfl) rfl) rfl rfl rfl fun a E => ?_
      refine sd E (o_pickF (E.ev rfl) (E.ev rfl)) rfl rfl rfl fun a E => ?_
      refine sd E (o_mv (E.ev rfl)) rfl rfl rfl fun a E => ?_
      refine bcase (E.ev (x := .tmp 25) rfl) (fun ht => ?_) (fun ht => ?_)
      · have hc1 := cT ht hc1
        rw [ht] at E
        refine sk E rfl rfl rfl fun a E => ?_
        refine sk E rfl rfl rfl fun a E => ?_
        refine sk E rfl rfl rfl fun a E => ?_
        refine sd E (o_pickT (E.ev rfl) (E.ev rfl)) rfl rfl rfl fun a E => ?_
        refine sd E (o_mv (E.ev rfl)) rfl rfl rfl fun a E => ?_
        refine sk E rfl rfl rfl fun a E => ?_
        refine sk E rfl rfl rfl fun a E => ?_
        refine sk E rfl rfl rfl fun a E => ?_
        refine sk E rfl rfl rfl fun a E => ?_
        refine sk E rfl rfl rfl fun a E => ?_
        refine sd E (o_pickT (E.ev rfl) (E.ev rfl)) rfl rfl rfl fun a E => ?_
        refine sd E (o_as (E.ev rfl)) rfl rfl rfl fun a E => ?_
        obtain rfl := Option.some.inj hc1
        exact GL_nil ⟨_, rfl, (Tr.refl _ _), (((((((E.nil.ad E rfl rfl).ad E rfl rfl).ad E rfl rfl).ad E rfl rfl).ad E rfl rfl).ad E rfl rfl).ad E rfl rfl)⟩
      · have hc1 := cF ht hc1
        rw [ht] at E
        refine sd E (o_mv (E.ev rfl)) rfl rfl rfl fun a E => ?_
        refine sd E (o_mv (E.ev rfl)) rfl rfl rfl fun a E => ?_
        refine sd E (o_bi (E.ev rfl) (E.ev rfl) rfl) rfl rfl rfl fun a E => ?_
        refine sd E (o_pickF (E.ev rfl) (E.ev rfl)) rfl rfl rfl fun a E => ?_
        refine sd E (o_mv (E.ev rfl)) rfl rfl rfl fun a E => ?_
        refine bcase (E.ev (x := .tmp 30) rfl) (fun ht => ?_) (fun ht => ?_)
        · have hc1 := cT ht hc1
          rw [ht] at E
          refine sk E rfl rfl rfl fun a E => ?_
          refine sk E rfl rfl rfl fun a E => ?_
          refine sk E rfl rfl rfl fun a E => ?_
          refine sk E rfl rfl rfl fun a E => ?_
          refine sk E rfl rfl rfl fun a E => ?_
          refine sd E (o_pickT (E.ev rfl) (E.ev rfl)) rfl rfl rfl fun a E => ?_
          refine sd E (o_as (E.ev rfl)) rfl rfl rfl fun a E => ?_
          obtain rfl := Option.some.inj hc1
          exact GL_nil ⟨_, rfl, (Tr.refl _ _), (((((((E.nil.ad E rfl rfl).ad E rfl rfl).ad E rfl rfl).ad E rfl rfl).ad E rfl rfl).ad E rfl rfl).ad E rfl rfl)⟩
        · have hc1 := cF ht hc1
          rw [ht] at E
          refine sd E (o_mv (E.ev rfl)) rfl rfl rfl fun a E => ?_
          refine sd E (o_mv (E.ev rfl)) rfl rfl rfl fun a E => ?_
          refine sd E (o_mv (E.ev rfl)) rfl rfl rfl fun a E => ?_
          refine sd E (o_bi (E.ev rfl) (E.ev rfl) rfl) rfl rfl rfl fun a E => ?_
          refine sd E (o_bi (E.ev rfl) (E.ev rfl) rfl) rfl rfl rfl fun a E => ?_
          refine sd E (o_pickF (E.ev rfl) (E.ev rfl)) rfl rfl rfl fun a E => ?_
          refine sd E (o_as (E.ev rfl)) rfl rfl rfl fun a E => ?_
          obtain rfl := Option.some.inj hc1
          exact GL_nil ⟨_, rfl, (Tr.refl _ _), (((((((E.nil.ad E rfl rfl).ad E rfl rfl).ad E rfl rfl).ad E rfl rfl).ad E rfl rfl).ad E rfl rfl).ad E rfl rfl)⟩
  rintro a _ ⟨s2, rfl, t3, E⟩
  refine tgn ?_
  refine G_cond (E.ev rfl) (fun ht => ?_) (fun ht => ?_)
  · have hm := cT ht hm
    refine G_seq ?_
    refine G_region ?_
    refine sd E (o_as (E.ev rfl)) rfl rfl rfl fun a E => ?_
    refine sd E (o_as (E.ev rfl)) rfl rfl rfl fun a E => ?_
    refine GL_nil ?_
    refine tgn ?_
    refine G_ret ?_
    refine ebr ?_
    refine tgr ?_
    cases hm
  · have hm := cF ht hm
    refine G_seq ?_
    obtain ⟨t4, hc2, hm⟩ := ob_some hm
    refine G_regm (fun a' w' => ∃ s', w' = s'.w ∧ Tr No s2 s' ∧ En [] 75 a' [(37, .bool t4), (0, .pointer (some ⟨b1, 0, none⟩)), (1, .int .i64 x1), (2, .int .i64 x2), (3, .int .i64 x3), (8, .pointer none), (9, .int .i64 0)]) ?_ ?_
    · refine sd E (o_mv (E.ev rfl)) rfl rfl rfl fun a E => ?_
      refine sd E (o_bi (E.ev rfl) (E.ev rfl) rfl) rfl rfl rfl fun a E => ?_
      refine sd E (o_mv (E.ev rfl)) rfl rfl rfl fun a E => ?_
      refine bcase (E.ev (x := .tmp 40) rfl) (fun ht => ?_) (fun ht => ?_)
      · have hc2 := cT ht hc2
        rw [ht] at E
        refine sk E rfl rfl rfl fun a E => ?_
        refine sk E rfl rfl rfl fun a E => ?_
        refine sd E (o_pickT (E.ev rfl) (E.ev rfl)) rfl rfl rfl fun a E => ?_
        refine sd E (o_as (E.ev rfl)) rfl rfl rfl fun a E => ?_
        obtain rfl := Option.some.inj hc2
        exact GL_nil ⟨_, rfl, (Tr.refl _ _), (((((((E.nil.ad E rfl rfl).ad E rfl rfl).ad E rfl rfl).ad E rfl rfl).ad E rfl rfl).ad E rfl rfl).ad E rfl rfl)⟩
      · have hc2 := cF ht hc2
        rw [ht] at E
        refine sd E (o_mv (E.ev rfl)) rfl rfl rfl fun a E => ?_
        refine sd E (o_bi (E.ev rfl) (E.ev rfl) rfl) rfl rfl rfl fun a E => ?_
        refine sd E (o_pickF (E.ev rfl) (E.ev rfl)) rfl rfl rfl fun a E => ?_
        refine sd E (o_as (E.ev rfl)) rfl rfl rfl fun a E => ?_
        obtain rfl := Option.some.inj hc2
        exact GL_nil ⟨_, rfl, (Tr.refl _ _), (((((((E.nil.ad E rfl rfl).ad E rfl rfl).ad E rfl rfl).ad E rfl rfl).ad E rfl rfl).ad E rfl rfl).ad E rfl rfl)⟩
    rintro a _ ⟨s3, rfl, t5, E⟩
    refine tgn ?_
    refine G_cond (E.ev rfl) (fun ht => ?_) (fun ht => ?_)
    · have hm := cT ht hm
      refine G_seq ?_
      refine G_region ?_
      refine sd E (o_as (E.ev rfl)) rfl rfl rfl fun a E => ?_
      refine sd E (o_as (E.ev rfl)) rfl rfl rfl fun a E => ?_
      refine GL_nil ?_
      refine tgn ?_
      refine G_ret ?_
      refine ebr ?_
      refine tgr ?_
      cases hm
    · have hm := cF ht hm
      refine G_skip ?_
      refine ebn ?_
      refine tgn ?_
      refine G_seq ?_
      refine G_region ?_
      refine sd E (o_mv (E.ev rfl)) rfl rfl rfl fun a E => ?_
      refine sd E (o_mv (E.ev rfl)) rfl rfl rfl fun a E => ?_
      refine sd E (o_mv (E.ev rfl)) rfl rfl rfl fun a E => ?_
      have f1 := ((ho1.trN t1).trN t3).trN t5
      obtain ⟨⟨y2, y3⟩, hx2, hm⟩ := ob_some hm
      refine sh E (o_ok Tryz.call75 (E.evs rfl) (E.ev rfl) (oq_33 _ (x1 := x1) (x2 := x2) f1 hx2)) rfl rfl rfl ?_
      rintro a _ s4 ⟨t6, w1, rfl, h1⟩ E
      refine sd E (o_mv (E.ev rfl)) rfl rfl rfl fun a E => ?_
      refine sd E (o_ext (v := w1) (E.ev rfl) rfl) rfl rfl rfl fun a E => ?_
      refine sd E (o_ext (v := .int .i64 y3) (E.ev rfl) rfl) rfl rfl rfl fun a E => ?_
      refine sd E (o_as (E.ev rfl)) rfl rfl rfl fun a E => ?_
      refine sd E (o_as (E.ev rfl)) rfl rfl rfl fun a E => ?_
      refine GL_nil ?_
      refine tgn ?_
      refine G_seq ?_
      refine G_seq ?_
      refine G_region ?_
      refine sd E (o_mv (E.ev rfl)) rfl rfl rfl fun a E => ?_
      refine sd E (o_bi (E.ev rfl) (E.ev rfl) rfl) rfl rfl rfl fun a E => ?_
      refine GL_nil ?_
      refine tgn ?_
      refine G_cond (E.ev rfl) (fun ht => ?_) (fun ht => ?_)
      · have hm := cT ht hm
        refine G_seq ?_
        refine G_region ?_
        refine sd E (o_mv (E.ev rfl)) rfl rfl rfl fun a E => ?_
        refine sd E (o_as (E.ev rfl)) rfl rfl rfl fun a E => ?_
        refine sd E (o_as (E.ev rfl)) rfl rfl rfl fun a E => ?_
        refine GL_nil ?_
        refine tgn ?_
        refine G_ret ?_
        refine tgr ?_
        cases hm
      · have hm := cF ht hm
        refine G_skip ?_
        refine tgn ?_
        refine G_seq ?_
        refine G_region ?_
        refine sd E (o_mv (E.ev rfl)) rfl rfl rfl fun a E => ?_
        refine sd E (o_mv (E.ev rfl)) rfl rfl rfl fun a E => ?_
        obtain ⟨⟨y4, y5⟩, hx3, hm⟩ := ob_some hm
        refine sh E (o_ok Tryz.call55 (E.evs rfl) (E.ev rfl) (ok_34 _ ((κ + 0), 1001) (x0 := x3) (x1 := y2) h1 hx3)) rfl rfl rfl ?_
        rintro a _ s5 ⟨t7, w2, rfl, h2⟩ E
        refine sd E (o_mv (E.ev rfl)) rfl rfl rfl fun a E => ?_
        refine sd E (o_ext (v := w2) (E.ev rfl) rfl) rfl rfl rfl fun a E => ?_
        refine sd E (o_ext (v := .int .i64 y5) (E.ev rfl) rfl) rfl rfl rfl fun a E => ?_
        refine sd E (o_as (E.ev rfl)) rfl rfl rfl fun a E => ?_
        refine sd E (o_as (E.ev rfl)) rfl rfl rfl fun a E => ?_
        refine GL_nil ?_
        refine tgn ?_
        refine G_seq ?_
        refine G_region ?_
        refine sd E (o_mv (E.ev rfl)) rfl rfl rfl fun a E => ?_
        refine sd E (o_mv (E.ev rfl)) rfl rfl rfl fun a E => ?_
        refine sd E (o_mv (E.ev rfl)) rfl rfl rfl fun a E => ?_
        refine sd E (o_mv (E.ev rfl)) rfl rfl rfl fun a E => ?_
        refine sd E (o_mv (E.ev rfl)) rfl rfl rfl fun a E => ?_
        refine sd E (o_mv (E.ev rfl)) rfl rfl rfl fun a E => ?_
        refine sd E (o_mv (E.ev rfl)) rfl rfl rfl fun a E => ?_
        obtain ⟨x5, hx4, hm⟩ := ob_some hm
        obtain ⟨x6, hx5, hm⟩ := ob_some hm
        have f2 := h1.tr t7
        obtain ⟨w3, g1, h3, h4⟩ := sl_hd f2 hx4 (by simpa using (gd_some hx5).1) Tryz.underlying36 Tryz.sizeOf39
        refine sd E (g1 _ _ _ _ _ _ _ _ _ _ (E.ev rfl) (E.ev rfl) (E.ev rfl)) rfl rfl rfl fun a E => ?_
        refine sd E (o_mv (E.ev rfl)) rfl rfl rfl fun a E => ?_
        obtain ⟨a1, c1, rfl⟩ := h3.isS
        obtain ⟨a2, c2, rfl⟩ := h2.isS
        refine sd E (o_bd (cells := #[.pointer (some ⟨b1, 0, none⟩), .int .i64 x1, .int .i64 x2, .int .i64 x3, (.slice a1 x5.length c1), (.slice a2 y4.length c2)]) (places := #[(0, 1), (1, 1), (2, 1), (3, 1), (4, 1), (5, 1)]) Tryz.zeroValue112 Tryz.underlying112 (fun w => by simp [Sem.run_bind, Result.andThen, Tryz.sizeOf3, Tryz.sizeOf43, Tryz.sizeOf25, Tryz.sizeOf36]) (qs := #[(0, .pointer (some ⟨b1, 0, none⟩)), (1, .int .i64 x1), (2, .int .i64 x2), (3, .int .i64 x3), (4, (.slice a1 x5.length c1)), (5, (.slice a2 y4.length c2))]) (by simp only [List.map_toArray, List.map_cons, List.map_nil, E.ev (x := .tmp 60) (v := .pointer (some ⟨b1, 0, none⟩)) rfl, E.ev (x := .tmp 61) (v := .int .i64 x1) rfl, E.ev (x := .tmp 62) (v := .int .i64 x2) rfl, E.ev (x := .tmp 63) (v := .int .i64 x3) rfl, E.ev (x := .tmp 67) (v := (.slice a1 x5.length c1)) rfl, E.ev (x := .tmp 68) (v := (.slice a2 y4.length c2)) rfl]) (by kernel_rfl)) rfl rfl rfl fun a E => ?_
        refine sh E (o_boxo ((κ + 1), 0) (E.ev rfl)) rfl rfl rfl ?_
        rintro a _ s6 ⟨b2, rfl, o1, t8⟩ E
        refine sd E (o_as (E.ev rfl)) rfl rfl rfl fun a E => ?_
        refine GL_nil ?_
        refine tgn ?_
        refine G_seq ?_
        refine G_region ?_
        refine sd E (o_mv (E.ev rfl)) rfl rfl rfl fun a E => ?_
        refine sd E (o_mv (E.ev rfl)) rfl rfl rfl fun a E => ?_
        have f3 := h2.trN t8
        obtain ⟨s7, e1, h5, t9⟩ := f3.rt ((κ + 1), 2)
        rw [e1]
        have f4 := (h3.tr t8).tr t9
        have f5 := o1.tr t9 (nt_fst (ra rfl))
        have h6 : LogAt (κ + 1) b1 s7 b2 (⟨x1, x2, x3, x5, y4⟩ : LogM) := ⟨_, _, f5, (.inr ⟨f4, h4⟩), h5⟩
        have f6 := (((f1.trN t6).trN t7).trN t8).tr t9 (fun i => (nt_fst (rb lt1)))
        have f7 := (f2.tr t8).tr t9
        obtain ⟨X2, hx6, hm⟩ := ob_some hm
        refine sh E (o_ok Tryz.call76 (E.evs rfl) (E.ev rfl) (oq_35 _ (x1 := y2) h6 f6 f7 (rb lt1).symm hx6)) rfl rfl rfl ?_
        rintro a _ s8 ⟨t10, h7⟩ E
        refine GL_nil ?_
        refine tgn ?_
        refine G_seq ?_
        refine G_region ?_
        refine sd E (o_mv (E.ev rfl)) rfl rfl rfl fun a E => ?_
        refine sd E (o_as (E.ev rfl)) rfl rfl rfl fun a E => ?_
        refine sd E (o_as (E.ev rfl)) rfl rfl rfl fun a E => ?_
        refine GL_nil ?_
        refine tgn ?_
        refine G_ret ?_
        cases hm
        have f8 := h6.tr t10 (fun i => (nW1 (rb lt1).symm))
        obtain ⟨s9, e2, h8, t11⟩ := f8.rt q0
        rw [e2]
        have t11 := Tr.w1 t11
        have f9 := h7.tr t11 (fun i => (nW1 (rb lt1)))
        have T1 : Tr (Fz κ [k1]) s s9 := ((((((((t1.no.trans t3.no).trans t5.no).trans t6.no).trans t7.no).trans t8.no).trans (Tr.ft Fz.f t9)).trans (Tr.fw1 Fz.w0 t10)).trans (Tr.fw1 Fz.f t11))
        exact fin2 E rfl rfl rfl ⟨(Tr.fin hκ T1), _, rfl, f9, h8⟩

-- gimmal/gimmallaw08.alive

-- gimmal/gimmallaw08.LogAgain
end Go.Proofs.YtdkfdmalbbfbmaaGreat

/- Plain laws: integers that fit, loops that count. No program. -/
namespace Go.Proofs.YtdkfdmalbbfbmaaGreat
open Go

theorem wi64 {x : Int} (h0 : -9223372036854775808 ≤ x) (h1 : x < 9223372036854775808) : IntKind.wrap .i64 x = x := by
  simp only [IntKind.wrap, IntKind.signed, IntKind.bits]
  simp
  omega
theorem wu64 {x : Int} (h0 : 0 ≤ x) (h1 : x < 18446744073709551616) : IntKind.wrap .u64 x = x := by
  simp only [IntKind.wrap, IntKind.signed, IntKind.bits]
  simp
  omega
theorem wu32 {x : Int} (h0 : 0 ≤ x) (h1 : x < 4294967296) : IntKind.wrap .u32 x = x := by
  simp only [IntKind.wrap, IntKind.signed, IntKind.bits]
  simp
  omega
theorem wu8 (x : Int) : IntKind.wrap .u8 x = x % 256 := by
  simp only [IntKind.wrap, IntKind.signed, IntKind.bits]
  simp
theorem wu32m (x : Int) : IntKind.wrap .u32 x = x % 4294967296 := by
  simp only [IntKind.wrap, IntKind.signed, IntKind.bits]
  simp
theorem wu64m (x : Int) : IntKind.wrap .u64 x = x % 18446744073709551616 := by
  simp only [IntKind.wrap, IntKind.signed, IntKind.bits]
  simp
@[simp] theorem ob_s {α β : Type} (a : α) (f : α → Option β) : ob (some a) f = f a := rfl
@[simp] theorem ob_n {α β : Type} (f : α → Option β) : ob none f = none := rfl
@[simp] theorem gd_t {β : Type} (A : Option β) : gd true A = A := rfl
theorem ap_eq {α : Type} {xs ys : List α} (h : xs.length + ys.length < 4294967296) : ap xs ys = some (xs ++ ys) := by
  unfold ap
  rw [show Nat.blt (xs.length + ys.length) 4294967296 = true from Nat.ble_eq_true_of_le h]; rfl
theorem gt_eq {α : Type} {xs : List α} {i : Nat} (h : i < xs.length) : gt xs (i : Int) = some xs[i] := by
  unfold gt
  simp [h]
theorem gt_at {α : Type} {xs : List α} {i : Nat} {x : α} (h : xs[i]? = some x) : gt xs (i : Int) = some x := by
  unfold gt
  simp [h]
theorem sl_eq {α : Type} {xs : List α} {l h : Nat} (h1 : l ≤ h) (h2 : h ≤ xs.length) : sl xs (l : Int) (h : Int) = some ((xs.take h).drop l) := by
  unfold sl
  simp [h1, h2]
theorem sl_from {α : Type} {xs : List α} {l : Nat} (h1 : l ≤ xs.length) : sl xs (l : Int) (xs.length : Int) = some (xs.drop l) := by
  rw [sl_eq h1 (Nat.le_refl _), List.take_length]

section
variable {σ ρ : Type} {f : σ → Option (Lo σ ρ)} {s s' : σ} {r : ρ}
theorem loopO_next (h : f s = some (.inl s')) : loopO f s = loopO f s' := by rw [loopO_eq, h]
theorem loopO_end (h : f s = some (.inr r)) : loopO f s = some r := by rw [loopO_eq, h]
theorem loopO_steps (S : Nat → σ) (n : Nat) (h : ∀ i, i < n → f (S i) = some (.inl (S (i + 1)))) : loopO f (S 0) = loopO f (S n) := by
  induction n with
  | zero => rfl
  | succ n ih => rw [ih (fun i hi => h i (by omega)), loopO_next (h n (by omega))]
/-- A loop that counts to n. -/
theorem loopO_count (S : Nat → σ) (n : Nat) (h : ∀ i, i < n → f (S i) = some (.inl (S (i + 1)))) (he : f (S n) = some (.inr r)) : loopO f (S 0) = some r := by
  rw [loopO_steps S n h, loopO_end he]
end
end Go.Proofs.YtdkfdmalbbfbmaaGreat

/- Plain laws: sums. The program's sum by a table is the document's, bit by bit. -/
namespace Go.Proofs.YtdkfdmalbbfbmaaGreat
open Go

abbrev B32 := BitVec 32
def poly : B32 := 2197175160#32
/-- One bit's step. -/
def bstep (x : B32) : B32 := bif x.getLsbD 0 then (x >>> 1) ^^^ poly else x >>> 1
def bsteps : Nat → B32 → B32
  | 0, x => x
  | n + 1, x => bsteps n (bstep x)
def b8 (x : B32) : B32 := bsteps 8 x
theorem bsteps_succ (n : Nat) (x : B32) : bsteps (n + 1) x = bstep (bsteps n x) := by
  induction n generalizing x with
  | zero => rfl
  | succ n ih => rw [bsteps, ih, ← bsteps]

theorem bstep_xor (a b : B32) : bstep (a ^^^ b) = bstep a ^^^ bstep b := by
  unfold bstep
  simp only [BitVec.getLsbD_xor, BitVec.ushiftRight_xor_distrib]
  cases a.getLsbD 0 <;> cases b.getLsbD 0 <;> simp
  · ac_rfl
  · ac_rfl
  · apply BitVec.eq_of_getLsbD_eq
    intro i hi
    simp
    cases (a.getLsbD (1 + i)) <;> cases (b.getLsbD (1 + i)) <;> cases (poly.getLsbD i) <;> rfl
theorem bsteps_xor (n : Nat) : ∀ a b : B32, bsteps n (a ^^^ b) = bsteps n a ^^^ bsteps n b := by
  induction n with
  | zero => intro a b; rfl
  | succ n ih => intro a b; simp only [bsteps, bstep_xor, ih]
theorem bstep_shl (z : B32) (i : Nat) (h : ∀ j, 32 - (i + 1) ≤ j → z.getLsbD j = false) : bstep (z <<< (i + 1)) = z <<< i := by
  unfold bstep
  have e0 : (z <<< (i + 1)).getLsbD 0 = false := by simp
  rw [e0]
  simp only [cond_false]
  apply BitVec.eq_of_getLsbD_eq
  intro j hj
  simp only [BitVec.getLsbD_ushiftRight, BitVec.getLsbD_shiftLeft, hj, decide_true, Bool.true_and]
  by_cases h1 : 1 + j < 32
  · by_cases h2 : j < i
    · simp [h1, h2, show 1 + j < i + 1 by omega]
    · simp [h1, h2, show ¬ 1 + j < i + 1 by omega, show 1 + j - (i + 1) = j - i by omega]
  · have := h (j - i) (by omega)
    simp [h1, this]
theorem bsteps_shl (z : B32) : ∀ i, (∀ j, 32 - i ≤ j → z.getLsbD j = false) → bsteps i (z <<< i) = z
  | 0, _ => by simp [bsteps]
  | i + 1, h => by
    rw [bsteps, bstep_shl z i h]
    exact bsteps_shl z i fun j hj => h j (by omega)
theorem b8_hi (y : B32) : b8 ((y >>> 8) <<< 8) = y >>> 8 := bsteps_shl _ 8 fun j hj => by
  rw [BitVec.getLsbD_ushiftRight]
  exact BitVec.getLsbD_of_ge _ _ (by omega)
/-- The table's way. -/
theorem b8_split (y : B32) : b8 ((y.setWidth 8).setWidth 32) ^^^ (y >>> 8) = b8 y := by
  have e : y = ((y.setWidth 8).setWidth 32) ^^^ ((y >>> 8) <<< 8) := by
    apply BitVec.eq_of_getLsbD_eq
    intro j hj
    simp only [BitVec.getLsbD_xor, BitVec.getLsbD_setWidth, BitVec.getLsbD_shiftLeft, BitVec.getLsbD_ushiftRight, hj, decide_true, Bool.true_and]
    by_cases h : j < 8
    · simp [h]
    · simp [h, show 8 + (j - 8) = j by omega]
  conv => rhs; rw [e]
  unfold b8
  rw [bsteps_xor]
  congr 1
  exact (b8_hi y).symm

/-- A byte into the sum; bytes; a word's bytes; words. -/
def crcB (x : B32) (c : Int) : B32 := b8 (x ^^^ BitVec.ofInt 32 c)
def crcS (x : B32) (cs : List Int) : B32 := cs.foldl crcB x
def wordBytes (w : Int) : List Int := (List.range 8).map fun i => w / 256 ^ i % 256
def crcW (l : List Int) : Int := ((crcS (BitVec.allOnes 32) (l.flatMap wordBytes)) ^^^ BitVec.allOnes 32).toNat
theorem crcW_range (l : List Int) : 0 ≤ crcW l ∧ crcW l < 4294967296 := by
  unfold crcW
  have := (crcS (BitVec.allOnes 32) (l.flatMap wordBytes) ^^^ BitVec.allOnes 32).isLt
  omega

theorem ofInt_nat (x : B32) : BitVec.ofInt 32 (x.toNat : Int) = x := by
  apply BitVec.eq_of_toNat_eq
  have := x.isLt
  simp [BitVec.toNat_ofInt]
theorem xor32 (x y : B32) : IntKind.wrap .u32 (BitVec.ofInt (IntKind.bits .u32) (x.toNat : Int) ^^^ BitVec.ofInt (IntKind.bits .u32) (y.toNat : Int)).toNat = ((x ^^^ y).toNat : Int) := by
  show IntKind.wrap .u32 ((BitVec.ofInt 32 (x.toNat : Int) ^^^ BitVec.ofInt 32 (y.toNat : Int)).toNat : Int) = _
  rw [ofInt_nat, ofInt_nat, wu32 (by omega) (by have := (x ^^^ y).isLt; omega)]
theorem half32 (x : B32) : Int.ediv (x.toNat : Int) 2 = ((x >>> 1).toNat : Int) := by
  rw [BitVec.toNat_ushiftRight, Nat.shiftRight_eq_div_pow]
  show (x.toNat : Int) / 2 = _
  omega
theorem lsb32 (x : B32) : ((x.toNat : Int) % 2 == 1) = x.getLsbD 0 := by
  have : x.getLsbD 0 = decide (x.toNat % 2 = 1) := by
    simp [BitVec.getLsbD, Nat.testBit_zero]
  rw [this]
  by_cases h : x.toNat % 2 = 1
  · have : (x.toNat : Int) % 2 = 1 := by omega
    simp [h, this]
  · have : (x.toNat : Int) % 2 = 0 := by omega
    simp [h, this]

/-- The document's step. -/
theorem ref_step (x : B32) (k : Nat) (hk : k < 8) : m_93_2b ((x.toNat : Int), (k : Int)) = some (.inl (((bstep x).toNat : Int), ((k + 1 : Nat) : Int))) := by
  unfold m_93_2b
  have h1 : decide ((k : Int) < 8) = true := by simp; omega
  have ht : Int.tdiv (x.toNat : Int) 2 = ((x >>> 1).toNat : Int) := by rw [Int.tdiv_eq_ediv_of_nonneg (by omega)]; exact half32 x
  have hm : (Int.tmod (x.toNat : Int) 2 == 1) = x.getLsbD 0 := by rw [Int.tmod_eq_emod_of_nonneg (by omega), lsb32]
  have hw : IntKind.wrap .u32 ((x >>> 1).toNat : Int) = ((x >>> 1).toNat : Int) := wu32 (by omega) (by have := (x >>> 1).isLt; omega)
  have hi : IntKind.wrap .i64 ((k : Int) + 1) = ((k + 1 : Nat) : Int) := by rw [wi64 (by omega) (by omega)]; rfl
  simp only [h1, cond_true, hm, ht, hw, hi]
  unfold bstep
  cases x.getLsbD 0 with
  | true =>
    have := xor32 (x >>> 1) poly
    have e : ((poly.toNat : Nat) : Int) = 2197175160 := rfl
    rw [e] at this
    simp only [cond_true, this]
  | false => simp
theorem ref_byte (x : B32) : loopO m_93_2b ((x.toNat : Int), 0) = some (((b8 x).toNat : Int), 8) := by
  have := loopO_count (f := m_93_2b) (fun i => (((bsteps i x).toNat : Int), (i : Int))) 8 (r := (((b8 x).toNat : Int), 8)) (fun i hi => by
    show m_93_2b _ = _
    rw [ref_step _ _ hi, bsteps_succ]) (by unfold m_93_2b; rfl)
  exact this
def isB (c : Int) : Prop := 0 ≤ c ∧ c < 256
theorem ref_bytes (cs : List Int) (hc : ∀ c ∈ cs, isB c) (hl : cs.length < 4294967296) : m_93 cs = some ((crcS (BitVec.allOnes 32) cs ^^^ BitVec.allOnes 32).toNat : Int) := by
  unfold m_93
  have key : loopO (m_93_1b cs) (4294967295, 0) = some (((crcS (BitVec.allOnes 32) cs).toNat : Int), (cs.length : Int)) := by
    refine loopO_count (f := m_93_1b cs) (fun i => (((crcS (BitVec.allOnes 32) (cs.take i)).toNat : Int), (i : Int))) cs.length (fun i hi => ?_) ?_
    · have h1 : decide ((i : Int) < (cs.length : Int)) = true := by simp; omega
      obtain ⟨c0, c1⟩ := hc cs[i] (List.getElem_mem hi)
      have hw : IntKind.wrap .u32 cs[i] = ((BitVec.ofInt 32 cs[i]).toNat : Int) := by
        rw [wu32 c0 (by omega), BitVec.toNat_ofInt]
        omega
      dsimp only [m_93_1b]
      rw [h1, gt_eq hi]
      simp only [cond_true, ob_s, hw, xor32, ref_byte, m_93_2k]
      have e2 : IntKind.wrap .i64 ((i : Int) + 1) = ((i + 1 : Nat) : Int) := by rw [wi64 (by omega) (by omega)]; rfl
      rw [e2, List.take_succ_eq_append_getElem hi]
      simp only [crcS, crcB, List.foldl_append, List.foldl_cons, List.foldl_nil]
    · have h1 : decide ((cs.length : Int) < (cs.length : Int)) = false := by simp
      dsimp only [m_93_1b]
      rw [h1, List.take_length]; rfl
  rw [key]
  simp only [ob_s, m_93_1k]
  have := xor32 (crcS (BitVec.allOnes 32) cs) (BitVec.allOnes 32)
  have e : (((BitVec.allOnes 32).toNat : Nat) : Int) = 4294967295 := rfl
  rw [e] at this
  rw [this]

def isW (x : Int) : Prop := 0 ≤ x ∧ x < 18446744073709551616
theorem wordBytes_len (w : Int) : (wordBytes w).length = 8 := by simp [wordBytes]
theorem wordBytes_isB (w : Int) : ∀ c ∈ wordBytes w, isB c := by
  intro c hc
  simp only [wordBytes, List.mem_map] at hc
  obtain ⟨i, _, rfl⟩ := hc
  exact ⟨Int.emod_nonneg _ (by decide), Int.emod_lt_of_pos _ (by decide)⟩
theorem div_pow_succ (w : Int) (i : Nat) : w / 256 ^ i / 256 = w / 256 ^ (i + 1) := by
  rw [Int.ediv_ediv_of_nonneg (by exact Int.pow_nonneg (by decide)), Int.pow_succ]
theorem isW_div {w : Int} (h : isW w) (i : Nat) : isW (w / 256 ^ i) := by
  have hp : (0 : Int) < 256 ^ i := Int.pow_pos (by decide)
  refine ⟨Int.ediv_nonneg h.1 (by omega), Int.lt_of_le_of_lt ?_ h.2⟩
  exact Int.ediv_le_self _ h.1
theorem ref_word (out : List Int) (w : Int) (hw : isW w) (hl : out.length + 8 < 4294967296) : loopO m_83_2b (out, w, 0) = some (out ++ wordBytes w, w / 256 ^ 8, 8) := by
  have := loopO_count (f := m_83_2b) (fun i => (out ++ (List.range i).map (fun j => w / 256 ^ j % 256), w / 256 ^ i, (i : Int))) 8 (r := (out ++ wordBytes w, w / 256 ^ 8, 8)) (fun i hi => by
    have h1 : decide ((i : Int) < 8) = true := by simp; omega
    have hw2 := isW_div hw i
    have e1 : IntKind.wrap .u8 (Int.tmod (w / 256 ^ i) 256) = w / 256 ^ i % 256 := by
      rw [Int.tmod_eq_emod_of_nonneg hw2.1, wu8]; omega
    have e2 : IntKind.wrap .u64 (Int.tdiv (w / 256 ^ i) 256) = w / 256 ^ (i + 1) := by
      have h3 := isW_div hw (i + 1)
      rw [Int.tdiv_eq_ediv_of_nonneg hw2.1, div_pow_succ, wu64 h3.1 h3.2]
    have e3 : IntKind.wrap .i64 ((i : Int) + 1) = ((i + 1 : Nat) : Int) := by rw [wi64 (by omega) (by omega)]; rfl
    dsimp only [m_83_2b]
    rw [h1, ap_eq (by simp; omega)]
    simp only [cond_true, ob_s, e1, e2, e3, List.range_succ, List.map_append, List.map_cons, List.map_nil, List.append_assoc]) (by unfold m_83_2b; rfl)
  simpa using this
theorem ref_of (l : List Int) (hw : ∀ x ∈ l, isW x) (hl : l.length < 268435456) : m_83 l = some (crcW l) := by
  unfold m_83
  have key : loopO (m_83_1b l) ([], 0) = some (l.flatMap wordBytes, (l.length : Int)) := by
    refine loopO_count (f := m_83_1b l) (fun i => ((l.take i).flatMap wordBytes, (i : Int))) l.length (fun i hi => ?_) ?_
    · have h1 : decide ((i : Int) < (l.length : Int)) = true := by simp; omega
      have hlen : ((l.take i).flatMap wordBytes).length = i * 8 := by
        rw [List.length_flatMap]
        simp only [wordBytes_len, List.map_const', List.sum_replicate_nat, List.length_take]
        have : min i l.length = i := by omega
        rw [this]
      dsimp only [m_83_1b]
      rw [h1, gt_eq hi]
      simp only [cond_true, ob_s]
      rw [ref_word _ _ (hw _ (List.getElem_mem hi)) (by omega)]
      have e2 : IntKind.wrap .i64 ((i : Int) + 1) = ((i + 1 : Nat) : Int) := by rw [wi64 (by omega) (by omega)]; rfl
      simp only [ob_s, m_83_2k, e2]
      rw [List.take_succ_eq_append_getElem hi]
      simp only [List.flatMap_append, List.flatMap_cons, List.flatMap_nil, List.append_nil]
    · have h1 : decide ((l.length : Int) < (l.length : Int)) = false := by simp
      dsimp only [m_83_1b]
      rw [h1, List.take_length]; rfl
  have hlen : (l.flatMap wordBytes).length = l.length * 8 := by
    rw [List.length_flatMap]
    simp only [wordBytes_len, List.map_const', List.sum_replicate_nat]
  rw [key]
  simp only [ob_s, m_83_1k]
  rw [ref_bytes _ (fun c hc => by
    obtain ⟨w, _, h⟩ := List.mem_flatMap.1 hc
    exact wordBytes_isB w c h) (by omega)]
  rfl
end Go.Proofs.YtdkfdmalbbfbmaaGreat
