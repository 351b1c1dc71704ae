/- Models and walks, printed by a program of ours. -/
import Derived.Test.YtdkfdmalbbfbmaaMW613
/- Models and walks, printed by a program of ours. -/
namespace Go.Proofs.Ytdkfdmalbbfbmaa
open Go Go.Maps
set_option maxRecDepth 4000
set_option maxHeartbeats 1000000
-- (*gimmal/log.Log).Epoch

noncomputable def m_62 (X1 : LogM) : Option Int :=
  some X1.epoch
theorem ok_62 (s : St) {k1 b1 : Nat} {X1 : LogM} {d1d : Nat} (ho1 : LogAt k1 d1d s b1 X1) {r0y : Int} (hm : m_62 X1 = some r0y) :
    Ok Try.prog 62 ([.pointer (some ⟨b1, 0, none⟩)] : List Value).toArray s fun v s' => Tr No s s' ∧ v = .int .i64 r0y := by
  unfold m_62 at hm
  obtain ⟨κ, hκ⟩ := s.fresh
  have lt1 : k1 < κ := hκ _ _ ho1.tag
  refine ok_of (n := 9) _ Try.func62 rfl _ rfl rfl fun a E => ?_
  refine G_seq ?_
  refine G_region ?_
  refine sd E (o_as (E.ev rfl)) rfl rfl rfl fun a E => ?_
  refine GL_nil ?_
  refine tgn ?_
  refine G_seq ?_
  refine G_seq ?_
  refine G_region ?_
  refine sd E (o_mv (E.ev rfl)) rfl rfl rfl fun a E => ?_
  refine sd E (o_eqp Try.underlying26 (E.ev rfl) (E.ev rfl)) rfl rfl rfl fun a E => ?_
  refine GL_nil ?_
  refine tgn ?_
  refine G_cond (t := false) (E.ev rfl) nofun (fun _ => ?_)
  refine G_skip ?_
  refine tgn ?_
  refine G_seq ?_
  refine G_region ?_
  refine sd E (o_mv (E.ev rfl)) rfl rfl rfl fun a E => ?_
  refine sd E (o_nc (E.ev rfl)) rfl rfl rfl fun a E => ?_
  obtain ⟨w1, w2, o1, h1, h2⟩ := ho1
  refine sd E (o_fa Try.underlying73 rfl Try.sizeOf3 (E.ev rfl)) rfl rfl rfl fun a E => ?_
  refine sd E (o_ld Try.isAgg3 (E.ev rfl) ((o1.cell _).trans rfl)) rfl rfl rfl fun a E => ?_
  refine sd E (o_as (E.ev rfl)) rfl rfl rfl fun a E => ?_
  refine GL_nil ?_
  refine tgn ?_
  refine G_ret ?_
  cases hm
  have h3 : LogAt k1 d1d s b1 X1 := ⟨_, _, o1, h1, h2⟩
  exact fin1 E rfl rfl ⟨(Tr.fin0 hκ (Tr.refl _ _)), rfl⟩

-- (*gimmal/log.Log).Frames
noncomputable def m_12_1b (X1 : LogM) : ((List Frame) × Int) → Option (Lo ((List Frame) × Int) ((List Frame) × Int)) := fun (x4, x5) => bif decide (x5 < (X1.frames.length : Int)) then (ob (gt X1.frames x5) fun x6 => ob (m_39 x6.Words) fun y1 => ob (ap x4 [(⟨x6.Kind, y1⟩ : Frame)]) fun x7 => some (.inl (x7, IntKind.wrap .i64 (x5 + 1)))) else (some (.inr (x4, x5)))
noncomputable def m_12_1k : ((List Frame) × Int) → Option (List Frame) := fun (x8, x9) => some x8
noncomputable def m_12 (X1 : LogM) : Option (List Frame) :=
  ob (loopO (m_12_1b X1) ([], 0)) (m_12_1k)
theorem ok_12 (s : St) (tr0 : Tg) {k1 b1 : Nat} {X1 : LogM} {d1d : Nat} (ho1 : LogAt k1 d1d s b1 X1) {r0y : List Frame} (hm : m_12 X1 = some r0y) :
    Ok Try.prog 12 ([.pointer (some ⟨b1, 0, none⟩)] : List Value).toArray s fun v s' => Tr No s s' ∧ ∃ w1, v = w1 ∧ Bd tr0 kFr 32 0 s' w1 r0y := by
  unfold m_12 at hm
  obtain ⟨κ, hκ⟩ := s.fresh
  have lt1 : k1 < κ := hκ _ _ ho1.tag
  refine ok_of (n := 28) _ Try.func12 rfl _ rfl rfl fun a E => ?_
  refine G_seq ?_
  refine G_region ?_
  refine sd E (o_as (E.ev rfl)) rfl rfl rfl fun a E => ?_
  refine GL_nil ?_
  refine tgn ?_
  refine G_seq ?_
  refine G_seq ?_
  refine G_region ?_
  refine sd E (o_mv (E.ev rfl)) rfl rfl rfl fun a E => ?_
  refine sd E (o_eqp Try.underlying26 (E.ev rfl) (E.ev rfl)) rfl rfl rfl fun a E => ?_
  refine GL_nil ?_
  refine tgn ?_
  refine G_cond (t := false) (E.ev rfl) nofun (fun _ => ?_)
  refine G_skip ?_
  refine tgn ?_
  refine G_seq ?_
  refine G_region ?_
  refine sd E (o_as (E.ev rfl)) rfl rfl rfl fun a E => ?_
  refine GL_nil ?_
  refine tgn ?_
  refine G_seq ?_
  refine G_seq ?_
  refine G_region ?_
  refine sd E (o_mv (E.ev rfl)) rfl rfl rfl fun a E => ?_
  refine sd E (o_nc (E.ev rfl)) rfl rfl rfl fun a E => ?_
  obtain ⟨w2, w3, o1, h1, h2⟩ := ho1
  refine sd E (o_fa Try.underlying73 rfl Try.sizeOf22 (E.ev rfl)) rfl rfl rfl fun a E => ?_
  refine sd E (o_ld Try.isAgg22 (E.ev rfl) ((o1.cell _).trans rfl)) rfl rfl rfl fun a E => ?_
  refine sd E (o_lenS (xs := X1.frames) Try.underlying22 (E.ev rfl) h2.isS) rfl rfl rfl fun a E => ?_
  refine sd E (o_mv (E.ev rfl)) rfl rfl rfl fun a E => ?_
  refine GL_nil ?_
  refine tgn ?_
  have h3 : LogAt k1 d1d s b1 X1 := ⟨_, _, o1, h1, h2⟩
  obtain ⟨r1, hl1, hm⟩ := ob_some hm
  refine G_mid1 (fun a' w' => ∃ x2 x3 s' w4, m_12_1k (x2, x3) = some r0y ∧ w' = s'.w ∧ Tr (Fz κ []) s s' ∧ Bd ((κ + 0), 1001) kFr 32 0 s' w4 x2 ∧ Bd (k1, 2) kFr 32 0 s' w3 X1.frames ∧ En [] 28 a' [(3, w4), (13, .int .i64 x3), (2, (.slice none 0 0)), (11, w3), (12, .int .i64 (X1.frames.length : Int))]) ?_ ?_
  · refine G_block ?_
    refine G_lp hl1 (fun st a' w' => ∃ x2 x3 s' w4, st = (x2, x3) ∧ w' = s'.w ∧ Tr (Fz κ []) s s' ∧ Bd ((κ + 0), 1001) kFr 32 0 s' w4 x2 ∧ Bd (k1, 2) kFr 32 0 s' w3 X1.frames ∧ En [] 28 a' [(3, w4), (13, .int .i64 x3), (2, (.slice none 0 0)), (11, w3), (12, .int .i64 (X1.frames.length : Int))]) ⟨_, _, _, _, rfl, rfl, (Tr.refl _ _), Bd.nil, h2, (((((E.nil.ad E rfl rfl).ad E rfl rfl).ad E rfl rfl).ad E rfl rfl).ad E rfl rfl)⟩ ?_
    rintro _ a _ x ⟨x4, x5, s1, w5, rfl, rfl, t1, h4, h5, E⟩ hf1
    dsimp only [m_12_1b] at hf1
    refine G_seq ?_
    refine G_region ?_
    refine sd E (o_bi (E.ev rfl) (E.ev rfl) rfl) rfl rfl rfl fun a E => ?_
    refine GL_nil ?_
    refine tgn ?_
    refine G_seq ?_
    refine G_cond (E.ev rfl) (fun ht => ?_) (fun ht => ?_)
    · have hf1 := cT ht hf1
      refine G_skip ?_
      refine tgn ?_
      refine G_seq ?_
      refine G_block ?_
      refine G_seq ?_
      refine G_region ?_
      obtain ⟨x6, hx1, hf1⟩ := ob_some hf1
      obtain ⟨b2, p1, g1⟩ := bd_ix h5 hx1
      refine sd E (o_ixg Try.underlying22 Try.sizeOf32 g1 (E.ev rfl) (E.ev rfl)) rfl rfl rfl fun a E => ?_
      obtain ⟨w6, e1, e2, h7⟩ := bd_fr h5 g1 hx1
      refine sd E (o_ld2 Try.isAgg32 Try.sizeOf32 (E.ev rfl) e1 e2) rfl rfl rfl fun a E => ?_
      refine sh E (o_al ((κ + 0), 1002) Try.zeroValue32) rfl rfl rfl ?_
      rintro a _ s2 ⟨b3, rfl, o2, t2⟩ E
      have f1 := h7.tr t2
      obtain ⟨a1, c1, rfl⟩ := f1.isS
      refine shN E (o_st (o := 0) (cs' := #[.int .i64 x6.Kind, (.slice a1 x6.Words.length c1)]) (v := .agg #[.int .i64 x6.Kind, (.slice a1 x6.Words.length c1)]) Try.sizeOf32 o2 (E.ev rfl) (E.ev rfl) (Nat.le_of_ble_eq_true rfl) (one_cells rfl) rfl) rfl rfl ?_
      rintro _ s3 ⟨o3, t3⟩
      refine GL_nil ?_
      refine tgn ?_
      refine G_drw (κ + 1) (by rfl) [0, 1, 2, 3, 4, 5, 6, 7, 8, 9] (by kernel_rfl) ?_
      intro s4 t4
      refine dp E rfl (fun w => (o_mv (E.ev rfl))) rfl rfl rfl fun a E => ?_
      refine dp E rfl (fun w => (o_fa Try.underlying32 rfl Try.sizeOf3 (E.ev rfl))) rfl rfl rfl fun a E => ?_
      have f2 := o3.trN t4
      refine dr E rfl (fun s' t => (o_ld Try.isAgg3 (E.ev rfl) (((f2.trN t).cell _).trans rfl))) rfl rfl rfl (by kernel_rfl) fun a E => ?_
      refine dp E rfl (fun w => (o_fa Try.underlying32 rfl Try.sizeOf30 (E.ev rfl))) rfl rfl rfl fun a E => ?_
      refine dr E rfl (fun s' t => (o_ld Try.isAgg30 (E.ev rfl) (((f2.trN t).cell _).trans rfl))) rfl rfl rfl (by kernel_rfl) fun a E => ?_
      have f3 := (f1.tr t3).tr t4
      obtain ⟨y1, hx2, hf1⟩ := ob_some hf1
      refine df E rfl (fun s' t => hv_swapq (o_ok Try.call39 (E.evs rfl) (E.ev rfl) (ok_39 _ (x0 := x6.Words) (f3.tr t) hx2))) rfl rfl rfl (by kernel_rfl) ?_
      rintro a w7 s5 ⟨_, rfl, h8⟩ t5 E
      obtain ⟨a2, c2, rfl⟩ := h8.isS
      refine dp E rfl (fun w => (o_bd (cells := #[.int .i64 x6.Kind, (.slice a2 y1.length c2)]) (places := #[(0, 1), (1, 1)]) Try.zeroValue32 Try.underlying32 (fun w => by simp [Sem.run_bind, Result.andThen, Try.sizeOf3, Try.sizeOf30]) (qs := #[(0, .int .i64 x6.Kind), (1, (.slice a2 y1.length c2))]) (by simp only [List.map_toArray, List.map_cons, List.map_nil, E.ev (x := .tmp 19) (v := .int .i64 x6.Kind) rfl, E.ev (x := .tmp 22) (v := (.slice a2 y1.length c2)) rfl]) (by kernel_rfl))) rfl rfl rfl fun a E => ?_
      refine dbs (K := kFr) [(⟨x6.Kind, y1⟩ : Frame)] E rfl Try.underlying22 Try.sizeOf32 Try.zeroValue32 (qs := #[(0, .agg #[.int .i64 x6.Kind, (.slice a2 y1.length c2)])]) (cells := #[.int .i64 x6.Kind, (.slice a2 y1.length c2)]) (by simp only [List.map_toArray, List.map_cons, List.map_nil, E.ev (x := .tmp 23) (v := .agg #[.int .i64 x6.Kind, (.slice a2 y1.length c2)]) rfl]) rfl rfl (by kernel_rfl) (fun s' l => ⟨_, _, rfl, ⟨_, rfl, (h8.up l)⟩, rfl⟩) rfl rfl rfl rfl (by kernel_rfl) ?_
      rintro a s6 b4 h9 t6 E
      obtain ⟨x7, hx3, hf1⟩ := ob_some hf1
      obtain ⟨hx3, hz1⟩ := ap_some hx3
      have f4 := ((((h4.trN t2).tr t3 (nt_snd rfl)).trN t4).trN t5).trN t6
      refine dw E rfl (fun s' t => o_app Try.underlying22 Try.type32 rfl rfl rfl rfl rfl rfl (f4.trN t) (h9.trN t).rd (E.ev rfl) (E.ev rfl) hx3 (Nat.zero_le _)) (fun n _ => nt_fst (ra rfl)) rfl rfl rfl (by kernel_rfl) ?_
      rintro a w8 s7 h10 t7 E
      rw [hz1] at h10
      refine dp E rfl (fun w => (o_as (E.ev rfl))) rfl rfl rfl fun a E => ?_
      refine gd_nil ?_
      refine ebn ?_
      refine tgn ?_
      refine G_region ?_
      refine sd E (o_bi (E.ev rfl) (E.ev rfl) rfl) rfl rfl rfl fun a E => ?_
      refine sd E (o_mv (E.ev rfl)) rfl rfl rfl fun a E => ?_
      refine GL_nil ?_
      obtain rfl := Option.some.inj hf1
      have f5 := (((((h5.trN t2).tr t3 (nt_fst (rb lt1))).trN t4).trN t5).trN t6).tr t7 (nt_fst (rb lt1))
      have T1 : Tr (Fz κ []) s s7 := ((((((t1.trans t2.no).trans (Tr.ft Fz.f t3)).trans t4.no).trans t5.no).trans t6.no).trans (Tr.ft Fz.f t7))
      exact lpn ⟨_, _, _, _, rfl, rfl, T1, h10, f5, (((((E.nil.ad E rfl rfl).ad E rfl rfl).ad E rfl rfl).ad E rfl rfl).ad E rfl rfl)⟩
    · have hf1 := cF ht hf1
      refine G_exit ?_
      refine tge ?_
      obtain rfl := Option.some.inj hf1
      refine lpe fun hr => ?_
      subst hr
      refine ebk ?_
      refine ctn ?_
      exact ⟨_, _, _, _, hm, rfl, t1, h4, h5, (((((E.nil.ad E rfl rfl).ad E rfl rfl).ad E rfl rfl).ad E rfl rfl).ad E rfl rfl)⟩
  · rintro a _ ⟨x8, x9, s8, w9, hm, rfl, t8, h11, h12, E⟩
    dsimp only [m_12_1k] at hm
    refine tgn ?_
    refine G_seq ?_
    refine G_region ?_
    refine sd E (o_mv (E.ev rfl)) rfl rfl rfl fun a E => ?_
    refine sd E (o_as (E.ev rfl)) rfl rfl rfl fun a E => ?_
    refine GL_nil ?_
    refine tgn ?_
    refine G_ret ?_
    cases hm
    obtain ⟨s9, e3, h13, t9⟩ := h11.rt tr0
    rw [e3]
    have T2 : Tr (Fz κ []) s s9 := (t8.trans (Tr.ft Fz.f t9))
    exact fin1 E rfl rfl ⟨(Tr.fin0 hκ T2), _, rfl, h13⟩

-- gimmal/log.Open

noncomputable def m_9 (X1 : Disk) (x1 : Int) (x2 : Int) (x3 : Int) : Option (LogM × Int × Disk) :=
  ob (mq_32 X1) fun y1 => ob (bif decide (x1 < 0) then (some true) else (bif decide (x2 < 1) then (some true) else (bif decide (x1 > y1) then (some true) else (some (decide (x2 > (IntKind.wrap .i64 (y1 - x1)))))))) fun t2 => bif t2 then (none) else (ob (bif decide (x3 < 0) then (some true) else (some (decide (x3 > 4294967295)))) fun t4 => bif t4 then (none) else (ob (mq_33 X1 x1 x2) fun (y2, y3) => bif y3 != 0 then (none) else (ob (m_34 x3 y2) fun (y4, y5) => ob (sl y2 0 y5) fun x5 => ob (gd (!y2.isEmpty) (some ())) fun x6 => ob (m_35 (⟨x1, x2, x3, x5, y4⟩ : LogM) X1 y2) fun X2 => some ((⟨x1, x2, x3, x5, y4⟩ : LogM), 0, X2))))
theorem ok_9 (s : St) (q0 : Nat) {k1 b1 : Nat} {X1 : Disk} {x1 : Int} {x2 : Int} {x3 : Int} (ho1 : DiskAt k1 s b1 X1) {r0y : LogM} {r1y : Int} {Y1 : Disk} (hm : m_9 X1 x1 x2 x3 = some (r0y, r1y, Y1)) :
    Ok Try.prog 9 ([.pointer (some ⟨b1, 0, none⟩), .int .i64 x1, .int .i64 x2, .int .i64 x3] : List Value).toArray s fun v s' => Tr (Ws [k1]) s s' ∧ ∃ nb0, v = .tuple #[.pointer (some ⟨nb0, 0, none⟩), .int .i64 r1y] ∧ DiskAt k1 s' b1 Y1 ∧ LogAt q0 b1 s' nb0 r0y := by
  unfold m_9 at hm
  obtain ⟨κ, hκ⟩ := s.fresh
  have lt1 : k1 < κ := hκ _ _ ho1.tag
  refine ok_of (n := 75) _ Try.func9 rfl _ rfl rfl fun a E => ?_
  refine G_seq ?_
  refine G_region ?_
  refine sd E (o_as (E.ev rfl)) rfl rfl rfl fun a E => ?_
  refine sd E (o_as (E.ev rfl)) rfl rfl rfl fun a E => ?_
  refine GL_nil ?_
  refine tgn ?_
  refine G_seq ?_
  refine G_seq ?_
  refine G_region ?_
  refine sd E (o_mv (E.ev rfl)) rfl rfl rfl fun a E => ?_
  obtain ⟨y1, hx1, hm⟩ := ob_some hm
  refine sh E (o_ok Try.call32 (E.evs rfl) (E.ev rfl) (oq_32 _ ho1 hx1)) rfl rfl rfl ?_
  rintro a _ s1 ⟨t1, rfl⟩ E
  refine sd E (o_as (E.ev rfl)) rfl rfl rfl fun a E => ?_
  refine GL_nil ?_
  refine tgn ?_
  refine G_block ?_
  refine G_seq ?_
  obtain ⟨t2, hc1, hm⟩ := ob_some hm
  refine G_regm (fun a' w' => ∃ s', w' = s'.w ∧ Tr No s1 s' ∧ En [] 75 a' [(18, .bool t2), (0, .pointer (some ⟨b1, 0, none⟩)), (1, .int .i64 x1), (2, .int .i64 x2), (3, .int .i64 x3), (8, .pointer none), (9, .int .i64 0)]) ?_ ?_
  · refine sd E (o_mv (E.ev rfl)) rfl rfl rfl fun a E => ?_
    refine sd E (o_bi (E.ev rfl) (E.ev rfl) rfl) rfl rfl rfl fun a E => ?_
    refine sd E (o_mv (E.ev rfl)) rfl rfl rfl fun a E => ?_
    refine bcase (E.ev (x := .tmp 21) rfl) (fun ht => ?_) (fun ht => ?_)
    · have hc1 := cT ht hc1
      rw [ht] at E
      refine sk E rfl rfl rfl fun a E => ?_
      refine sk E rfl rfl rfl fun a E => ?_
      refine sd E (o_pickT (E.ev rfl) (E.ev rfl)) rfl rfl rfl fun a E => ?_
      refine sd E (o_mv (E.ev rfl)) rfl rfl rfl fun a E => ?_
      refine sk E rfl rfl rfl fun a E => ?_
      refine sk E rfl rfl rfl fun a E => ?_
      refine sk E rfl rfl rfl fun a E => ?_
      refine sd E (o_pickT (E.ev rfl) (E.ev rfl)) rfl rfl rfl fun a E => ?_
      refine sd E (o_mv (E.ev rfl)) rfl rfl rfl fun a E => ?_
      refine sk E rfl rfl rfl fun a E => ?_
      refine sk E rfl rfl rfl fun a E => ?_
      refine sk E rfl rfl rfl fun a E => ?_
      refine sk E rfl rfl rfl fun a E => ?_
      refine sk E rfl rfl rfl fun a E => ?_
      refine sd E (o_pickT (E.ev rfl) (E.ev rfl)) rfl rfl rfl fun a E => ?_
      refine sd E (o_as (E.ev rfl)) rfl rfl rfl fun a E => ?_
      obtain rfl := Option.some.inj hc1
      exact GL_nil ⟨_, rfl, (Tr.refl _ _), (((((((E.nil.ad E rfl rfl).ad E rfl rfl).ad E rfl rfl).ad E rfl rfl).ad E rfl rfl).ad E rfl rfl).ad E rfl rfl)⟩
    · have hc1 := cF ht hc1
      rw [ht] at E
      refine sd E (o_mv (E.ev rfl)) rfl rfl rfl fun a E => ?_
      refine sd E (o_bi (E.ev rfl) (E.ev rfl) rfl) rfl rfl rfl fun a E => ?_
      refine sd E (o_pickF (E.ev rfl) (E.ev rfl)) rfl rfl rfl fun a E => ?_
      refine sd E (o_mv (E.ev rfl)) rfl rfl rfl fun a E => ?_
      refine bcase (E.ev (x := .tmp 25) rfl) (fun ht => ?_) (fun ht => ?_)
      · have hc1 := cT ht hc1
        rw [ht] at E
        refine sk E rfl rfl rfl fun a E => ?_
        refine sk E rfl rfl rfl fun a E => ?_
        refine sk E rfl rfl rfl fun a E => ?_
        refine sd E (o_pickT (E.ev rfl) (E.ev rfl)) rfl rfl rfl fun a E => ?_
        refine sd E (o_mv (E.ev rfl)) rfl rfl rfl fun a E => ?_
        refine sk E rfl rfl rfl fun a E => ?_
        refine sk E rfl rfl rfl fun a E => ?_
        refine sk E rfl rfl rfl fun a E => ?_
        refine sk E rfl rfl rfl fun a E => ?_
        refine sk E rfl rfl rfl fun a E => ?_
        refine sd E (o_pickT (E.ev rfl) (E.ev rfl)) rfl rfl rfl fun a E => ?_
        refine sd E (o_as (E.ev rfl)) rfl rfl rfl fun a E => ?_
        obtain rfl := Option.some.inj hc1
        exact GL_nil ⟨_, rfl, (Tr.refl _ _), (((((((E.nil.ad E rfl rfl).ad E rfl rfl).ad E rfl rfl).ad E rfl rfl).ad E rfl rfl).ad E rfl rfl).ad E rfl rfl)⟩
      · have hc1 := cF ht hc1
        rw [ht] at E
        refine sd E (o_mv (E.ev rfl)) rfl rfl rfl fun a E => ?_
        refine sd E (o_mv (E.ev rfl)) rfl rfl rfl fun a E => ?_
        refine sd E (o_bi (E.ev rfl) (E.ev rfl) rfl) rfl rfl rfl fun a E => ?_
        refine sd E (o_pickF (E.ev rfl) (E.ev rfl)) rfl rfl rfl fun a E => ?_
        refine sd E (o_mv (E.ev rfl)) rfl rfl rfl fun a E => ?_
        refine bcase (E.ev (x := .tmp 30) rfl) (fun ht => ?_) (fun ht => ?_)
        · have hc1 := cT ht hc1
          rw [ht] at E
          refine sk E rfl rfl rfl fun a E => ?_
          refine sk E rfl rfl rfl fun a E => ?_
          refine sk E rfl rfl rfl fun a E => ?_
          refine sk E rfl rfl rfl fun a E => ?_
          refine sk E rfl rfl rfl fun a E => ?_
          refine sd E (o_pickT (E.ev rfl) (E.ev rfl)) rfl rfl rfl fun a E => ?_
          refine sd E (o_as (E.ev rfl)) rfl rfl rfl fun a E => ?_
          obtain rfl := Option.some.inj hc1
          exact GL_nil ⟨_, rfl, (Tr.refl _ _), (((((((E.nil.ad E rfl rfl).ad E rfl rfl).ad E rfl rfl).ad E rfl rfl).ad E rfl rfl).ad E rfl rfl).ad E rfl rfl)⟩
        · have hc1 := cF ht hc1
          rw [ht] at E
          refine sd E (o_mv (E.ev rfl)) rfl rfl rfl fun a E => ?_
          refine sd E (o_mv (E.ev rfl)) rfl rfl rfl fun a E => ?_
          refine sd E (o_mv (E.ev rfl)) rfl rfl rfl fun a E => ?_
          refine sd E (o_bi (E.ev rfl) (E.ev rfl) rfl) rfl rfl rfl fun a E => ?_
          refine sd E (o_bi (E.ev rfl) (E.ev rfl) rfl) rfl rfl rfl fun a E => ?_
          refine sd E (o_pickF (E.ev rfl) (E.ev rfl)) rfl rfl rfl fun a E => ?_
          refine sd E (o_as (E.ev rfl)) rfl rfl rfl fun a E => ?_
          obtain rfl := Option.some.inj hc1
          exact GL_nil ⟨_, rfl, (Tr.refl _ _), (((((((E.nil.ad E rfl rfl).ad E rfl rfl).ad E rfl rfl).ad E rfl rfl).ad E rfl rfl).ad E rfl rfl).ad E rfl rfl)⟩
  rintro a _ ⟨s2, rfl, t3, E⟩
  refine tgn ?_
  refine G_cond (E.ev rfl) (fun ht => ?_) (fun ht => ?_)
  · have hm := cT ht hm
    refine G_seq ?_
    refine G_region ?_
    refine sd E (o_as (E.ev rfl)) rfl rfl rfl fun a E => ?_
    refine sd E (o_as (E.ev rfl)) rfl rfl rfl fun a E => ?_
    refine GL_nil ?_
    refine tgn ?_
    refine G_ret ?_
    refine ebr ?_
    refine tgr ?_
    cases hm
  · have hm := cF ht hm
    refine G_seq ?_
    obtain ⟨t4, hc2, hm⟩ := ob_some hm
    refine G_regm (fun a' w' => ∃ s', w' = s'.w ∧ Tr No s2 s' ∧ En [] 75 a' [(37, .bool t4), (0, .pointer (some ⟨b1, 0, none⟩)), (1, .int .i64 x1), (2, .int .i64 x2), (3, .int .i64 x3), (8, .pointer none), (9, .int .i64 0)]) ?_ ?_
    · refine sd E (o_mv (E.ev rfl)) rfl rfl rfl fun a E => ?_
      refine sd E (o_bi (E.ev rfl) (E.ev rfl) rfl) rfl rfl rfl fun a E => ?_
      refine sd E (o_mv (E.ev rfl)) rfl rfl rfl fun a E => ?_
      refine bcase (E.ev (x := .tmp 40) rfl) (fun ht => ?_) (fun ht => ?_)
      · have hc2 := cT ht hc2
        rw [ht] at E
        refine sk E rfl rfl rfl fun a E => ?_
        refine sk E rfl rfl rfl fun a E => ?_
        refine sd E (o_pickT (E.ev rfl) (E.ev rfl)) rfl rfl rfl fun a E => ?_
        refine sd E (o_as (E.ev rfl)) rfl rfl rfl fun a E => ?_
        obtain rfl := Option.some.inj hc2
        exact GL_nil ⟨_, rfl, (Tr.refl _ _), (((((((E.nil.ad E rfl rfl).ad E rfl rfl).ad E rfl rfl).ad E rfl rfl).ad E rfl rfl).ad E rfl rfl).ad E rfl rfl)⟩
      · have hc2 := cF ht hc2
        rw [ht] at E
        refine sd E (o_mv (E.ev rfl)) rfl rfl rfl fun a E => ?_
        refine sd E (o_bi (E.ev rfl) (E.ev rfl) rfl) rfl rfl rfl fun a E => ?_
        refine sd E (o_pickF (E.ev rfl) (E.ev rfl)) rfl rfl rfl fun a E => ?_
        refine sd E (o_as (E.ev rfl)) rfl rfl rfl fun a E => ?_
        obtain rfl := Option.some.inj hc2
        exact GL_nil ⟨_, rfl, (Tr.refl _ _), (((((((E.nil.ad E rfl rfl).ad E rfl rfl).ad E rfl rfl).ad E rfl rfl).ad E rfl rfl).ad E rfl rfl).ad E rfl rfl)⟩
    rintro a _ ⟨s3, rfl, t5, E⟩
    refine tgn ?_
    refine G_cond (E.ev rfl) (fun ht => ?_) (fun ht => ?_)
    · have hm := cT ht hm
      refine G_seq ?_
      refine G_region ?_
      refine sd E (o_as (E.ev rfl)) rfl rfl rfl fun a E => ?_
      refine sd E (o_as (E.ev rfl)) rfl rfl rfl fun a E => ?_
      refine GL_nil ?_
      refine tgn ?_
      refine G_ret ?_
      refine ebr ?_
      refine tgr ?_
      cases hm
    · have hm := cF ht hm
      refine G_skip ?_
      refine ebn ?_
      refine tgn ?_
      refine G_seq ?_
      refine G_region ?_
      refine sd E (o_mv (E.ev rfl)) rfl rfl rfl fun a E => ?_
      refine sd E (o_mv (E.ev rfl)) rfl rfl rfl fun a E => ?_
      refine sd E (o_mv (E.ev rfl)) rfl rfl rfl fun a E => ?_
      have f1 := ((ho1.trN t1).trN t3).trN t5
      obtain ⟨⟨y2, y3⟩, hx2, hm⟩ := ob_some hm
      refine sh E (o_ok Try.call33 (E.evs rfl) (E.ev rfl) (oq_33 _ (x1 := x1) (x2 := x2) f1 hx2)) rfl rfl rfl ?_
      rintro a _ s4 ⟨t6, w1, rfl, h1⟩ E
      refine sd E (o_mv (E.ev rfl)) rfl rfl rfl fun a E => ?_
      refine sd E (o_ext (v := w1) (E.ev rfl) rfl) rfl rfl rfl fun a E => ?_
      refine sd E (o_ext (v := .int .i64 y3) (E.ev rfl) rfl) rfl rfl rfl fun a E => ?_
      refine sd E (o_as (E.ev rfl)) rfl rfl rfl fun a E => ?_
      refine sd E (o_as (E.ev rfl)) rfl rfl rfl fun a E => ?_
      refine GL_nil ?_
      refine tgn ?_
      refine G_seq ?_
      refine G_seq ?_
      refine G_region ?_
      refine sd E (o_mv (E.ev rfl)) rfl rfl rfl fun a E => ?_
      refine sd E (o_bi (E.ev rfl) (E.ev rfl) rfl) rfl rfl rfl fun a E => ?_
      refine GL_nil ?_
      refine tgn ?_
      refine G_cond (E.ev rfl) (fun ht => ?_) (fun ht => ?_)
      · have hm := cT ht hm
        refine G_seq ?_
        refine G_region ?_
        refine sd E (o_mv (E.ev rfl)) rfl rfl rfl fun a E => ?_
        refine sd E (o_as (E.ev rfl)) rfl rfl rfl fun a E => ?_
        refine sd E (o_as (E.ev rfl)) rfl rfl rfl fun a E => ?_
        refine GL_nil ?_
        refine tgn ?_
        refine G_ret ?_
        refine tgr ?_
        cases hm
      · have hm := cF ht hm
        refine G_skip ?_
        refine tgn ?_
        refine G_seq ?_
        refine G_region ?_
        refine sd E (o_mv (E.ev rfl)) rfl rfl rfl fun a E => ?_
        refine sd E (o_mv (E.ev rfl)) rfl rfl rfl fun a E => ?_
        obtain ⟨⟨y4, y5⟩, hx3, hm⟩ := ob_some hm
        refine sh E (o_ok Try.call34 (E.evs rfl) (E.ev rfl) (ok_34 _ ((κ + 0), 1001) (x0 := x3) (x1 := y2) h1 hx3)) rfl rfl rfl ?_
        rintro a _ s5 ⟨t7, w2, rfl, h2⟩ E
        refine sd E (o_mv (E.ev rfl)) rfl rfl rfl fun a E => ?_
        refine sd E (o_ext (v := w2) (E.ev rfl) rfl) rfl rfl rfl fun a E => ?_
        refine sd E (o_ext (v := .int .i64 y5) (E.ev rfl) rfl) rfl rfl rfl fun a E => ?_
        refine sd E (o_as (E.ev rfl)) rfl rfl rfl fun a E => ?_
        refine sd E (o_as (E.ev rfl)) rfl rfl rfl fun a E => ?_
        refine GL_nil ?_
        refine tgn ?_
        refine G_seq ?_
        refine G_region ?_
        refine sd E (o_mv (E.ev rfl)) rfl rfl rfl fun a E => ?_
        refine sd E (o_mv (E.ev rfl)) rfl rfl rfl fun a E => ?_
        refine sd E (o_mv (E.ev rfl)) rfl rfl rfl fun a E => ?_
        refine sd E (o_mv (E.ev rfl)) rfl rfl rfl fun a E => ?_
        refine sd E (o_mv (E.ev rfl)) rfl rfl rfl fun a E => ?_
        refine sd E (o_mv (E.ev rfl)) rfl rfl rfl fun a E => ?_
        refine sd E (o_mv (E.ev rfl)) rfl rfl rfl fun a E => ?_
        obtain ⟨x5, hx4, hm⟩ := ob_some hm
        obtain ⟨x6, hx5, hm⟩ := ob_some hm
        have f2 := h1.tr t7
        obtain ⟨w3, g1, h3, h4⟩ := sl_hd f2 hx4 (by simpa using (gd_some hx5).1) Try.underlying30 Try.sizeOf37
        refine sd E (g1 _ _ _ _ _ _ _ _ _ _ (E.ev rfl) (E.ev rfl) (E.ev rfl)) rfl rfl rfl fun a E => ?_
        refine sd E (o_mv (E.ev rfl)) rfl rfl rfl fun a E => ?_
        obtain ⟨a1, c1, rfl⟩ := h3.isS
        obtain ⟨a2, c2, rfl⟩ := h2.isS
        refine sd E (o_bd (cells := #[.pointer (some ⟨b1, 0, none⟩), .int .i64 x1, .int .i64 x2, .int .i64 x3, (.slice a1 x5.length c1), (.slice a2 y4.length c2)]) (places := #[(0, 1), (1, 1), (2, 1), (3, 1), (4, 1), (5, 1)]) Try.zeroValue73 Try.underlying73 (fun w => by simp [Sem.run_bind, Result.andThen, Try.sizeOf3, Try.sizeOf22, Try.sizeOf24, Try.sizeOf30]) (qs := #[(0, .pointer (some ⟨b1, 0, none⟩)), (1, .int .i64 x1), (2, .int .i64 x2), (3, .int .i64 x3), (4, (.slice a1 x5.length c1)), (5, (.slice a2 y4.length c2))]) (by simp only [List.map_toArray, List.map_cons, List.map_nil, E.ev (x := .tmp 60) (v := .pointer (some ⟨b1, 0, none⟩)) rfl, E.ev (x := .tmp 61) (v := .int .i64 x1) rfl, E.ev (x := .tmp 62) (v := .int .i64 x2) rfl, E.ev (x := .tmp 63) (v := .int .i64 x3) rfl, E.ev (x := .tmp 67) (v := (.slice a1 x5.length c1)) rfl, E.ev (x := .tmp 68) (v := (.slice a2 y4.length c2)) rfl]) (by kernel_rfl)) rfl rfl rfl fun a E => ?_
        refine sh E (o_boxo ((κ + 1), 0) (E.ev rfl)) rfl rfl rfl ?_
        rintro a _ s6 ⟨b2, rfl, o1, t8⟩ E
        refine sd E (o_as (E.ev rfl)) rfl rfl rfl fun a E => ?_
        refine GL_nil ?_
        refine tgn ?_
        refine G_seq ?_
        refine G_region ?_
        refine sd E (o_mv (E.ev rfl)) rfl rfl rfl fun a E => ?_
        refine sd E (o_mv (E.ev rfl)) rfl rfl rfl fun a E => ?_
        have f3 := h2.trN t8
        obtain ⟨s7, e1, h5, t9⟩ := f3.rt ((κ + 1), 2)
        rw [e1]
        have f4 := (h3.tr t8).tr t9
        have f5 := o1.tr t9 (nt_fst (ra rfl))
        have h6 : LogAt (κ + 1) b1 s7 b2 (⟨x1, x2, x3, x5, y4⟩ : LogM) := ⟨_, _, f5, (.inr ⟨f4, h4⟩), h5⟩
        have f6 := (((f1.trN t6).trN t7).trN t8).tr t9 (fun i => (nt_fst (rb lt1)))
        have f7 := (f2.tr t8).tr t9
        obtain ⟨X2, hx6, hm⟩ := ob_some hm
        refine sh E (o_ok Try.call35 (E.evs rfl) (E.ev rfl) (oq_35 _ (x1 := y2) h6 f6 f7 (rb lt1).symm hx6)) rfl rfl rfl ?_
        rintro a _ s8 ⟨t10, h7⟩ E
        refine GL_nil ?_
        refine tgn ?_
        refine G_seq ?_
        refine G_region ?_
        refine sd E (o_mv (E.ev rfl)) rfl rfl rfl fun a E => ?_
        refine sd E (o_as (E.ev rfl)) rfl rfl rfl fun a E => ?_
        refine sd E (o_as (E.ev rfl)) rfl rfl rfl fun a E => ?_
        refine GL_nil ?_
        refine tgn ?_
        refine G_ret ?_
        cases hm
        have f8 := h6.tr t10 (fun i => (nW1 (rb lt1).symm))
        obtain ⟨s9, e2, h8, t11⟩ := f8.rt q0
        rw [e2]
        have t11 := Tr.w1 t11
        have f9 := h7.tr t11 (fun i => (nW1 (rb lt1)))
        have T1 : Tr (Fz κ [k1]) s s9 := ((((((((t1.no.trans t3.no).trans t5.no).trans t6.no).trans t7.no).trans t8.no).trans (Tr.ft Fz.f t9)).trans (Tr.fw1 Fz.w0 t10)).trans (Tr.fw1 Fz.f t11))
        exact fin2 E rfl rfl rfl ⟨(Tr.fin hκ T1), _, rfl, f9, h8⟩

-- gimmal/gimmallaw08.alive

noncomputable def m_7 : Option Bool :=
  ob (m_8 1) fun y1 => ob (m_9 y1 0 1 0) fun (y2, y3, X1) => ob (mq_10 y2 X1 (⟨1, (List.replicate (Int.toNat 7) (0 : Int))⟩ : Frame)) fun (y4, X2, X3) => ob (bif y3 == 0 then (bif y4 == 0 then (ob (mq_10 X2 X3 (⟨1, []⟩ : Frame)) fun (y5, X6, X7) => bif y5 == 4 then (ob (mq_31 X6) fun y6 => bif y6 == 8 then (ob (mq_13 X6) fun y7 => some (y7 == 0, X7, X6)) else (some (false, X7, X6))) else (some (false, X7, X6))) else (some (false, X3, X2))) else (some (false, X3, X2))) fun (t6, X4, X5) => some t6
theorem ok_7 (s : St) {r0y : Bool} (hm : m_7 = some r0y) :
    Ok Try.prog 7 ([] : List Value).toArray s fun v s' => Tr No s s' ∧ v = .bool r0y := by
  unfold m_7 at hm
  obtain ⟨κ, hκ⟩ := s.fresh
  refine ok_of (n := 37) _ Try.func7 rfl _ rfl rfl fun a E => ?_
  refine G_seq ?_
  refine G_region ?_
  refine sd E (o_as (E.ev rfl)) rfl rfl rfl fun a E => ?_
  refine GL_nil ?_
  refine tgn ?_
  refine G_seq ?_
  refine G_region ?_
  obtain ⟨y1, hx1, hm⟩ := ob_some hm
  refine sh E (o_ok Try.call8 (E.evs rfl) (E.ev rfl) (oq_8 _ (κ + 1) (x0 := 1) hx1)) rfl rfl rfl ?_
  rintro a _ s1 ⟨t1, b1, rfl, h1⟩ E
  refine sd E (o_as (E.ev rfl)) rfl rfl rfl fun a E => ?_
  refine GL_nil ?_
  refine tgn ?_
  refine G_seq ?_
  refine G_region ?_
  refine sd E (o_mv (E.ev rfl)) rfl rfl rfl fun a E => ?_
  obtain ⟨⟨y2, y3, X1⟩, hx2, hm⟩ := ob_some hm
  refine sh E (o_ok Try.call9 (E.evs rfl) (E.ev rfl) (ok_9 _ (κ + 2) (x1 := 0) (x2 := 1) (x3 := 0) h1 hx2)) rfl rfl rfl ?_
  rintro a _ s2 ⟨t2, b2, rfl, h3, h2⟩ E
  refine sd E (o_mv (E.ev rfl)) rfl rfl rfl fun a E => ?_
  refine sd E (o_ext (v := .pointer (some ⟨b2, 0, none⟩)) (E.ev rfl) rfl) rfl rfl rfl fun a E => ?_
  refine sd E (o_ext (v := .int .i64 y3) (E.ev rfl) rfl) rfl rfl rfl fun a E => ?_
  refine sd E (o_as (E.ev rfl)) rfl rfl rfl fun a E => ?_
  refine sd E (o_as (E.ev rfl)) rfl rfl rfl fun a E => ?_
  refine GL_nil ?_
  refine tgn ?_
  refine G_seq ?_
  refine G_region ?_
  refine sd E (o_mv (E.ev rfl)) rfl rfl rfl fun a E => ?_
  refine sh E (o_ms1 ((κ + 0), 1001) (K := kU) (c0 := .int .u64 0) (q := 0) (B := 0) Try.underlying30 Try.type37 rfl rfl rfl rfl rfl (fun s => rfl) (E.ev rfl) (E.ev rfl) (by decide) (by decide) rfl (Nat.zero_le _)) rfl rfl rfl ?_
  rintro a w1 s3 ⟨h4, t3⟩ E
  obtain ⟨s4, e1, h5, t4⟩ := h4.fz
  rw [e1]
  obtain ⟨a1, c1, rfl⟩ := h5.isS
  refine sd E (o_bd (cells := #[.int .i64 1, (.slice a1 (List.replicate (Int.toNat 7) (0 : Int)).length c1)]) (places := #[(0, 1), (1, 1)]) Try.zeroValue32 Try.underlying32 (fun w => by simp [Sem.run_bind, Result.andThen, Try.sizeOf3, Try.sizeOf30]) (qs := #[(0, .int .i64 1), (1, (.slice a1 (List.replicate (Int.toNat 7) (0 : Int)).length c1))]) (by simp only [List.map_toArray, List.map_cons, List.map_nil, E.ev (x := .const (.int .i64 1)) (v := .int .i64 1) rfl, E.ev (x := .tmp 12) (v := (.slice a1 (List.replicate (Int.toNat 7) (0 : Int)).length c1)) rfl]) (by kernel_rfl)) rfl rfl rfl fun a E => ?_
  have f1 := (h2.trN t3).tr t4 (fun i => (nt_fst (ra rfl)))
  have f2 := (h3.trN t3).tr t4 (fun i => (nt_fst (ra rfl)))
  obtain ⟨⟨y4, X2, X3⟩, hx3, hm⟩ := ob_some hm
  refine sh E (o_ok Try.call10 (E.evs rfl) (E.ev rfl) (oq_10 _ (x1 := (⟨1, (List.replicate (Int.toNat 7) (0 : Int))⟩ : Frame)) f1 f2 h5 (ra rfl) hx3)) rfl rfl rfl ?_
  rintro a _ s5 ⟨t5, rfl, h6, h7⟩ E
  refine sd E (o_as (E.ev rfl)) rfl rfl rfl fun a E => ?_
  refine GL_nil ?_
  refine tgn ?_
  refine G_seq ?_
  obtain ⟨⟨t6, X4, X5⟩, hc1, hm⟩ := ob_some hm
  refine G_regm (fun a' w' => ∃ s', w' = s'.w ∧ Tr (Fz κ []) s5 s' ∧ En [] 37 a' [(0, .bool t6)]) ?_ ?_
  · refine sd E (o_mv (E.ev rfl)) rfl rfl rfl fun a E => ?_
    refine sd E (o_bi (E.ev rfl) (E.ev rfl) rfl) rfl rfl rfl fun a E => ?_
    refine sd E (o_mv (E.ev rfl)) rfl rfl rfl fun a E => ?_
    refine bcase (E.ev (x := .tmp 17) rfl) (fun ht => ?_) (fun ht => ?_)
    · have hc1 := cT ht hc1
      rw [ht] at E
      refine sd E (o_mv (E.ev rfl)) rfl rfl rfl fun a E => ?_
      refine sd E (o_bi (E.ev rfl) (E.ev rfl) rfl) rfl rfl rfl fun a E => ?_
      refine sd E (o_pickT (E.ev rfl) (E.ev rfl)) rfl rfl rfl fun a E => ?_
      refine sd E (o_mv (E.ev rfl)) rfl rfl rfl fun a E => ?_
      refine bcase (E.ev (x := .tmp 21) rfl) (fun ht => ?_) (fun ht => ?_)
      · have hc1 := cT ht hc1
        rw [ht] at E
        refine sd E (o_mv (E.ev rfl)) rfl rfl rfl fun a E => ?_
        refine sd E (o_bd (cells := #[.int .i64 1, (.slice none 0 0)]) (places := #[(0, 1), (1, 1)]) Try.zeroValue32 Try.underlying32 (fun w => by simp [Sem.run_bind, Result.andThen, Try.sizeOf3, Try.sizeOf30]) (qs := #[(0, .int .i64 1)]) (by simp only [List.map_toArray, List.map_cons, List.map_nil, E.ev (x := .const (.int .i64 1)) (v := .int .i64 1) rfl]) (by kernel_rfl)) rfl rfl rfl fun a E => ?_
        obtain ⟨⟨y5, X6, X7⟩, hx4, hc1⟩ := ob_some hc1
        refine sh E (o_ok Try.call10 (E.evs rfl) (E.ev rfl) (oq_10 _ (x1 := (⟨1, []⟩ : Frame)) h6 h7 (Sl.nil) (ra rfl) hx4)) rfl rfl rfl ?_
        rintro a _ s6 ⟨t7, rfl, h8, h9⟩ E
        refine sd E (o_bi (E.ev rfl) (E.ev rfl) rfl) rfl rfl rfl fun a E => ?_
        refine sd E (o_pickT (E.ev rfl) (E.ev rfl)) rfl rfl rfl fun a E => ?_
        refine sd E (o_mv (E.ev rfl)) rfl rfl rfl fun a E => ?_
        refine bcase (E.ev (x := .tmp 27) rfl) (fun ht => ?_) (fun ht => ?_)
        · have hc1 := cT ht hc1
          rw [ht] at E
          refine sd E (o_mv (E.ev rfl)) rfl rfl rfl fun a E => ?_
          obtain ⟨y6, hx5, hc1⟩ := ob_some hc1
          refine sh E (o_ok Try.call31 (E.evs rfl) (E.ev rfl) (oq_31 _ h8 hx5)) rfl rfl rfl ?_
          rintro a _ s7 ⟨t8, rfl⟩ E
          refine sd E (o_bi (E.ev rfl) (E.ev rfl) rfl) rfl rfl rfl fun a E => ?_
          refine sd E (o_pickT (E.ev rfl) (E.ev rfl)) rfl rfl rfl fun a E => ?_
          refine sd E (o_mv (E.ev rfl)) rfl rfl rfl fun a E => ?_
          refine bcase (E.ev (x := .tmp 32) rfl) (fun ht => ?_) (fun ht => ?_)
          · have hc1 := cT ht hc1
            rw [ht] at E
            refine sd E (o_mv (E.ev rfl)) rfl rfl rfl fun a E => ?_
            have f3 := h8.trN t8
            obtain ⟨y7, hx6, hc1⟩ := ob_some hc1
            refine sh E (o_ok Try.call13 (E.evs rfl) (E.ev rfl) (oq_13 _ f3 hx6)) rfl rfl rfl ?_
            rintro a _ s8 ⟨t9, rfl⟩ E
            refine sd E (o_bi (E.ev rfl) (E.ev rfl) rfl) rfl rfl rfl fun a E => ?_
            refine sd E (o_pickT (E.ev rfl) (E.ev rfl)) rfl rfl rfl fun a E => ?_
            refine sd E (o_as (E.ev rfl)) rfl rfl rfl fun a E => ?_
            cases hc1
            exact GL_nil ⟨_, rfl, (((Tr.fw2 Fz.f Fz.f t7).trans t8.no).trans t9.no), (E.nil.ad E rfl rfl)⟩
          · have hc1 := cF ht hc1
            rw [ht] at E
            refine sk E rfl rfl rfl fun a E => ?_
            refine sk E rfl rfl rfl fun a E => ?_
            refine sk E rfl rfl rfl fun a E => ?_
            refine sd E (o_pickF (E.ev rfl) (E.ev rfl)) rfl rfl rfl fun a E => ?_
            refine sd E (o_as (E.ev rfl)) rfl rfl rfl fun a E => ?_
            cases hc1
            exact GL_nil ⟨_, rfl, ((Tr.fw2 Fz.f Fz.f t7).trans t8.no), (E.nil.ad E rfl rfl)⟩
        · have hc1 := cF ht hc1
          rw [ht] at E
          refine sk E rfl rfl rfl fun a E => ?_
          refine sk E rfl rfl rfl fun a E => ?_
          refine sk E rfl rfl rfl fun a E => ?_
          refine sd E (o_pickF (E.ev rfl) (E.ev rfl)) rfl rfl rfl fun a E => ?_
          refine sd E (o_mv (E.ev rfl)) rfl rfl rfl fun a E => ?_
          refine sk E rfl rfl rfl fun a E => ?_
          refine sk E rfl rfl rfl fun a E => ?_
          refine sk E rfl rfl rfl fun a E => ?_
          refine sd E (o_pickF (E.ev rfl) (E.ev rfl)) rfl rfl rfl fun a E => ?_
          refine sd E (o_as (E.ev rfl)) rfl rfl rfl fun a E => ?_
          cases hc1
          exact GL_nil ⟨_, rfl, (Tr.fw2 Fz.f Fz.f t7), (E.nil.ad E rfl rfl)⟩
      · have hc1 := cF ht hc1
        rw [ht] at E
        refine sk E rfl rfl rfl fun a E => ?_
        refine sk E rfl rfl rfl fun a E => ?_
        refine sk E rfl rfl rfl fun a E => ?_
        refine sk E rfl rfl rfl fun a E => ?_
        refine sd E (o_pickF (E.ev rfl) (E.ev rfl)) rfl rfl rfl fun a E => ?_
        refine sd E (o_mv (E.ev rfl)) rfl rfl rfl fun a E => ?_
        refine sk E rfl rfl rfl fun a E => ?_
        refine sk E rfl rfl rfl fun a E => ?_
        refine sk E rfl rfl rfl fun a E => ?_
        refine sd E (o_pickF (E.ev rfl) (E.ev rfl)) rfl rfl rfl fun a E => ?_
        refine sd E (o_mv (E.ev rfl)) rfl rfl rfl fun a E => ?_
        refine sk E rfl rfl rfl fun a E => ?_
        refine sk E rfl rfl rfl fun a E => ?_
        refine sk E rfl rfl rfl fun a E => ?_
        refine sd E (o_pickF (E.ev rfl) (E.ev rfl)) rfl rfl rfl fun a E => ?_
        refine sd E (o_as (E.ev rfl)) rfl rfl rfl fun a E => ?_
        cases hc1
        exact GL_nil ⟨_, rfl, (Tr.refl _ _), (E.nil.ad E rfl rfl)⟩
    · have hc1 := cF ht hc1
      rw [ht] at E
      refine sk E rfl rfl rfl fun a E => ?_
      refine sk E rfl rfl rfl fun a E => ?_
      refine sd E (o_pickF (E.ev rfl) (E.ev rfl)) rfl rfl rfl fun a E => ?_
      refine sd E (o_mv (E.ev rfl)) rfl rfl rfl fun a E => ?_
      refine sk E rfl rfl rfl fun a E => ?_
      refine sk E rfl rfl rfl fun a E => ?_
      refine sk E rfl rfl rfl fun a E => ?_
      refine sk E rfl rfl rfl fun a E => ?_
      refine sd E (o_pickF (E.ev rfl) (E.ev rfl)) rfl rfl rfl fun a E => ?_
      refine sd E (o_mv (E.ev rfl)) rfl rfl rfl fun a E => ?_
      refine sk E rfl rfl rfl fun a E => ?_
      refine sk E rfl rfl rfl fun a E => ?_
      refine sk E rfl rfl rfl fun a E => ?_
      refine sd E (o_pickF (E.ev rfl) (E.ev rfl)) rfl rfl rfl fun a E => ?_
      refine sd E (o_mv (E.ev rfl)) rfl rfl rfl fun a E => ?_
      refine sk E rfl rfl rfl fun a E => ?_
      refine sk E rfl rfl rfl fun a E => ?_
      refine sk E rfl rfl rfl fun a E => ?_
      refine sd E (o_pickF (E.ev rfl) (E.ev rfl)) rfl rfl rfl fun a E => ?_
      refine sd E (o_as (E.ev rfl)) rfl rfl rfl fun a E => ?_
      cases hc1
      exact GL_nil ⟨_, rfl, (Tr.refl _ _), (E.nil.ad E rfl rfl)⟩
  rintro a _ ⟨s9, rfl, t10, E⟩
  refine tgn ?_
  refine G_ret ?_
  cases hm
  have T1 : Tr (Fz κ []) s s9 := (((((t1.no.trans (Tr.fw1 Fz.f t2)).trans t3.no).trans (Tr.ft Fz.f t4)).trans (Tr.fw2 Fz.f Fz.f t5)).trans t10)
  exact fin1 E rfl rfl ⟨(Tr.fin0 hκ T1), rfl⟩

-- gimmal/gimmallaw08.LogAgain
noncomputable def m_3_3b (y15 : List Int) : ((List Int) × Int) → Option (Lo ((List Int) × Int) ((List Int) × Int)) := fun (x23, x24) => bif decide (x24 < 8) then (ob (gd (decide (0 ≤ x24) && decide (x24 < 8)) (some ())) fun x25 => ob (gt y15 x24) fun x26 => ob (ap x23 [x26]) fun x27 => some (.inl (x27, IntKind.wrap .i64 (x24 + 1)))) else (some (.inr (x23, x24)))
noncomputable def m_3_3k (x20 : Int) : ((List Int) × Int) → Option (Lo ((List Int) × Int) ((List Int) × Int)) := fun (x28, x29) => some (.inl (x28, IntKind.wrap .i64 (x20 + 1)))
noncomputable def m_3_2b (x0 : Int) (X5 : Disk) : ((List Int) × Int) → Option (Lo ((List Int) × Int) ((List Int) × Int)) := fun (x19, x20) => bif decide (x20 < (IntKind.wrap .i64 ((IntKind.wrap .i64 (Int.tmod x0 30)) + 1))) then (ob (m_14 X5 x20) fun (y15, y16) => ob (loopO (m_3_3b y15) (x19, 0)) (m_3_3k x20)) else (some (.inr (x19, x20)))
noncomputable def m_3_2k (y8 : LogM) : ((List Int) × Int) → Option Bool := fun (x30, x31) => ob (m_15 6 x30) fun (y17, y18) => ob (m_12 y8) fun y19 => ob (m_11 y19 y17) fun y20 => some y20
noncomputable def m_3_1b (x1 : List Frame) : (Bool × Int × Disk × LogM) → Option (Lo (Bool × Int × Disk × LogM) (Sum (Bool × Int × Disk × LogM) Bool)) := fun (x7, x8, x9, x10) => bif decide (x8 < (x1.length : Int)) then (ob (gt x1 x8) fun x11 => bif decide ((x11.Words.length : Int) > 400) then (some (.inr (.inr true))) else (ob (gt x1 x8) fun x12 => ob (mq_10 x10 x9 x12) fun (y5, X2, X3) => some (.inl (x7, IntKind.wrap .i64 (x8 + 1), X3, X2)))) else (some (.inr (.inl (x7, x8, x9, x10))))
noncomputable def m_3_1k (x0 : Int) : Sum (Bool × Int × Disk × LogM) Bool → Option Bool
  | .inl (x13, x14, x15, x16) => ob (m_9 x15 0 (IntKind.wrap .i64 ((IntKind.wrap .i64 (Int.tmod x0 30)) + 1)) 5) fun (y6, y7, X4) => ob (m_9 X4 0 (IntKind.wrap .i64 ((IntKind.wrap .i64 (Int.tmod x0 30)) + 1)) 6) fun (y8, y9, X5) => ob (bif y7 != 0 then (some true) else (bif y9 != 0 then (some true) else (ob (m_12 x16) fun y10 => ob (m_12 y6) fun y11 => ob (m_11 y10 y11) fun y12 => bif !y12 then (some true) else (ob (mq_13 x16) fun y13 => ob (mq_13 y6) fun y14 => some (y13 != y14))))) fun t9 => bif t9 then (some false) else (ob (loopO (m_3_2b x0 X5) ([], 0)) (m_3_2k y8))
  | .inr y => some y
noncomputable def m_3 (x0 : Int) (x1 : List Frame) : Option Bool :=
  ob (m_7) fun y1 => bif !y1 then (some false) else (bif decide ((x1.length : Int) > 30) then (some true) else (ob (m_8 (IntKind.wrap .i64 ((IntKind.wrap .i64 (Int.tmod x0 30)) + 1))) fun y2 => ob (m_9 y2 0 (IntKind.wrap .i64 ((IntKind.wrap .i64 (Int.tmod x0 30)) + 1)) 5) fun (y3, y4, X1) => bif y4 != 0 then (some false) else (ob (loopO (m_3_1b x1) (false, 0, X1, y3)) (m_3_1k x0))))
theorem ok_3 (s : St) {x0 : Int} {x1 : List Frame} {w1 : Value} (h1 : Sl kFr s w1 x1) {r0y : Bool} (hm : m_3 x0 x1 = some r0y) :
    Ok Try.prog 3 ([.int .u8 x0, w1] : List Value).toArray s fun v s' => Tr No s s' ∧ v = .bool r0y := by
  unfold m_3 at hm
  obtain ⟨κ, hκ⟩ := s.fresh
  refine ok_of (n := 122) _ Try.func3 rfl _ rfl rfl fun a E => ?_
  refine G_seq ?_
  refine G_region ?_
  refine sd E (o_as (E.ev rfl)) rfl rfl rfl fun a E => ?_
  refine GL_nil ?_
  refine tgn ?_
  refine G_seq ?_
  refine G_seq ?_
  refine G_region ?_
  obtain ⟨y1, hx1, hm⟩ := ob_some hm
  refine sh E (o_ok Try.call7 (E.evs rfl) (E.ev rfl) (ok_7 _ hx1)) rfl rfl rfl ?_
  rintro a _ s1 ⟨t1, rfl⟩ E
  refine sd E (o_not (E.ev rfl)) rfl rfl rfl fun a E => ?_
  refine GL_nil ?_
  refine tgn ?_
  refine G_cond (E.ev rfl) (fun ht => ?_) (fun ht => ?_)
  · have hm := cT ht hm
    refine G_seq ?_
    refine G_region ?_
    refine sd E (o_as (E.ev rfl)) rfl rfl rfl fun a E => ?_
    refine GL_nil ?_
    refine tgn ?_
    refine G_ret ?_
    refine tgr ?_
    cases hm
    have T1 : Tr (Fz κ []) s s1 := t1.no
    exact fin1 E rfl rfl ⟨(Tr.fin0 hκ T1), rfl⟩
  · have hm := cF ht hm
    refine G_skip ?_
    refine tgn ?_
    refine G_seq ?_
    refine G_seq ?_
    refine G_region ?_
    refine sd E (o_mv (E.ev rfl)) rfl rfl rfl fun a E => ?_
    have f1 := h1.tr t1
    refine sd E (o_lenS (xs := x1) Try.underlying22 (E.ev rfl) f1.isS) rfl rfl rfl fun a E => ?_
    refine sd E (o_bi (E.ev rfl) (E.ev rfl) rfl) rfl rfl rfl fun a E => ?_
    refine GL_nil ?_
    refine tgn ?_
    refine G_cond (E.ev rfl) (fun ht => ?_) (fun ht => ?_)
    · have hm := cT ht hm
      refine G_seq ?_
      refine G_region ?_
      refine sd E (o_as (E.ev rfl)) rfl rfl rfl fun a E => ?_
      refine GL_nil ?_
      refine tgn ?_
      refine G_ret ?_
      refine tgr ?_
      cases hm
      have T2 : Tr (Fz κ []) s s1 := t1.no
      exact fin1 E rfl rfl ⟨(Tr.fin0 hκ T2), rfl⟩
    · have hm := cF ht hm
      refine G_skip ?_
      refine tgn ?_
      refine G_seq ?_
      refine G_region ?_
      refine sd E (o_mv (E.ev rfl)) rfl rfl rfl fun a E => ?_
      refine sd E (o_rem (E.ev rfl) (E.ev rfl) rfl) rfl rfl rfl fun a E => ?_
      refine sd E (o_cv Try.underlying5 Try.underlying3 (E.ev rfl)) rfl rfl rfl fun a E => ?_
      refine sd E (o_bi (E.ev rfl) (E.ev rfl) rfl) rfl rfl rfl fun a E => ?_
      refine sd E (o_as (E.ev rfl)) rfl rfl rfl fun a E => ?_
      refine GL_nil ?_
      refine tgn ?_
      refine G_seq ?_
      refine G_region ?_
      refine sd E (o_mv (E.ev rfl)) rfl rfl rfl fun a E => ?_
      obtain ⟨y2, hx2, hm⟩ := ob_some hm
      refine sh E (o_ok Try.call8 (E.evs rfl) (E.ev rfl) (oq_8 _ (κ + 1) (x0 := IntKind.wrap .i64 ((IntKind.wrap .i64 (Int.tmod x0 30)) + 1)) hx2)) rfl rfl rfl ?_
      rintro a _ s2 ⟨t2, b1, rfl, h2⟩ E
      refine sd E (o_as (E.ev rfl)) rfl rfl rfl fun a E => ?_
      refine GL_nil ?_
      refine tgn ?_
      refine G_seq ?_
      refine G_region ?_
      refine sd E (o_mv (E.ev rfl)) rfl rfl rfl fun a E => ?_
      refine sd E (o_mv (E.ev rfl)) rfl rfl rfl fun a E => ?_
      obtain ⟨⟨y3, y4, X1⟩, hx3, hm⟩ := ob_some hm
      refine sh E (o_ok Try.call9 (E.evs rfl) (E.ev rfl) (ok_9 _ (κ + 2) (x1 := 0) (x2 := IntKind.wrap .i64 ((IntKind.wrap .i64 (Int.tmod x0 30)) + 1)) (x3 := 5) h2 hx3)) rfl rfl rfl ?_
      rintro a _ s3 ⟨t3, b2, rfl, h4, h3⟩ E
      refine sd E (o_mv (E.ev rfl)) rfl rfl rfl fun a E => ?_
      refine sd E (o_ext (v := .pointer (some ⟨b2, 0, none⟩)) (E.ev rfl) rfl) rfl rfl rfl fun a E => ?_
      refine sd E (o_ext (v := .int .i64 y4) (E.ev rfl) rfl) rfl rfl rfl fun a E => ?_
      refine sd E (o_as (E.ev rfl)) rfl rfl rfl fun a E => ?_
      refine sd E (o_as (E.ev rfl)) rfl rfl rfl fun a E => ?_
      refine GL_nil ?_
      refine tgn ?_
      refine G_seq ?_
      refine G_seq ?_
      refine G_region ?_
      refine sd E (o_mv (E.ev rfl)) rfl rfl rfl fun a E => ?_
      refine sd E (o_bi (E.ev rfl) (E.ev rfl) rfl) rfl rfl rfl fun a E => ?_
      refine GL_nil ?_
      refine tgn ?_
      refine G_cond (E.ev rfl) (fun ht => ?_) (fun ht => ?_)
      · have hm := cT ht hm
        refine G_seq ?_
        refine G_region ?_
        refine sd E (o_as (E.ev rfl)) rfl rfl rfl fun a E => ?_
        refine GL_nil ?_
        refine tgn ?_
        refine G_ret ?_
        refine tgr ?_
        cases hm
        have T3 : Tr (Fz κ []) s s3 := ((t1.no.trans t2.no).trans (Tr.fw1 Fz.f t3))
        exact fin1 E rfl rfl ⟨(Tr.fin0 hκ T3), rfl⟩
      · have hm := cF ht hm
        refine G_skip ?_
        refine tgn ?_
        refine G_seq ?_
        refine G_seq ?_
        refine G_region ?_
        refine sd E (o_as (E.ev rfl)) rfl rfl rfl fun a E => ?_
        refine GL_nil ?_
        refine tgn ?_
        obtain ⟨r1, hl1, hm⟩ := ob_some hm
        refine G_mid1 (fun a' w' => ∃ x3 x4 x5 x6 s', m_3_1k x0 (.inl (x3, x4, x5, x6)) = some r0y ∧ w' = s'.w ∧ Tr (Fz κ []) s3 s' ∧ DiskAt (κ + 1) s' b1 x5 ∧ LogAt (κ + 2) b1 s' b2 x6 ∧ En [] 122 a' [(4, .bool x3), (9, .int .i64 x4), (1, w1), (5, .int .i64 (IntKind.wrap .i64 ((IntKind.wrap .i64 (Int.tmod x0 30)) + 1))), (6, .pointer (some ⟨b1, 0, none⟩)), (7, .pointer (some ⟨b2, 0, none⟩))]) ?_ ?_
        · refine G_block ?_
          refine G_lp hl1 (fun st a' w' => ∃ x3 x4 x5 x6 s', st = (x3, x4, x5, x6) ∧ w' = s'.w ∧ Tr (Fz κ []) s3 s' ∧ DiskAt (κ + 1) s' b1 x5 ∧ LogAt (κ + 2) b1 s' b2 x6 ∧ En [] 122 a' [(4, .bool x3), (9, .int .i64 x4), (1, w1), (5, .int .i64 (IntKind.wrap .i64 ((IntKind.wrap .i64 (Int.tmod x0 30)) + 1))), (6, .pointer (some ⟨b1, 0, none⟩)), (7, .pointer (some ⟨b2, 0, none⟩))]) ⟨_, _, _, _, _, rfl, rfl, (Tr.refl _ _), h4, h3, ((((((E.nil.ad E rfl rfl).ad E rfl rfl).ad E rfl rfl).ad E rfl rfl).ad E rfl rfl).ad E rfl rfl)⟩ ?_
          rintro _ a _ x ⟨x7, x8, x9, x10, s4, rfl, rfl, t4, h5, h6, E⟩ hf1
          dsimp only [m_3_1b] at hf1
          refine G_seq ?_
          refine G_seq ?_
          refine G_region ?_
          refine sd E (o_mv (E.ev rfl)) rfl rfl rfl fun a E => ?_
          refine sd E (o_mv (E.ev rfl)) rfl rfl rfl fun a E => ?_
          have f2 := ((f1.tr t2).tr t3).tr t4
          refine sd E (o_lenS (xs := x1) Try.underlying22 (E.ev rfl) f2.isS) rfl rfl rfl fun a E => ?_
          refine sd E (o_bi (E.ev rfl) (E.ev rfl) rfl) rfl rfl rfl fun a E => ?_
          refine GL_nil ?_
          refine tgn ?_
          refine G_cond (E.ev rfl) (fun ht => ?_) (fun ht => ?_)
          · have hf1 := cT ht hf1
            refine G_skip ?_
            refine tgn ?_
            refine G_seq ?_
            refine G_block ?_
            refine G_seq ?_
            refine G_seq ?_
            refine G_region ?_
            refine sd E (o_mv (E.ev rfl)) rfl rfl rfl fun a E => ?_
            refine sd E (o_mv (E.ev rfl)) rfl rfl rfl fun a E => ?_
            obtain ⟨x11, hx4, hf1⟩ := ob_some hf1
            obtain ⟨b3, p1, g1, h7⟩ := f2.gt hx4
            refine sd E (o_ixg Try.underlying22 Try.sizeOf32 g1 (E.ev rfl) (E.ev rfl)) rfl rfl rfl fun a E => ?_
            refine sd E (o_fa Try.underlying32 rfl Try.sizeOf30 (E.ev rfl)) rfl rfl rfl fun a E => ?_
            obtain ⟨w2, e1, e2, h8⟩ := h7.fr
            refine sd E (o_ld Try.isAgg30 (E.ev rfl) e2) rfl rfl rfl fun a E => ?_
            refine sd E (o_lenS (xs := x11.Words) Try.underlying30 (E.ev rfl) h8.isS) rfl rfl rfl fun a E => ?_
            refine sd E (o_bi (E.ev rfl) (E.ev rfl) rfl) rfl rfl rfl fun a E => ?_
            refine GL_nil ?_
            refine tgn ?_
            refine G_cond (E.ev rfl) (fun ht => ?_) (fun ht => ?_)
            · have hf1 := cT ht hf1
              refine G_seq ?_
              refine G_region ?_
              refine sd E (o_as (E.ev rfl)) rfl rfl rfl fun a E => ?_
              refine GL_nil ?_
              refine tgn ?_
              refine G_ret ?_
              refine tgr ?_
              refine ebr ?_
              refine tgr ?_
              obtain rfl := Option.some.inj hf1
              refine lpr fun hr => ?_
              subst hr
              dsimp only [m_3_1k] at hm
              refine ebr ?_
              refine ctr ?_
              refine tgr ?_
              cases hm
              have T4 : Tr (Fz κ []) s s4 := (((t1.no.trans t2.no).trans (Tr.fw1 Fz.f t3)).trans t4)
              exact fin1 E rfl rfl ⟨(Tr.fin0 hκ T4), rfl⟩
            · have hf1 := cF ht hf1
              refine G_skip ?_
              refine tgn ?_
              refine G_region ?_
              refine sd E (o_mv (E.ev rfl)) rfl rfl rfl fun a E => ?_
              refine sd E (o_mv (E.ev rfl)) rfl rfl rfl fun a E => ?_
              refine sd E (o_mv (E.ev rfl)) rfl rfl rfl fun a E => ?_
              obtain ⟨x12, hx5, hf1⟩ := ob_some hf1
              obtain ⟨b4, p2, g2, h9⟩ := f2.gt hx5
              refine sd E (o_ixg Try.underlying22 Try.sizeOf32 g2 (E.ev rfl) (E.ev rfl)) rfl rfl rfl fun a E => ?_
              obtain ⟨w3, e3, e4, h10⟩ := h9.fr
              refine sd E (o_ld2 Try.isAgg32 Try.sizeOf32 (E.ev rfl) e3 e4) rfl rfl rfl fun a E => ?_
              obtain ⟨a1, c1, rfl⟩ := h10.isS
              obtain ⟨⟨y5, X2, X3⟩, hx6, hf1⟩ := ob_some hf1
              refine sh E (o_ok Try.call10 (E.evs rfl) (E.ev rfl) (oq_10 _ (x1 := x12) h6 h5 h10 (ra rfl) hx6)) rfl rfl rfl ?_
              rintro a _ s5 ⟨t5, rfl, h11, h12⟩ E
              refine GL_nil ?_
              refine ebn ?_
              refine tgn ?_
              refine G_region ?_
              refine sd E (o_mv (E.ev rfl)) rfl rfl rfl fun a E => ?_
              refine sd E (o_bi (E.ev rfl) (E.ev rfl) rfl) rfl rfl rfl fun a E => ?_
              refine sd E (o_as (E.ev rfl)) rfl rfl rfl fun a E => ?_
              refine GL_nil ?_
              obtain rfl := Option.some.inj hf1
              have T5 : Tr (Fz κ []) s3 s5 := (t4.trans (Tr.fw2 Fz.f Fz.f t5))
              exact lpn ⟨_, _, _, _, _, rfl, rfl, T5, h12, h11, ((((((E.nil.ad E rfl rfl).ad E rfl rfl).ad E rfl rfl).ad E rfl rfl).ad E rfl rfl).ad E rfl rfl)⟩
          · have hf1 := cF ht hf1
            refine G_exit ?_
            refine tge ?_
            obtain rfl := Option.some.inj hf1
            refine lpe fun hr => ?_
            subst hr
            refine ebk ?_
            refine ctn ?_
            exact ⟨_, _, _, _, _, hm, rfl, t4, h5, h6, ((((((E.nil.ad E rfl rfl).ad E rfl rfl).ad E rfl rfl).ad E rfl rfl).ad E rfl rfl).ad E rfl rfl)⟩
        · rintro a _ ⟨x13, x14, x15, x16, s6, hm, rfl, t6, h13, h14, E⟩
          dsimp only [m_3_1k] at hm
          refine tgn ?_
          refine G_seq ?_
          refine G_region ?_
          refine sd E (o_mv (E.ev rfl)) rfl rfl rfl fun a E => ?_
          refine sd E (o_mv (E.ev rfl)) rfl rfl rfl fun a E => ?_
          obtain ⟨⟨y6, y7, X4⟩, hx7, hm⟩ := ob_some hm
          refine sh E (o_ok Try.call9 (E.evs rfl) (E.ev rfl) (ok_9 _ (κ + 3) (x1 := 0) (x2 := IntKind.wrap .i64 ((IntKind.wrap .i64 (Int.tmod x0 30)) + 1)) (x3 := 5) h13 hx7)) rfl rfl rfl ?_
          rintro a _ s7 ⟨t7, b5, rfl, h16, h15⟩ E
          refine sd E (o_mv (E.ev rfl)) rfl rfl rfl fun a E => ?_
          refine sd E (o_ext (v := .pointer (some ⟨b5, 0, none⟩)) (E.ev rfl) rfl) rfl rfl rfl fun a E => ?_
          refine sd E (o_ext (v := .int .i64 y7) (E.ev rfl) rfl) rfl rfl rfl fun a E => ?_
          refine sd E (o_as (E.ev rfl)) rfl rfl rfl fun a E => ?_
          refine sd E (o_as (E.ev rfl)) rfl rfl rfl fun a E => ?_
          refine GL_nil ?_
          refine tgn ?_
          refine G_seq ?_
          refine G_region ?_
          refine sd E (o_mv (E.ev rfl)) rfl rfl rfl fun a E => ?_
          refine sd E (o_mv (E.ev rfl)) rfl rfl rfl fun a E => ?_
          obtain ⟨⟨y8, y9, X5⟩, hx8, hm⟩ := ob_some hm
          refine sh E (o_ok Try.call9 (E.evs rfl) (E.ev rfl) (ok_9 _ (κ + 4) (x1 := 0) (x2 := IntKind.wrap .i64 ((IntKind.wrap .i64 (Int.tmod x0 30)) + 1)) (x3 := 6) h16 hx8)) rfl rfl rfl ?_
          rintro a _ s8 ⟨t8, b6, rfl, h18, h17⟩ E
          refine sd E (o_mv (E.ev rfl)) rfl rfl rfl fun a E => ?_
          refine sd E (o_ext (v := .pointer (some ⟨b6, 0, none⟩)) (E.ev rfl) rfl) rfl rfl rfl fun a E => ?_
          refine sd E (o_ext (v := .int .i64 y9) (E.ev rfl) rfl) rfl rfl rfl fun a E => ?_
          refine sd E (o_as (E.ev rfl)) rfl rfl rfl fun a E => ?_
          refine sd E (o_as (E.ev rfl)) rfl rfl rfl fun a E => ?_
          refine GL_nil ?_
          refine tgn ?_
          refine G_seq ?_
          refine G_seq ?_
          obtain ⟨t9, hc1, hm⟩ := ob_some hm
          refine G_regm (fun a' w' => ∃ s', w' = s'.w ∧ Tr No s8 s' ∧ En [] 122 a' [(91, .bool t9), (4, .bool x13), (5, .int .i64 (IntKind.wrap .i64 ((IntKind.wrap .i64 (Int.tmod x0 30)) + 1))), (6, .pointer (some ⟨b1, 0, none⟩)), (12, .pointer (some ⟨b6, 0, none⟩))]) ?_ ?_
          · refine sd E (o_mv (E.ev rfl)) rfl rfl rfl fun a E => ?_
            refine sd E (o_bi (E.ev rfl) (E.ev rfl) rfl) rfl rfl rfl fun a E => ?_
            refine sd E (o_mv (E.ev rfl)) rfl rfl rfl fun a E => ?_
            refine bcase (E.ev (x := .tmp 73) rfl) (fun ht => ?_) (fun ht => ?_)
            · have hc1 := cT ht hc1
              rw [ht] at E
              refine sk E rfl rfl rfl fun a E => ?_
              refine sk E rfl rfl rfl fun a E => ?_
              refine sd E (o_pickT (E.ev rfl) (E.ev rfl)) rfl rfl rfl fun a E => ?_
              refine sd E (o_mv (E.ev rfl)) rfl rfl rfl fun a E => ?_
              refine sk E rfl rfl rfl fun a E => ?_
              refine sk E rfl rfl rfl fun a E => ?_
              refine sk E rfl rfl rfl fun a E => ?_
              refine sk E rfl rfl rfl fun a E => ?_
              refine sk E rfl rfl rfl fun a E => ?_
              refine sk E rfl rfl rfl fun a E => ?_
              refine sd E (o_pickT (E.ev rfl) (E.ev rfl)) rfl rfl rfl fun a E => ?_
              refine sd E (o_mv (E.ev rfl)) rfl rfl rfl fun a E => ?_
              refine sk E rfl rfl rfl fun a E => ?_
              refine sk E rfl rfl rfl fun a E => ?_
              refine sk E rfl rfl rfl fun a E => ?_
              refine sk E rfl rfl rfl fun a E => ?_
              refine sk E rfl rfl rfl fun a E => ?_
              refine sd E (o_pickT (E.ev rfl) (E.ev rfl)) rfl rfl rfl fun a E => ?_
              obtain rfl := Option.some.inj hc1
              exact GL_nil ⟨_, rfl, (Tr.refl _ _), (((((E.nil.ad E rfl rfl).ad E rfl rfl).ad E rfl rfl).ad E rfl rfl).ad E rfl rfl)⟩
            · have hc1 := cF ht hc1
              rw [ht] at E
              refine sd E (o_mv (E.ev rfl)) rfl rfl rfl fun a E => ?_
              refine sd E (o_bi (E.ev rfl) (E.ev rfl) rfl) rfl rfl rfl fun a E => ?_
              refine sd E (o_pickF (E.ev rfl) (E.ev rfl)) rfl rfl rfl fun a E => ?_
              refine sd E (o_mv (E.ev rfl)) rfl rfl rfl fun a E => ?_
              refine bcase (E.ev (x := .tmp 77) rfl) (fun ht => ?_) (fun ht => ?_)
              · have hc1 := cT ht hc1
                rw [ht] at E
                refine sk E rfl rfl rfl fun a E => ?_
                refine sk E rfl rfl rfl fun a E => ?_
                refine sk E rfl rfl rfl fun a E => ?_
                refine sk E rfl rfl rfl fun a E => ?_
                refine sk E rfl rfl rfl fun a E => ?_
                refine sk E rfl rfl rfl fun a E => ?_
                refine sd E (o_pickT (E.ev rfl) (E.ev rfl)) rfl rfl rfl fun a E => ?_
                refine sd E (o_mv (E.ev rfl)) rfl rfl rfl fun a E => ?_
                refine sk E rfl rfl rfl fun a E => ?_
                refine sk E rfl rfl rfl fun a E => ?_
                refine sk E rfl rfl rfl fun a E => ?_
                refine sk E rfl rfl rfl fun a E => ?_
                refine sk E rfl rfl rfl fun a E => ?_
                refine sd E (o_pickT (E.ev rfl) (E.ev rfl)) rfl rfl rfl fun a E => ?_
                obtain rfl := Option.some.inj hc1
                exact GL_nil ⟨_, rfl, (Tr.refl _ _), (((((E.nil.ad E rfl rfl).ad E rfl rfl).ad E rfl rfl).ad E rfl rfl).ad E rfl rfl)⟩
              · have hc1 := cF ht hc1
                rw [ht] at E
                refine sd E (o_mv (E.ev rfl)) rfl rfl rfl fun a E => ?_
                have f3 := (h14.tr t7 (fun i => (nW1 (ra rfl)))).tr t8 (fun i => (nW1 (ra rfl)))
                obtain ⟨y10, hx9, hc1⟩ := ob_some hc1
                refine sh E (o_ok Try.call12 (E.evs rfl) (E.ev rfl) (bd_frozen id fun tr => ok_12 _ tr f3 hx9)) rfl rfl rfl ?_
                rintro a w4 s9 ⟨t10, _, rfl, h19⟩ E
                refine sd E (o_mv (E.ev rfl)) rfl rfl rfl fun a E => ?_
                have f4 := (h15.tr t8 (fun i => (nW1 (ra rfl)))).trN t10
                obtain ⟨y11, hx10, hc1⟩ := ob_some hc1
                refine sh E (o_ok Try.call12 (E.evs rfl) (E.ev rfl) (bd_frozen id fun tr => ok_12 _ tr f4 hx10)) rfl rfl rfl ?_
                rintro a w5 s10 ⟨t11, _, rfl, h20⟩ E
                have f5 := h19.tr t11
                obtain ⟨y12, hx11, hc1⟩ := ob_some hc1
                refine sh E (o_ok Try.call11 (E.evs rfl) (E.ev rfl) (ok_11 _ (x0 := y10) (x1 := y11) f5 h20 hx11)) rfl rfl rfl ?_
                rintro a _ s11 ⟨t12, rfl⟩ E
                refine sd E (o_not (E.ev rfl)) rfl rfl rfl fun a E => ?_
                refine sd E (o_pickF (E.ev rfl) (E.ev rfl)) rfl rfl rfl fun a E => ?_
                refine sd E (o_mv (E.ev rfl)) rfl rfl rfl fun a E => ?_
                refine bcase (E.ev (x := .tmp 85) rfl) (fun ht => ?_) (fun ht => ?_)
                · have hc1 := cT ht hc1
                  rw [ht] at E
                  refine sk E rfl rfl rfl fun a E => ?_
                  refine sk E rfl rfl rfl fun a E => ?_
                  refine sk E rfl rfl rfl fun a E => ?_
                  refine sk E rfl rfl rfl fun a E => ?_
                  refine sk E rfl rfl rfl fun a E => ?_
                  refine sd E (o_pickT (E.ev rfl) (E.ev rfl)) rfl rfl rfl fun a E => ?_
                  obtain rfl := Option.some.inj hc1
                  exact GL_nil ⟨_, rfl, ((t10.trans t11).trans t12), (((((E.nil.ad E rfl rfl).ad E rfl rfl).ad E rfl rfl).ad E rfl rfl).ad E rfl rfl)⟩
                · have hc1 := cF ht hc1
                  rw [ht] at E
                  refine sd E (o_mv (E.ev rfl)) rfl rfl rfl fun a E => ?_
                  have f6 := ((f3.trN t10).trN t11).trN t12
                  obtain ⟨y13, hx12, hc1⟩ := ob_some hc1
                  refine sh E (o_ok Try.call13 (E.evs rfl) (E.ev rfl) (oq_13 _ f6 hx12)) rfl rfl rfl ?_
                  rintro a _ s12 ⟨t13, rfl⟩ E
                  refine sd E (o_mv (E.ev rfl)) rfl rfl rfl fun a E => ?_
                  have f7 := ((f4.trN t11).trN t12).trN t13
                  obtain ⟨y14, hx13, hc1⟩ := ob_some hc1
                  refine sh E (o_ok Try.call13 (E.evs rfl) (E.ev rfl) (oq_13 _ f7 hx13)) rfl rfl rfl ?_
                  rintro a _ s13 ⟨t14, rfl⟩ E
                  refine sd E (o_bi (E.ev rfl) (E.ev rfl) rfl) rfl rfl rfl fun a E => ?_
                  refine sd E (o_pickF (E.ev rfl) (E.ev rfl)) rfl rfl rfl fun a E => ?_
                  obtain rfl := Option.some.inj hc1
                  exact GL_nil ⟨_, rfl, ((((t10.trans t11).trans t12).trans t13).trans t14), (((((E.nil.ad E rfl rfl).ad E rfl rfl).ad E rfl rfl).ad E rfl rfl).ad E rfl rfl)⟩
          rintro a _ ⟨s14, rfl, t15, E⟩
          refine tgn ?_
          refine G_cond (E.ev rfl) (fun ht => ?_) (fun ht => ?_)
          · have hm := cT ht hm
            refine G_seq ?_
            refine G_region ?_
            refine sd E (o_as (E.ev rfl)) rfl rfl rfl fun a E => ?_
            refine GL_nil ?_
            refine tgn ?_
            refine G_ret ?_
            refine tgr ?_
            cases hm
            have T6 : Tr (Fz κ []) s s14 := ((((((t1.no.trans t2.no).trans (Tr.fw1 Fz.f t3)).trans t6).trans (Tr.fw1 Fz.f t7)).trans (Tr.fw1 Fz.f t8)).trans t15.no)
            exact fin1 E rfl rfl ⟨(Tr.fin0 hκ T6), rfl⟩
          · have hm := cF ht hm
            refine G_skip ?_
            refine tgn ?_
            refine G_seq ?_
            refine G_region ?_
            refine sd E (o_as (E.ev rfl)) rfl rfl rfl fun a E => ?_
            refine GL_nil ?_
            refine tgn ?_
            refine G_seq ?_
            refine G_seq ?_
            refine G_region ?_
            refine sd E (o_as (E.ev rfl)) rfl rfl rfl fun a E => ?_
            refine GL_nil ?_
            refine tgn ?_
            obtain ⟨r2, hl2, hm⟩ := ob_some hm
            refine G_mid1 (fun a' w' => ∃ x17 x18 s' w6, m_3_2k y8 (x17, x18) = some r0y ∧ w' = s'.w ∧ Tr (Fz κ []) s14 s' ∧ Bd ((κ + 0), 1001) kU 37 0 s' w6 x17 ∧ DiskAt (κ + 1) s' b1 X5 ∧ LogAt (κ + 4) b1 s' b6 y8 ∧ En [] 122 a' [(14, w6), (15, .int .i64 x18), (4, .bool x13), (5, .int .i64 (IntKind.wrap .i64 ((IntKind.wrap .i64 (Int.tmod x0 30)) + 1))), (6, .pointer (some ⟨b1, 0, none⟩)), (12, .pointer (some ⟨b6, 0, none⟩))]) ?_ ?_
            · refine G_block ?_
              have f8 := h18.trN t15
              have f9 := h17.trN t15
              refine G_lp hl2 (fun st a' w' => ∃ x17 x18 s' w6, st = (x17, x18) ∧ w' = s'.w ∧ Tr (Fz κ []) s14 s' ∧ Bd ((κ + 0), 1001) kU 37 0 s' w6 x17 ∧ DiskAt (κ + 1) s' b1 X5 ∧ LogAt (κ + 4) b1 s' b6 y8 ∧ En [] 122 a' [(14, w6), (15, .int .i64 x18), (4, .bool x13), (5, .int .i64 (IntKind.wrap .i64 ((IntKind.wrap .i64 (Int.tmod x0 30)) + 1))), (6, .pointer (some ⟨b1, 0, none⟩)), (12, .pointer (some ⟨b6, 0, none⟩))]) ⟨_, _, _, _, rfl, rfl, (Tr.refl _ _), Bd.nil, f8, f9, ((((((E.nil.ad E rfl rfl).ad E rfl rfl).ad E rfl rfl).ad E rfl rfl).ad E rfl rfl).ad E rfl rfl)⟩ ?_
              rintro _ a _ x ⟨x19, x20, s15, w7, rfl, rfl, t16, h21, h22, h23, E⟩ hf2
              dsimp only [m_3_2b] at hf2
              refine G_seq ?_
              refine G_seq ?_
              refine G_region ?_
              refine sd E (o_mv (E.ev rfl)) rfl rfl rfl fun a E => ?_
              refine sd E (o_mv (E.ev rfl)) rfl rfl rfl fun a E => ?_
              refine sd E (o_bi (E.ev rfl) (E.ev rfl) rfl) rfl rfl rfl fun a E => ?_
              refine GL_nil ?_
              refine tgn ?_
              refine G_cond (E.ev rfl) (fun ht => ?_) (fun ht => ?_)
              · have hf2 := cT ht hf2
                refine G_skip ?_
                refine tgn ?_
                refine G_seq ?_
                refine G_block ?_
                refine G_seq ?_
                refine G_region ?_
                refine sd E (o_mv (E.ev rfl)) rfl rfl rfl fun a E => ?_
                refine sd E (o_mv (E.ev rfl)) rfl rfl rfl fun a E => ?_
                obtain ⟨⟨y15, y16⟩, hx14, hf2⟩ := ob_some hf2
                refine sh E (o_ok Try.call14 (E.evs rfl) (E.ev rfl) (oq_14 _ (x1 := x20) h22 hx14)) rfl rfl rfl ?_
                rintro a _ s16 ⟨t17, rfl, len_y15⟩ E
                refine sd E (o_mv (E.ev rfl)) rfl rfl rfl fun a E => ?_
                refine sd E (o_ext (v := eA .u64 y15) (E.ev rfl) rfl) rfl rfl rfl fun a E => ?_
                refine sd E (o_ext (v := .int .i64 y16) (E.ev rfl) rfl) rfl rfl rfl fun a E => ?_
                refine sh E (o_ala ((κ + 0), 1002) .u64 8 Try.zeroValue38 (by kernel_rfl)) rfl rfl rfl ?_
                rintro a _ s17 ⟨b7, rfl, o1, t18⟩ E
                refine shN E (o_stA Try.sizeOf38 o1 (E.ev rfl) (E.ev rfl) (List.length_replicate ..) len_y15) rfl rfl ?_
                rintro _ s18 ⟨o2, t19⟩
                refine sd E (o_as (E.ev rfl)) rfl rfl rfl fun a E => ?_
                refine GL_nil ?_
                refine tgn ?_
                refine G_seq ?_
                refine G_region ?_
                refine sd E (o_as (E.ev rfl)) rfl rfl rfl fun a E => ?_
                refine GL_nil ?_
                refine tgn ?_
                obtain ⟨r3, hl3, hf2⟩ := ob_some hf2
                refine G_mid1 (fun a' w' => ∃ x21 x22 s' w8, m_3_3k x20 (x21, x22) = some x ∧ w' = s'.w ∧ Tr (Fz κ []) s18 s' ∧ Bd ((κ + 0), 1001) kU 37 0 s' w8 x21 ∧ Own ((κ + 0), 1002) s' b7 (cA .u64 y15) 38 ∧ DiskAt (κ + 1) s' b1 X5 ∧ LogAt (κ + 4) b1 s' b6 y8 ∧ En [] 122 a' [(14, w8), (18, .int .i64 x22), (4, .bool x13), (5, .int .i64 (IntKind.wrap .i64 ((IntKind.wrap .i64 (Int.tmod x0 30)) + 1))), (6, .pointer (some ⟨b1, 0, none⟩)), (12, .pointer (some ⟨b6, 0, none⟩)), (15, .int .i64 x20), (16, .pointer (some ⟨b7, 0, none⟩))]) ?_ ?_
                · refine G_block ?_
                  have f10 := ((h21.trN t17).trN t18).tr t19 (nt_snd rfl)
                  have f11 := ((h22.trN t17).trN t18).tr t19 (fun i => (nt_fst (ra rfl)))
                  have f12 := ((h23.trN t17).trN t18).tr t19 (fun i => (nt_fst (ra rfl)))
                  refine G_lp hl3 (fun st a' w' => ∃ x21 x22 s' w8, st = (x21, x22) ∧ w' = s'.w ∧ Tr (Fz κ []) s18 s' ∧ Bd ((κ + 0), 1001) kU 37 0 s' w8 x21 ∧ Own ((κ + 0), 1002) s' b7 (cA .u64 y15) 38 ∧ DiskAt (κ + 1) s' b1 X5 ∧ LogAt (κ + 4) b1 s' b6 y8 ∧ En [] 122 a' [(14, w8), (18, .int .i64 x22), (4, .bool x13), (5, .int .i64 (IntKind.wrap .i64 ((IntKind.wrap .i64 (Int.tmod x0 30)) + 1))), (6, .pointer (some ⟨b1, 0, none⟩)), (12, .pointer (some ⟨b6, 0, none⟩)), (15, .int .i64 x20), (16, .pointer (some ⟨b7, 0, none⟩))]) ⟨_, _, _, _, rfl, rfl, (Tr.refl _ _), f10, o2, f11, f12, ((((((((E.nil.ad E rfl rfl).ad E rfl rfl).ad E rfl rfl).ad E rfl rfl).ad E rfl rfl).ad E rfl rfl).ad E rfl rfl).ad E rfl rfl)⟩ ?_
                  rintro _ a _ x ⟨x23, x24, s19, w9, rfl, rfl, t20, h24, o3, h25, h26, E⟩ hf3
                  dsimp only [m_3_3b] at hf3
                  refine G_seq ?_
                  refine G_seq ?_
                  refine G_region ?_
                  refine sd E (o_mv (E.ev rfl)) rfl rfl rfl fun a E => ?_
                  refine sd E (o_bi (E.ev rfl) (E.ev rfl) rfl) rfl rfl rfl fun a E => ?_
                  refine GL_nil ?_
                  refine tgn ?_
                  refine G_cond (E.ev rfl) (fun ht => ?_) (fun ht => ?_)
                  · have hf3 := cT ht hf3
                    refine G_skip ?_
                    refine tgn ?_
                    refine G_seq ?_
                    refine G_block ?_
                    refine G_region ?_
                    refine sd E (o_mv (E.ev rfl)) rfl rfl rfl fun a E => ?_
                    refine sd E (o_mv (E.ev rfl)) rfl rfl rfl fun a E => ?_
                    obtain ⟨x25, hx15, hf3⟩ := ob_some hf3
                    refine sd E (o_ixa Try.underlying38 Try.sizeOf37 (E.ev rfl) (E.ev rfl) (ix_some hx15).1 (ix_some hx15).2) rfl rfl rfl fun a E => ?_
                    obtain ⟨x26, hx16, hf3⟩ := ob_some hf3
                    refine sd E (o_ld Try.isAgg37 (E.ev rfl) ((o3.cell _).trans (cA_get (gt_get hx16)))) rfl rfl rfl fun a E => ?_
                    refine sh E (o_bs Try.underlying30 Try.sizeOf37 Try.zeroValue37 (qs := #[(0, .int .u64 x26)]) (cells := #[.int .u64 x26]) (by simp only [List.map_toArray, List.map_cons, List.map_nil, E.ev (x := .tmp 110) (v := .int .u64 x26) rfl]) rfl rfl (by kernel_rfl)) rfl rfl rfl ?_
                    rintro a _ s20 ⟨b8, rfl, h27, t21⟩ E
                    have h28 := h27.sl (K := kU) (xs := [x26]) ⟨_, _, rfl, rfl, rfl⟩ rfl
                    obtain ⟨x27, hx17, hf3⟩ := ob_some hf3
                    obtain ⟨hx17, hz1⟩ := ap_some hx17
                    have f13 := h24.trN t21
                    refine sh E (o_app Try.underlying30 Try.type37 rfl rfl rfl rfl rfl rfl f13 h28.rd (E.ev rfl) (E.ev rfl) hx17 (Nat.zero_le _)) rfl rfl rfl ?_
                    rintro a w10 s21 ⟨h29, t22⟩ E
                    rw [hz1] at h29
                    refine sd E (o_as (E.ev rfl)) rfl rfl rfl fun a E => ?_
                    refine GL_nil ?_
                    refine ebn ?_
                    refine tgn ?_
                    refine G_region ?_
                    refine sd E (o_mv (E.ev rfl)) rfl rfl rfl fun a E => ?_
                    refine sd E (o_bi (E.ev rfl) (E.ev rfl) rfl) rfl rfl rfl fun a E => ?_
                    refine sd E (o_as (E.ev rfl)) rfl rfl rfl fun a E => ?_
                    refine GL_nil ?_
                    obtain rfl := Option.some.inj hf3
                    have f14 := (o3.trN t21).tr t22 (nt_snd rfl)
                    have f15 := (h25.trN t21).tr t22 (fun i => (nt_fst (ra rfl)))
                    have f16 := (h26.trN t21).tr t22 (fun i => (nt_fst (ra rfl)))
                    have T7 : Tr (Fz κ []) s18 s21 := ((t20.trans t21.no).trans (Tr.ft Fz.f t22))
                    exact lpn ⟨_, _, _, _, rfl, rfl, T7, h29, f14, f15, f16, ((((((((E.nil.ad E rfl rfl).ad E rfl rfl).ad E rfl rfl).ad E rfl rfl).ad E rfl rfl).ad E rfl rfl).ad E rfl rfl).ad E rfl rfl)⟩
                  · have hf3 := cF ht hf3
                    refine G_exit ?_
                    refine tge ?_
                    obtain rfl := Option.some.inj hf3
                    refine lpe fun hr => ?_
                    subst hr
                    refine ebk ?_
                    refine ctn ?_
                    exact ⟨_, _, _, _, hf2, rfl, t20, h24, o3, h25, h26, ((((((((E.nil.ad E rfl rfl).ad E rfl rfl).ad E rfl rfl).ad E rfl rfl).ad E rfl rfl).ad E rfl rfl).ad E rfl rfl).ad E rfl rfl)⟩
                · rintro a _ ⟨x28, x29, s22, w11, hf2, rfl, t23, h30, o4, h31, h32, E⟩
                  dsimp only [m_3_3k] at hf2
                  refine ebn ?_
                  refine tgn ?_
                  refine G_region ?_
                  refine sd E (o_mv (E.ev rfl)) rfl rfl rfl fun a E => ?_
                  refine sd E (o_bi (E.ev rfl) (E.ev rfl) rfl) rfl rfl rfl fun a E => ?_
                  refine sd E (o_as (E.ev rfl)) rfl rfl rfl fun a E => ?_
                  refine GL_nil ?_
                  obtain rfl := Option.some.inj hf2
                  have T8 : Tr (Fz κ []) s14 s22 := ((((t16.trans t17.no).trans t18.no).trans (Tr.ft Fz.f t19)).trans t23)
                  exact lpn ⟨_, _, _, _, rfl, rfl, T8, h30, h31, h32, ((((((E.nil.ad E rfl rfl).ad E rfl rfl).ad E rfl rfl).ad E rfl rfl).ad E rfl rfl).ad E rfl rfl)⟩
              · have hf2 := cF ht hf2
                refine G_exit ?_
                refine tge ?_
                obtain rfl := Option.some.inj hf2
                refine lpe fun hr => ?_
                subst hr
                refine ebk ?_
                refine ctn ?_
                exact ⟨_, _, _, _, hm, rfl, t16, h21, h22, h23, ((((((E.nil.ad E rfl rfl).ad E rfl rfl).ad E rfl rfl).ad E rfl rfl).ad E rfl rfl).ad E rfl rfl)⟩
            · rintro a _ ⟨x30, x31, s23, w12, hm, rfl, t24, h33, h34, h35, E⟩
              dsimp only [m_3_2k] at hm
              refine tgn ?_
              refine G_seq ?_
              refine G_region ?_
              refine sd E (o_mv (E.ev rfl)) rfl rfl rfl fun a E => ?_
              obtain ⟨s24, e5, h36, t25⟩ := h33.fz
              rw [e5]
              obtain ⟨⟨y17, y18⟩, hx18, hm⟩ := ob_some hm
              refine sh E (o_ok Try.call15 (E.evs rfl) (E.ev rfl) (ok_15 _ (x0 := 6) (x1 := x30) h36 hx18)) rfl rfl rfl ?_
              rintro a _ s25 ⟨t26, w13, rfl, h37⟩ E
              refine sd E (o_mv (E.ev rfl)) rfl rfl rfl fun a E => ?_
              refine sd E (o_ext (v := w13) (E.ev rfl) rfl) rfl rfl rfl fun a E => ?_
              refine sd E (o_ext (v := .int .i64 y18) (E.ev rfl) rfl) rfl rfl rfl fun a E => ?_
              refine sd E (o_as (E.ev rfl)) rfl rfl rfl fun a E => ?_
              refine sd E (o_as (E.ev rfl)) rfl rfl rfl fun a E => ?_
              refine GL_nil ?_
              refine tgn ?_
              refine G_seq ?_
              refine G_region ?_
              refine sd E (o_mv (E.ev rfl)) rfl rfl rfl fun a E => ?_
              have f17 := (h35.tr t25 (fun i => (nt_fst (ra rfl)))).trN t26
              obtain ⟨y19, hx19, hm⟩ := ob_some hm
              refine sh E (o_ok Try.call12 (E.evs rfl) (E.ev rfl) (bd_frozen id fun tr => ok_12 _ tr f17 hx19)) rfl rfl rfl ?_
              rintro a w14 s26 ⟨t27, _, rfl, h38⟩ E
              refine sd E (o_mv (E.ev rfl)) rfl rfl rfl fun a E => ?_
              have f18 := h37.tr t27
              obtain ⟨y20, hx20, hm⟩ := ob_some hm
              refine sh E (o_ok Try.call11 (E.evs rfl) (E.ev rfl) (ok_11 _ (x0 := y19) (x1 := y17) h38 f18 hx20)) rfl rfl rfl ?_
              rintro a _ s27 ⟨t28, rfl⟩ E
              refine sd E (o_as (E.ev rfl)) rfl rfl rfl fun a E => ?_
              refine GL_nil ?_
              refine tgn ?_
              refine G_ret ?_
              cases hm
              have T9 : Tr (Fz κ []) s s27 := (((((((((((t1.no.trans t2.no).trans (Tr.fw1 Fz.f t3)).trans t6).trans (Tr.fw1 Fz.f t7)).trans (Tr.fw1 Fz.f t8)).trans t15.no).trans t24).trans (Tr.ft Fz.f t25)).trans t26.no).trans t27.no).trans t28.no)
              exact fin1 E rfl rfl ⟨(Tr.fin0 hκ T9), rfl⟩

end Go.Proofs.Ytdkfdmalbbfbmaa
