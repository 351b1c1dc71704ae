/- What stands behind the frames is cleared. -/
import Derived.Test.YtdkfdmalbbfbmaaGreatMWL11
/- What stands behind the frames is cleared. -/
namespace Go.Proofs.YtdkfdmalbbfbmaaGreat
open Go Go.Maps
set_option maxRecDepth 4000

noncomputable def m_35b (L : LogM) (ws : List Int) : Bool × Int × Disk → Option (Lo (Bool × Int × Disk) (Bool × Disk)) := fun (sm, i, D) =>
  bif decide (i < L.sectors) then ob (m_64 L i) fun xs => ob (sl ws (IntKind.wrap .i64 (i * 8)) (IntKind.wrap .i64 (IntKind.wrap .i64 (i + 1) * 8))) fun part => ob (m_65 xs part) fun eq =>
    bif eq then some (.inl (sm, IntKind.wrap .i64 (i + 1), D)) else ob (m_60 D (IntKind.wrap .i64 (L.from_ + i)) xs) fun (D', _) => some (.inl (true, IntKind.wrap .i64 (i + 1), D')) else some (.inr (sm, D))
noncomputable def m_35 (L : LogM) (D : Disk) (ws : List Int) : Option Disk := ob (loopO (m_35b L ws) (false, 0, D)) fun (sm, D') => bif sm then m_51 D' else some D'
theorem ok_35 (s : St) {k kd bd b : Nat} {L : LogM} {D D' : Disk} (hne : k ≠ kd) (hd : LogAt k bd s b L) (hD : DiskAt kd s bd D) {ws : List Int} {w1 : Value} (h9 : Sl kU s w1 ws) (hm : m_35 L D ws = some D') :
    Ok Tryz.prog 76 ([.pointer (some ⟨b, 0, none⟩), w1] : List Value).toArray s fun _ s' => LogAt k bd s' b L ∧ DiskAt kd s' bd D' ∧ Tr (Rt kd) s s' := by
  unfold m_35 at hm
  obtain ⟨⟨sm, D1⟩, hl, hm⟩ := ob_some hm
  have hm : (bif sm then m_51 D1 else some D1) = some D' := hm
  obtain ⟨κ, hk⟩ := s.fresh
  have hkk : k < κ := hk _ _ hd.tag
  have hkd : kd < κ := hk _ _ hD.tag
  obtain ⟨wv, fv, h1, h2, h3⟩ := hd
  refine ok_of (n := 45) _ Tryz.func76 rfl _ rfl rfl fun a E => ?_
  refine G_seq ?_
  refine G_region ?_
  refine sd E (o_as (E.ev rfl)) rfl rfl rfl fun a E => ?_
  refine GL_nil ?_
  refine tgn ?_
  refine G_seq ?_
  refine G_seq ?_
  refine G_region ?_
  refine sd E (o_mv (E.ev rfl)) rfl rfl rfl fun a E => ?_
  refine sd E (o_nc (E.ev rfl)) rfl rfl rfl fun a E => ?_
  refine sd E (o_fa Tryz.underlying112 rfl Tryz.sizeOf3 (E.ev rfl)) rfl rfl rfl fun a E => ?_
  refine sd E (o_ld Tryz.isAgg3 (E.ev rfl) ((h1.cell _).trans rfl)) rfl rfl rfl fun a E => ?_
  refine sd E (o_mv (E.ev rfl)) rfl rfl rfl fun a E => ?_
  refine GL_nil ?_
  refine tgn ?_
  refine G_mid1 (fun a' w' => ∃ s', w' = s'.w ∧ Tr (Or (Rt kd) (Rt κ)) s s' ∧ DiskAt kd s' bd D1 ∧ En [] 45 a' [(0, .pointer (some ⟨b, 0, none⟩)), (4, .bool sm)]) ?_ ?_
  · refine G_block ?_
    refine G_lp hl (fun st a' w' => ∃ sm i D s', st = (sm, i, D) ∧ w' = s'.w ∧ Tr (Or (Rt kd) (Rt κ)) s s' ∧ DiskAt kd s' bd D ∧ En [] 45 a' [(0, .pointer (some ⟨b, 0, none⟩)), (1, w1), (4, .bool sm), (10, .int .i64 L.sectors), (11, .int .i64 i)])
      ⟨_, _, _, _, rfl, rfl, Tr.refl _ _, hD, (((((E.nil.ad E rfl rfl).ad E rfl rfl).ad E rfl rfl).ad E rfl rfl).ad E rfl rfl)⟩ ?_
    rintro _ a _ x ⟨sm2, i, D2, s2, rfl, rfl, t2, hD, E⟩ hf
    dsimp only [m_35b] at hf
    have h1 := h1.tr t2 (nOr (nr hne) (nr (by omega)))
    have h2 := h2.tr t2 (nOr (nr hne) (nr (by omega)))
    have h3 := h3.tr t2 (nOr (nr hne) (nr (by omega)))
    have h9 := h9.tr t2
    refine G_seq ?_
    refine G_region ?_
    refine sd E (o_bi (E.ev rfl) (E.ev rfl) rfl) rfl rfl rfl fun a E => ?_
    refine GL_nil ?_
    refine tgn ?_
    refine G_seq ?_
    refine G_cond (E.ev rfl) (fun ht => ?_) (fun ht => ?_)
    · have hf := cT ht hf
      obtain ⟨xs, hx, hf⟩ := ob_some hf
      obtain ⟨part, hp, hf⟩ := ob_some hf
      obtain ⟨eq, he, hf⟩ := ob_some hf
      refine G_skip ?_
      refine tgn ?_
      refine G_seq ?_
      refine G_block ?_
      refine G_seq ?_
      refine G_region ?_
      refine sd E (o_mv (E.ev rfl)) rfl rfl rfl fun a E => ?_
      refine sd E (o_as (E.ev rfl)) rfl rfl rfl fun a E => ?_
      refine GL_nil ?_
      refine tgn ?_
      refine G_seq ?_
      refine G_region ?_
      refine sd E (o_mv (E.ev rfl)) rfl rfl rfl fun a E => ?_
      refine sd E (o_mv (E.ev rfl)) rfl rfl rfl fun a E => ?_
      refine sh E (o_ok Tryz.call85 (E.evs rfl) (E.ev rfl) (ok_64 s2 ⟨wv, fv, h1, h2, h3⟩ hx)) rfl rfl rfl ?_
      rintro a _ s3 ⟨t3, rfl, hl8⟩ E
      refine sh E (o_ala (κ, 1) .u64 8 Tryz.zeroValue40 rfl) rfl rfl rfl ?_
      rintro a _ s4 ⟨b4, rfl, o4, t4⟩ E
      refine shN E (o_stA Tryz.sizeOf40 o4 (E.ev rfl) (E.ev rfl) (List.length_replicate ..) hl8) rfl rfl ?_
      rintro _ s5 ⟨o5, t5⟩
      refine GL_nil ?_
      refine tgn ?_
      obtain ⟨s6, e6, o6, t6⟩ := o5.fz
      rw [e6]
      have t26 : Tr (Rt κ) s2 s6 := ((t3.no.trans t4.no).trans (t5.mono (by intro t h; subst h; rfl))).trans (t6.mono (by intro t h; subst h; rfl))
      have hD := hD.tr t26 (fun i => nr (by omega))
      have h1 := h1.tr t26 (nr (by omega))
      have h2 := h2.tr t26 (nr (by omega))
      have h3 := h3.tr t26 (nr (by omega))
      have h9 := h9.tr t26
      obtain ⟨u, g1, h10⟩ := h9.sl hp
      have h11 := o6.slA hl8
      refine G_seq ?_
      refine G_seq ?_
      refine G_drw κ (by rfl) [0, 1, 2, 3, 4, 5, 6, 7, 8] (by kernel_rfl) ?_
      intro s7 t7
      refine dp E rfl (fun w => o_slS' Tryz.underlying40 Tryz.sizeOf39 (E.ev rfl)) rfl rfl rfl fun a E => ?_
      refine dp E rfl (fun w => o_mv (E.ev rfl)) rfl rfl rfl fun a E => ?_
      refine dp E rfl (fun w => o_mv (E.ev rfl)) rfl rfl rfl fun a E => ?_
      refine dp E rfl (fun w => o_bi (E.ev rfl) (E.ev rfl) rfl) rfl rfl rfl fun a E => ?_
      refine dp E rfl (fun w => o_mv (E.ev rfl)) rfl rfl rfl fun a E => ?_
      refine dp E rfl (fun w => o_bi (E.ev rfl) (E.ev rfl) rfl) rfl rfl rfl fun a E => ?_
      refine dp E rfl (fun w => o_bi (E.ev rfl) (E.ev rfl) rfl) rfl rfl rfl fun a E => ?_
      refine dp E rfl (fun w => o_slLH Tryz.underlying36 Tryz.sizeOf39 g1 (E.ev rfl) (E.ev rfl) (E.ev rfl)) rfl rfl rfl fun a E => ?_
      refine dh E rfl (o_ok Tryz.call90 (E.evs rfl) (E.ev rfl) (ok_65 s7 (h11.tr t7) (h10.tr t7) he)) (fun _ _ h => h.1) rfl rfl rfl rfl ?_
      rintro a _ s8 ⟨t8, rfl⟩ E
      have t68 := t7.trans t8
      have hD := hD.trN t68
      have h1 := h1.trN t68
      have h2 := h2.trN t68
      have h3 := h3.trN t68
      have o6 := o6.tr t68
      have t28 : Tr (Or (Rt kd) (Rt κ)) s s8 := (t2.trans (t26.mono fun _ h => .inr h)).trans t68.no
      refine gd_nil ?_
      refine tgn ?_
      refine G_cond (E.ev rfl) (fun hq => ?_) (fun hq => ?_)
      · have hf := cT hq hf
        obtain rfl := Option.some.inj hf
        refine G_exit ?_
        refine tge ?_
        refine ebk ?_
        refine tgn ?_
        refine G_region ?_
        refine sd E (o_bi (E.ev rfl) (E.ev rfl) rfl) rfl rfl rfl fun a E => ?_
        refine sd E (o_mv (E.ev rfl)) rfl rfl rfl fun a E => ?_
        refine GL_nil ?_
        exact lpn ⟨_, _, _, s8, rfl, rfl, t28, hD, (((((E.nil.ad E rfl rfl).ad E rfl rfl).ad E rfl rfl).ad E rfl rfl).ad E rfl rfl)⟩
      · have hf := cF hq hf
        obtain ⟨⟨D3, e⟩, hw, hf⟩ := ob_some hf
        obtain rfl := Option.some.inj hf
        refine G_skip ?_
        refine tgn ?_
        refine G_seq ?_
        refine G_region ?_
        refine sd E (o_as (E.ev rfl)) rfl rfl rfl fun a E => ?_
        refine GL_nil ?_
        refine tgn ?_
        refine G_drw κ (by rfl) [0, 1, 2, 3, 4, 5, 6, 7, 8, 9, 10, 11] (by kernel_rfl) ?_
        intro s9 t9
        have h1 := h1.trN t9
        have o6 := o6.tr t9
        refine dp E rfl (fun w => o_mv (E.ev rfl)) rfl rfl rfl fun a E => ?_
        refine dp E rfl (fun w => o_nc (E.ev rfl)) rfl rfl rfl fun a E => ?_
        refine dp E rfl (fun w => o_fa Tryz.underlying112 rfl Tryz.sizeOf25 (E.ev rfl)) rfl rfl rfl fun a E => ?_
        refine dr E rfl (fun s' t => o_ld Tryz.isAgg25 (E.ev rfl) (((h1.trN t).cell _).trans rfl)) rfl rfl rfl rfl fun a E => ?_
        refine dp E rfl (fun w => o_mv (E.ev rfl)) rfl rfl rfl fun a E => ?_
        refine dp E rfl (fun w => o_nc (E.ev rfl)) rfl rfl rfl fun a E => ?_
        refine dp E rfl (fun w => o_fa Tryz.underlying112 rfl Tryz.sizeOf3 (E.ev rfl)) rfl rfl rfl fun a E => ?_
        refine dr E rfl (fun s' t => o_ld Tryz.isAgg3 (E.ev rfl) (((h1.trN t).cell _).trans rfl)) rfl rfl rfl rfl fun a E => ?_
        refine dp E rfl (fun w => o_mv (E.ev rfl)) rfl rfl rfl fun a E => ?_
        refine dp E rfl (fun w => o_bi (E.ev rfl) (E.ev rfl) rfl) rfl rfl rfl fun a E => ?_
        refine dr E rfl (fun s' t => o_ldA Tryz.isAgg40 Tryz.sizeOf40 (E.ev rfl) hl8 (o6.tr t).cell) rfl rfl rfl rfl fun a E => ?_
        refine dl E rfl (o_ok Tryz.call36 (E.evs rfl) (E.ev rfl) (ok_60 s9 (hD.trN t9) hl8 hw)) rfl rfl rfl rfl ?_
        rintro a _ s10 ⟨hD, t10, rfl⟩ E
        refine gd_nil ?_
        refine ebn ?_
        refine tgn ?_
        refine G_region ?_
        refine sd E (o_bi (E.ev rfl) (E.ev rfl) rfl) rfl rfl rfl fun a E => ?_
        refine sd E (o_mv (E.ev rfl)) rfl rfl rfl fun a E => ?_
        refine GL_nil ?_
        exact lpn ⟨_, _, _, s10, rfl, rfl, (t28.trans t9.no).trans (t10.mono fun _ h => .inl h), hD, (((((E.nil.ad E rfl rfl).ad E rfl rfl).ad E rfl rfl).ad E rfl rfl).ad E rfl rfl)⟩
    · have hf := cF ht hf
      obtain rfl := Option.some.inj hf
      refine G_exit ?_
      refine tge ?_
      refine lpe fun hr => ?_
      cases hr
      refine ebk ?_
      refine ctn ?_
      exact ⟨s2, rfl, t2, hD, ((E.nil.ad E rfl rfl).ad E rfl rfl)⟩
  · rintro a _ ⟨s2, rfl, t2, hD, E⟩
    have h1 := h1.tr t2 (nOr (nr hne) (nr (by omega)))
    have h2 := h2.tr t2 (nOr (nr hne) (nr (by omega)))
    have h3 := h3.tr t2 (nOr (nr hne) (nr (by omega)))
    have T2 : Tr (Rt kd) s s2 := (Tr.refl _ s).step hk t2 (fun t h => h.elim .inl fun h => .inr (Nat.le_of_eq (Eq.symm h)))
    refine tgn ?_
    refine G_seq ?_
    refine G_region ?_
    refine sd E (o_mv (E.ev rfl)) rfl rfl rfl fun a E => ?_
    refine GL_nil ?_
    refine tgn ?_
    refine G_cond (E.ev rfl) (fun hq => ?_) (fun hq => ?_)
    · have hm := cT hq hm
      refine G_region ?_
      refine sd E (o_mv (E.ev rfl)) rfl rfl rfl fun a E => ?_
      refine sd E (o_nc (E.ev rfl)) rfl rfl rfl fun a E => ?_
      refine sd E (o_fa Tryz.underlying112 rfl Tryz.sizeOf25 (E.ev rfl)) rfl rfl rfl fun a E => ?_
      refine sd E (o_ld Tryz.isAgg25 (E.ev rfl) ((h1.cell _).trans rfl)) rfl rfl rfl fun a E => ?_
      refine sh E (o_ok Tryz.call31 (E.evs rfl) (E.ev rfl) (ok_51 s2 hD hm)) rfl rfl rfl ?_
      rintro a _ s3 ⟨hD, t3⟩ E
      refine GL_nil ?_
      exact fin0 E rfl ⟨⟨wv, fv, h1.tr t3 (nr hne), h2.tr t3 (nr hne), h3.tr t3 (nr hne)⟩, hD, T2.trans t3⟩
    · have hm := cF hq hm
      obtain rfl := Option.some.inj hm
      refine G_skip ?_
      exact fin0 E rfl ⟨⟨wv, fv, h1, h2, h3⟩, hD, T2⟩
end Go.Proofs.YtdkfdmalbbfbmaaGreat

/- An append to a log. -/
namespace Go.Proofs.YtdkfdmalbbfbmaaGreat
open Go Go.Maps
set_option maxRecDepth 4000

def room (L : LogM) : Int := IntKind.wrap .i64 (IntKind.wrap .i64 (L.sectors * 8) - (L.words.length : Int))
noncomputable def m_10 (L : LogM) (D : Disk) (F : Frame) : Option (LogM × Disk × Int) :=
  ob (m_36 F) fun ok => bif !ok then some (L, D, 1) else
  ob (m_37 F) fun c => bif decide (c > room L) then some (L, D, 4) else
  ob (m_38 L.epoch (L.frames.length : Int) F) fun ws => ob (gd (!ws.isEmpty) (some ())) fun _ => ob (ap L.words ws) fun words' => ob (m_39 F.Words) fun fw => ob (ap L.frames [⟨F.Kind, fw⟩]) fun frames' =>
  ob (m_40 { L with words := words', frames := frames' } D (L.words.length : Int)) fun D' => some ({ L with words := words', frames := frames' }, D', 0)

theorem ok_10 (s : St) {k kd bd b : Nat} {L L' : LogM} {D D' : Disk} (hne : k ≠ kd) (hd : LogAt k bd s b L) (hD : DiskAt kd s bd D) {F : Frame} {w1 : Value} (h9 : Sl kU s w1 F.Words) {e : Int} (hm : m_10 L D F = some (L', D', e)) :
    Ok Tryz.prog 41 ([.pointer (some ⟨b, 0, none⟩), .agg #[.int .i64 F.Kind, w1]] : List Value).toArray s fun v s' => LogAt k bd s' b L' ∧ DiskAt kd s' bd D' ∧ Tr (Or (Rt k) (Rt kd)) s s' ∧ v = .int .i64 e := by
  unfold m_10 at hm
  obtain ⟨okv, hx1, hm⟩ := ob_some hm
  refine ok_of (n := 62) _ Tryz.func41 rfl _ rfl rfl fun a E => ?_
  refine G_seq ?_
  refine G_region ?_
  obtain ⟨a1, c1, rfl⟩ := h9.isS
  refine sh E (o_box (E.ev rfl)) rfl rfl rfl ?_
  rintro a _ s1 ⟨b1, rfl, o1, t1⟩ E
  refine sd E (o_as (E.ev rfl)) rfl rfl rfl fun a E => ?_
  refine GL_nil ?_
  refine tgn ?_
  have h9 := h9.tr t1
  have hd := hd.trN t1
  have hD := hD.trN t1
  refine G_seq ?_
  refine G_block ?_
  refine G_seq ?_
  refine G_region ?_
  refine sd E (o_mv (E.ev rfl)) rfl rfl rfl fun a E => ?_
  refine sd E (o_eqp Tryz.underlying66 (E.ev rfl) (E.ev rfl)) rfl rfl rfl fun a E => ?_
  refine sd E (o_mv (E.ev rfl)) rfl rfl rfl fun a E => ?_
  refine sd E (o_ldc (cs := #[.int .i64 F.Kind, .slice a1 F.Words.length c1]) Tryz.isAgg38 Tryz.sizeOf38 (E.ev rfl) o1.cell) rfl rfl rfl fun a E => ?_
  refine sh E (o_ok Tryz.call61 (E.evs rfl) (E.ev rfl) (ok_36 _ (x0 := F) h9 hx1)) rfl rfl rfl ?_
  rintro a _ s2 ⟨t2, rfl⟩ E
  refine sd E (o_not (E.ev rfl)) rfl rfl rfl fun a E => ?_
  refine sd E (o_pickF (E.ev rfl) (E.ev rfl)) rfl rfl rfl fun a E => ?_
  refine sd E (o_as (E.ev rfl)) rfl rfl rfl fun a E => ?_
  refine GL_nil ?_
  refine tgn ?_
  have h9 := h9.tr t2
  have hd := hd.trN t2
  have hD := hD.trN t2
  have o1 := o1.tr t2
  refine G_cond (E.ev rfl) (fun ht => ?_) (fun ht => ?_)
  · have hm := cT ht hm
    cases hm
    refine G_seq ?_
    refine G_region ?_
    refine sd E (o_as (E.ev rfl)) rfl rfl rfl fun a E => ?_
    refine GL_nil ?_
    refine tgn ?_
    refine G_ret ?_
    refine ebr ?_
    refine tgr ?_
    exact fin1 E rfl rfl ⟨hd, hD, (t1.trans t2).no, rfl⟩
  · have hm := cF ht hm
    obtain ⟨cv, hx2, hm⟩ := ob_some hm
    refine G_seq ?_
    refine G_region ?_
    refine sd E (o_ldc (cs := #[.int .i64 F.Kind, .slice a1 F.Words.length c1]) Tryz.isAgg38 Tryz.sizeOf38 (E.ev rfl) o1.cell) rfl rfl rfl fun a E => ?_
    refine sh E (o_ok Tryz.call69 (E.evs rfl) (E.ev rfl) (ok_37 _ (x0 := F) h9 hx2)) rfl rfl rfl ?_
    rintro a _ s3 ⟨t3, rfl⟩ E
    refine sd E (o_mv (E.ev rfl)) rfl rfl rfl fun a E => ?_
    refine sh E (o_ok Tryz.call49 (E.evs rfl) (E.ev rfl) (ok_13 _ (hd.trN t3))) rfl rfl rfl ?_
    rintro a _ s4 ⟨t4, rfl⟩ E
    refine sd E (o_bi (E.ev rfl) (E.ev rfl) rfl) rfl rfl rfl fun a E => ?_
    refine sd E (o_as (E.ev rfl)) rfl rfl rfl fun a E => ?_
    refine GL_nil ?_
    refine tgn ?_
    have t34 := t3.trans t4
    have h9 := h9.tr t34
    have hd := hd.trN t34
    have hD := hD.trN t34
    have o1 := o1.tr t34
    have T4 : Tr No s s4 := (t1.trans t2).trans t34
    refine G_cond (E.ev rfl) (fun ht => ?_) (fun ht => ?_)
    · have hm := cT ht hm
      cases hm
      refine G_seq ?_
      refine G_region ?_
      refine sd E (o_as (E.ev rfl)) rfl rfl rfl fun a E => ?_
      refine GL_nil ?_
      refine tgn ?_
      refine G_ret ?_
      refine ebr ?_
      refine tgr ?_
      exact fin1 E rfl rfl ⟨hd, hD, T4.no, rfl⟩
    · have hm := cF ht hm
      obtain ⟨ws, hx3, hm⟩ := ob_some hm
      obtain ⟨_, hx4, hm⟩ := ob_some hm
      obtain ⟨words', hx5, hm⟩ := ob_some hm
      obtain ⟨fw, hx6, hm⟩ := ob_some hm
      obtain ⟨frames', hx7, hm⟩ := ob_some hm
      obtain ⟨D2, hx8, hm⟩ := ob_some hm
      cases hm
      obtain ⟨k5, hap5⟩ := ap_some hx5
      obtain ⟨k7, hap7⟩ := ap_some hx7
      have hne4 : ws.isEmpty = false := by simpa using (gd_some hx4).1
      obtain ⟨wv, fv, h1, h2, h3⟩ := hd
      refine G_skip ?_
      refine ebn ?_
      refine tgn ?_
      refine G_seq ?_
      refine G_region ?_
      refine sd E (o_mv (E.ev rfl)) rfl rfl rfl fun a E => ?_
      refine sd E (o_nc (E.ev rfl)) rfl rfl rfl fun a E => ?_
      refine sd E (o_fa Tryz.underlying112 rfl Tryz.sizeOf36 (E.ev rfl)) rfl rfl rfl fun a E => ?_
      refine sd E (o_ld Tryz.isAgg36 (E.ev rfl) ((h1.cell _).trans rfl)) rfl rfl rfl fun a E => ?_
      refine sd E (o_lenS (xs := L.words) Tryz.underlying36 (E.ev rfl) h2.isS) rfl rfl rfl fun a E => ?_
      refine sd E (o_as (E.ev rfl)) rfl rfl rfl fun a E => ?_
      refine GL_nil ?_
      refine tgn ?_
      refine G_seq ?_
      refine G_drw k (by rfl) [0, 1, 2, 3, 4, 5, 6, 7, 8, 9, 10, 11, 12, 13, 14, 15, 16, 17, 18, 19] (by kernel_rfl) ?_
      intro s5 t5
      have h1 := h1.trN t5
      have h2 := h2.trN t5
      have h3 := h3.trN t5
      have h9 := h9.tr t5
      have o1 := o1.tr t5
      refine dp E rfl (fun w => o_mv (E.ev rfl)) rfl rfl rfl fun a E => ?_
      refine dp E rfl (fun w => o_mv (E.ev rfl)) rfl rfl rfl fun a E => ?_
      refine dp E rfl (fun w => o_nc (E.ev rfl)) rfl rfl rfl fun a E => ?_
      refine dp E rfl (fun w => o_fa Tryz.underlying112 rfl Tryz.sizeOf36 (E.ev rfl)) rfl rfl rfl fun a E => ?_
      refine dr E rfl (fun s' t => o_ld Tryz.isAgg36 (E.ev rfl) (((h1.trN t).cell _).trans rfl)) rfl rfl rfl rfl fun a E => ?_
      refine dp E rfl (fun w => o_mv (E.ev rfl)) rfl rfl rfl fun a E => ?_
      refine dp E rfl (fun w => o_nc (E.ev rfl)) rfl rfl rfl fun a E => ?_
      refine dp E rfl (fun w => o_fa Tryz.underlying112 rfl Tryz.sizeOf3 (E.ev rfl)) rfl rfl rfl fun a E => ?_
      refine dr E rfl (fun s' t => o_ld Tryz.isAgg3 (E.ev rfl) (((h1.trN t).cell _).trans rfl)) rfl rfl rfl rfl fun a E => ?_
      refine dp E rfl (fun w => o_mv (E.ev rfl)) rfl rfl rfl fun a E => ?_
      refine dp E rfl (fun w => o_nc (E.ev rfl)) rfl rfl rfl fun a E => ?_
      refine dp E rfl (fun w => o_fa Tryz.underlying112 rfl Tryz.sizeOf43 (E.ev rfl)) rfl rfl rfl fun a E => ?_
      refine dr E rfl (fun s' t => o_ld Tryz.isAgg43 (E.ev rfl) (((h1.trN t).cell _).trans rfl)) rfl rfl rfl rfl fun a E => ?_
      refine dp E rfl (fun w => o_lenS (xs := L.frames) Tryz.underlying43 (E.ev rfl) h3.isS) rfl rfl rfl fun a E => ?_
      refine dr E rfl (fun s' t => o_ldc (cs := #[.int .i64 F.Kind, .slice a1 F.Words.length c1]) Tryz.isAgg38 Tryz.sizeOf38 (E.ev rfl) (o1.tr t).cell) rfl rfl rfl rfl fun a E => ?_
      refine dh E rfl (o_ok Tryz.call64 (E.evs rfl) (E.ev rfl) (ok_38 s5 (x2 := F) h9 hx3)) (fun _ _ h => h.1) rfl rfl rfl rfl ?_
      rintro a _ s6 ⟨t6, wp, rfl, h10⟩ E
      refine dl E rfl (o_apA Tryz.underlying36 Tryz.type39 rfl rfl rfl rfl rfl rfl (h2.trN t6) h10.rd (E.ev rfl) (E.ev rfl) k5 hne4 (Nat.zero_le _)) rfl rfl rfl rfl ?_
      rintro a w7 s7 ⟨h11, t7⟩ E
      rw [hap5] at h11
      obtain ⟨a7, c7, rfl⟩ := h11.isS
      refine dp E rfl (fun w => o_nc (E.ev rfl)) rfl rfl rfl fun a E => ?_
      refine dp E rfl (fun w => o_fa Tryz.underlying112 rfl Tryz.sizeOf36 (E.ev rfl)) rfl rfl rfl fun a E => ?_
      have h1 := (h1.trN t6).tr t7 (nt_snd rfl)
      have h3 := (h3.trN t6).tr t7 (nt_snd rfl)
      have hcs : ((#[.pointer (some ⟨bd, 0, none⟩), .int .i64 L.from_, .int .i64 L.sectors, .int .i64 L.epoch, wv, fv] : Array Value).toList.take 4 ++ (Value.slice a7 words'.length c7).cells.toList ++ (#[.pointer (some ⟨bd, 0, none⟩), .int .i64 L.from_, .int .i64 L.sectors, .int .i64 L.epoch, wv, fv] : Array Value).toList.drop (4 + (Value.slice a7 words'.length c7).cells.size)).toArray = #[.pointer (some ⟨bd, 0, none⟩), .int .i64 L.from_, .int .i64 L.sectors, .int .i64 L.epoch, .slice a7 words'.length c7, fv] := rfl
      refine dlN E rfl (o_st (o := 4) (cs' := #[.pointer (some ⟨bd, 0, none⟩), .int .i64 L.from_, .int .i64 L.sectors, .int .i64 L.epoch, .slice a7 words'.length c7, fv]) (v := .slice a7 words'.length c7) Tryz.sizeOf36 h1 (E.ev rfl) (E.ev rfl) (Nat.le_of_ble_eq_true rfl) (by intro u hu; simp [Value.cells] at hu; subst hu; rfl) hcs) rfl rfl (by kernel_rfl) ?_
      rintro _ s8 ⟨h12, t8⟩
      have h3 := h3.tr t8 (nt_snd rfl)
      have h11 := h11.tr t8 (nt_snd rfl)
      have t58 : Tr (Rt k) s4 s8 := ((t5.trans t6).no.trans (t7.mono (by intro t h; subst h; rfl))).trans (t8.mono (by intro t h; subst h; rfl))
      have h9 := ((h9.tr t6).tr t7).tr t8
      have o1 := ((o1.tr t6).tr t7).tr t8
      refine gd_nil ?_
      refine tgn ?_
      refine G_seq ?_
      refine G_drw k (by rfl) [0, 1, 2, 3, 4, 5, 6, 7, 8, 9, 10, 11, 12, 13, 14, 15] (by kernel_rfl) ?_
      intro s9 t9
      have h12 := h12.trN t9
      have h3 := h3.trN t9
      have h9 := h9.tr t9
      have o1 := o1.tr t9
      refine dp E rfl (fun w => o_mv (E.ev rfl)) rfl rfl rfl fun a E => ?_
      refine dp E rfl (fun w => o_mv (E.ev rfl)) rfl rfl rfl fun a E => ?_
      refine dp E rfl (fun w => o_nc (E.ev rfl)) rfl rfl rfl fun a E => ?_
      refine dp E rfl (fun w => o_fa Tryz.underlying112 rfl Tryz.sizeOf43 (E.ev rfl)) rfl rfl rfl fun a E => ?_
      refine dr E rfl (fun s' t => o_ld Tryz.isAgg43 (E.ev rfl) (((h12.trN t).cell _).trans rfl)) rfl rfl rfl rfl fun a E => ?_
      refine dp E rfl (fun w => o_fa Tryz.underlying38 rfl Tryz.sizeOf3 (E.ev rfl)) rfl rfl rfl fun a E => ?_
      refine dr E rfl (fun s' t => o_ld Tryz.isAgg3 (E.ev rfl) (((o1.tr t).cell _).trans rfl)) rfl rfl rfl rfl fun a E => ?_
      refine dp E rfl (fun w => o_fa Tryz.underlying38 rfl Tryz.sizeOf36 (E.ev rfl)) rfl rfl rfl fun a E => ?_
      refine dr E rfl (fun s' t => o_ld Tryz.isAgg36 (E.ev rfl) (((o1.tr t).cell _).trans rfl)) rfl rfl rfl rfl fun a E => ?_
      refine dh E rfl (o_ok Tryz.call48 (E.evs rfl) (E.ev rfl) (ok_39 s9 h9 hx6)) (fun _ _ h => h.1) rfl rfl rfl rfl ?_
      rintro a _ s10 ⟨t10, wf, rfl, h13⟩ E
      obtain ⟨a13, c13, rfl⟩ := h13.isS
      refine dp E rfl (fun w => o_bd (cells := #[.int .i64 F.Kind, .slice a13 fw.length c13]) (places := #[(0, 1), (1, 1)]) Tryz.zeroValue38 Tryz.underlying38 (fun w => by simp [Sem.run_bind, Result.andThen, Tryz.sizeOf3, Tryz.sizeOf36]) (qs := #[(0, .int .i64 F.Kind), (1, .slice a13 fw.length c13)]) (by simp only [List.map_toArray, List.map_cons, List.map_nil, E.ev (x := .tmp 50) (v := .int .i64 F.Kind) rfl, E.ev (x := .tmp 53) rfl]) rfl) rfl rfl rfl fun a E => ?_
      refine dh E rfl (o_bs Tryz.underlying43 Tryz.sizeOf38 Tryz.zeroValue38 (qs := #[(0, .agg #[.int .i64 F.Kind, .slice a13 fw.length c13])]) (cells := #[.int .i64 F.Kind, .slice a13 fw.length c13]) (by simp only [List.map_toArray, List.map_cons, List.map_nil, E.ev (x := .tmp 54) rfl]) rfl rfl (by kernel_rfl)) (fun _ _ ⟨_, _, _, t⟩ => t) rfl rfl rfl (by kernel_rfl) ?_
      rintro a _ s11 ⟨b11, rfl, o11, t11⟩ E
      have h14 := o11.sl (K := kFr) (xs := [⟨F.Kind, fw⟩]) ⟨_, _, rfl, ⟨_, rfl, h13.tr t11⟩, rfl⟩ rfl
      refine dl E rfl (o_app Tryz.underlying43 Tryz.type38 rfl rfl rfl rfl rfl rfl ((h3.trN t10).trN t11) h14.rd (E.ev rfl) (E.ev rfl) k7 (Nat.zero_le _)) rfl rfl rfl (by kernel_rfl) ?_
      rintro a w12 s12 ⟨h15, t12⟩ E
      rw [hap7] at h15
      obtain ⟨a12, c12, rfl⟩ := h15.isS
      refine dp E rfl (fun w => o_nc (E.ev rfl)) rfl rfl rfl fun a E => ?_
      refine dp E rfl (fun w => o_fa Tryz.underlying112 rfl Tryz.sizeOf43 (E.ev rfl)) rfl rfl rfl fun a E => ?_
      have h12 := ((h12.trN t10).trN t11).tr t12 (nt_snd rfl)
      have hcs2 : ((#[.pointer (some ⟨bd, 0, none⟩), .int .i64 L.from_, .int .i64 L.sectors, .int .i64 L.epoch, .slice a7 words'.length c7, fv] : Array Value).toList.take 5 ++ (Value.slice a12 frames'.length c12).cells.toList ++ (#[.pointer (some ⟨bd, 0, none⟩), .int .i64 L.from_, .int .i64 L.sectors, .int .i64 L.epoch, .slice a7 words'.length c7, fv] : Array Value).toList.drop (5 + (Value.slice a12 frames'.length c12).cells.size)).toArray = #[.pointer (some ⟨bd, 0, none⟩), .int .i64 L.from_, .int .i64 L.sectors, .int .i64 L.epoch, .slice a7 words'.length c7, .slice a12 frames'.length c12] := rfl
      refine dlN E rfl (o_st (o := 5) (cs' := #[.pointer (some ⟨bd, 0, none⟩), .int .i64 L.from_, .int .i64 L.sectors, .int .i64 L.epoch, .slice a7 words'.length c7, .slice a12 frames'.length c12]) (v := .slice a12 frames'.length c12) Tryz.sizeOf43 h12 (E.ev rfl) (E.ev rfl) (Nat.le_of_ble_eq_true rfl) (by intro u hu; simp [Value.cells] at hu; subst hu; rfl) hcs2) rfl rfl (by kernel_rfl) ?_
      rintro _ s13 ⟨h16, t13⟩
      have t813 : Tr (Rt k) s8 s13 := (((t9.trans t10).trans t11).no.trans (t12.mono (by intro t h; subst h; rfl))).trans (t13.mono (by intro t h; subst h; rfl))
      have t413 : Tr (Rt k) s4 s13 := t58.trans t813
      have h11 := ((h11.trN t9).trN t10).trN t11
      have hl : LogAt k bd s13 b { L with words := words', frames := frames' } := ⟨_, _, h16, .inl ((h11.tr t12 (nt_snd rfl)).tr t13 (nt_snd rfl)), h15.tr t13 (nt_snd rfl)⟩
      have hD := hD.tr t413 (fun i => nr (Ne.symm hne))
      refine gd_nil ?_
      refine tgn ?_
      refine G_seq ?_
      refine G_region ?_
      refine sd E (o_mv (E.ev rfl)) rfl rfl rfl fun a E => ?_
      refine sd E (o_mv (E.ev rfl)) rfl rfl rfl fun a E => ?_
      refine sh E (o_ok Tryz.call70 (E.evs rfl) (E.ev rfl) (ok_40 s13 hne hl hD hx8)) rfl rfl rfl ?_
      rintro a _ s14 ⟨hl, hD, t14⟩ E
      refine GL_nil ?_
      refine tgn ?_
      refine G_seq ?_
      refine G_region ?_
      refine sd E (o_as (E.ev rfl)) rfl rfl rfl fun a E => ?_
      refine GL_nil ?_
      refine tgn ?_
      refine G_ret ?_
      exact fin1 E rfl rfl ⟨hl, hD, (T4.no.trans (t413.mono fun _ h => .inl h)).trans (t14.mono fun _ h => .inr h), rfl⟩
end Go.Proofs.YtdkfdmalbbfbmaaGreat
