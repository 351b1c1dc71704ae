/- What stands behind the frames is cleared. -/
import Derived.Test.YtdkfdmalbbfbmaaC15
namespace Go.Proofs.Ytdkfdmalbbfbmaa
open Go Go.Maps
set_option maxRecDepth 4000

noncomputable def m_35b (L : LogM) (ws : List Int) : Bool × Int × Disk → Option (Lo (Bool × Int × Disk) (Bool × Disk)) := fun (sm, i, D) =>
  bif decide (i < L.sectors) then ob (m_64 L i) fun xs => ob (sl ws (IntKind.wrap .i64 (i * 8)) (IntKind.wrap .i64 (IntKind.wrap .i64 (i + 1) * 8))) fun part => ob (m_65 xs part) fun eq =>
    bif eq then some (.inl (sm, IntKind.wrap .i64 (i + 1), D)) else ob (m_60 D (IntKind.wrap .i64 (L.from_ + i)) xs) fun (D', _) => some (.inl (true, IntKind.wrap .i64 (i + 1), D')) else some (.inr (sm, D))
noncomputable def m_35 (L : LogM) (D : Disk) (ws : List Int) : Option Disk := ob (loopO (m_35b L ws) (false, 0, D)) fun (sm, D') => bif sm then m_51 D' else some D'
theorem ok_35 (s : St) {k kd bd b : Nat} {L : LogM} {D D' : Disk} (hne : k ≠ kd) (hd : LogAt k bd s b L) (hD : DiskAt kd s bd D) {ws : List Int} {w1 : Value} (h9 : Sl kU s w1 ws) (hm : m_35 L D ws = some D') :
    Ok Try.prog 35 ([.pointer (some ⟨b, 0, none⟩), w1] : List Value).toArray s fun _ s' => LogAt k bd s' b L ∧ DiskAt kd s' bd D' ∧ Tr (Rt kd) s s' := by
  unfold m_35 at hm
  obtain ⟨⟨sm, D1⟩, hl, hm⟩ := ob_some hm
  have hm : (bif sm then m_51 D1 else some D1) = some D' := hm
  obtain ⟨κ, hk⟩ := s.fresh
  have hkk : k < κ := hk _ _ hd.tag
  have hkd : kd < κ := hk _ _ hD.tag
  obtain ⟨wv, fv, h1, h2, h3⟩ := hd
  refine ok_of (n := 45) _ Try.func35 rfl _ rfl rfl fun a E => ?_
  refine G_seq ?_
  refine G_region ?_
  refine sd E (o_as (E.ev rfl)) rfl rfl rfl fun a E => ?_
  refine GL_nil ?_
  refine tgn ?_
  refine G_seq ?_
  refine G_seq ?_
  refine G_region ?_
  refine sd E (o_mv (E.ev rfl)) rfl rfl rfl fun a E => ?_
  refine sd E (o_nc (E.ev rfl)) rfl rfl rfl fun a E => ?_
  refine sd E (o_fa Try.underlying73 rfl Try.sizeOf3 (E.ev rfl)) rfl rfl rfl fun a E => ?_
  refine sd E (o_ld Try.isAgg3 (E.ev rfl) ((h1.cell _).trans rfl)) rfl rfl rfl fun a E => ?_
  refine sd E (o_mv (E.ev rfl)) rfl rfl rfl fun a E => ?_
  refine GL_nil ?_
  refine tgn ?_
  refine G_mid1 (fun a' w' => ∃ s', w' = s'.w ∧ Tr (Or (Rt kd) (Rt κ)) s s' ∧ DiskAt kd s' bd D1 ∧ En [] 45 a' [(0, .pointer (some ⟨b, 0, none⟩)), (4, .bool sm)]) ?_ ?_
  · refine G_block ?_
    refine G_lp hl (fun st a' w' => ∃ sm i D s', st = (sm, i, D) ∧ w' = s'.w ∧ Tr (Or (Rt kd) (Rt κ)) s s' ∧ DiskAt kd s' bd D ∧ En [] 45 a' [(0, .pointer (some ⟨b, 0, none⟩)), (1, w1), (4, .bool sm), (10, .int .i64 L.sectors), (11, .int .i64 i)])
      ⟨_, _, _, _, rfl, rfl, Tr.refl _ _, hD, (((((E.nil.ad E rfl rfl).ad E rfl rfl).ad E rfl rfl).ad E rfl rfl).ad E rfl rfl)⟩ ?_
    rintro _ a _ x ⟨sm2, i, D2, s2, rfl, rfl, t2, hD, E⟩ hf
    dsimp only [m_35b] at hf
    have h1 := h1.tr t2 (nOr (nr hne) (nr (by omega)))
    have h2 := h2.tr t2 (nOr (nr hne) (nr (by omega)))
    have h3 := h3.tr t2 (nOr (nr hne) (nr (by omega)))
    have h9 := h9.tr t2
    refine G_seq ?_
    refine G_region ?_
    refine sd E (o_bi (E.ev rfl) (E.ev rfl) rfl) rfl rfl rfl fun a E => ?_
    refine GL_nil ?_
    refine tgn ?_
    refine G_seq ?_
    refine G_cond (E.ev rfl) (fun ht => ?_) (fun ht => ?_)
    · have hf := cT ht hf
      obtain ⟨xs, hx, hf⟩ := ob_some hf
      obtain ⟨part, hp, hf⟩ := ob_some hf
      obtain ⟨eq, he, hf⟩ := ob_some hf
      refine G_skip ?_
      refine tgn ?_
      refine G_seq ?_
      refine G_block ?_
      refine G_seq ?_
      refine G_region ?_
      refine sd E (o_mv (E.ev rfl)) rfl rfl rfl fun a E => ?_
      refine sd E (o_as (E.ev rfl)) rfl rfl rfl fun a E => ?_
      refine GL_nil ?_
      refine tgn ?_
      refine G_seq ?_
      refine G_region ?_
      refine sd E (o_mv (E.ev rfl)) rfl rfl rfl fun a E => ?_
      refine sd E (o_mv (E.ev rfl)) rfl rfl rfl fun a E => ?_
      refine sh E (o_ok Try.call64 (E.evs rfl) (E.ev rfl) (ok_64 s2 ⟨wv, fv, h1, h2, h3⟩ hx)) rfl rfl rfl ?_
      rintro a _ s3 ⟨t3, rfl, hl8⟩ E
      refine sh E (o_ala (κ, 1) .u64 8 Try.zeroValue38 rfl) rfl rfl rfl ?_
      rintro a _ s4 ⟨b4, rfl, o4, t4⟩ E
      refine shN E (o_stA Try.sizeOf38 o4 (E.ev rfl) (E.ev rfl) (List.length_replicate ..) hl8) rfl rfl ?_
      rintro _ s5 ⟨o5, t5⟩
      refine GL_nil ?_
      refine tgn ?_
      obtain ⟨s6, e6, o6, t6⟩ := o5.fz
      rw [e6]
      have t26 : Tr (Rt κ) s2 s6 := ((t3.no.trans t4.no).trans (t5.mono (by intro t h; subst h; rfl))).trans (t6.mono (by intro t h; subst h; rfl))
      have hD := hD.tr t26 (fun i => nr (by omega))
      have h1 := h1.tr t26 (nr (by omega))
      have h2 := h2.tr t26 (nr (by omega))
      have h3 := h3.tr t26 (nr (by omega))
      have h9 := h9.tr t26
      obtain ⟨u, g1, h10⟩ := h9.sl hp
      have h11 := o6.slA hl8
      refine G_seq ?_
      refine G_seq ?_
      refine G_drw κ (by rfl) [0, 1, 2, 3, 4, 5, 6, 7, 8] (by kernel_rfl) ?_
      intro s7 t7
      refine dp E rfl (fun w => o_slS' Try.underlying38 Try.sizeOf37 (E.ev rfl)) rfl rfl rfl fun a E => ?_
      refine dp E rfl (fun w => o_mv (E.ev rfl)) rfl rfl rfl fun a E => ?_
      refine dp E rfl (fun w => o_mv (E.ev rfl)) rfl rfl rfl fun a E => ?_
      refine dp E rfl (fun w => o_bi (E.ev rfl) (E.ev rfl) rfl) rfl rfl rfl fun a E => ?_
      refine dp E rfl (fun w => o_mv (E.ev rfl)) rfl rfl rfl fun a E => ?_
      refine dp E rfl (fun w => o_bi (E.ev rfl) (E.ev rfl) rfl) rfl rfl rfl fun a E => ?_
      refine dp E rfl (fun w => o_bi (E.ev rfl) (E.ev rfl) rfl) rfl rfl rfl fun a E => ?_
      refine dp E rfl (fun w => o_slLH Try.underlying30 Try.sizeOf37 g1 (E.ev rfl) (E.ev rfl) (E.ev rfl)) rfl rfl rfl fun a E => ?_
      refine dh E rfl (o_ok Try.call65 (E.evs rfl) (E.ev rfl) (ok_65 s7 (h11.tr t7) (h10.tr t7) he)) (fun _ _ h => h.1) rfl rfl rfl rfl ?_
      rintro a _ s8 ⟨t8, rfl⟩ E
      have t68 := t7.trans t8
      have hD := hD.trN t68
      have h1 := h1.trN t68
      have h2 := h2.trN t68
      have h3 := h3.trN t68
      have o6 := o6.tr t68
      have t28 : Tr (Or (Rt kd) (Rt κ)) s s8 := (t2.trans (t26.mono fun _ h => .inr h)).trans t68.no
      refine gd_nil ?_
      refine tgn ?_
      refine G_cond (E.ev rfl) (fun hq => ?_) (fun hq => ?_)
      · have hf := cT hq hf
        obtain rfl := Option.some.inj hf
        refine G_exit ?_
        refine tge ?_
        refine ebk ?_
        refine tgn ?_
        refine G_region ?_
        refine sd E (o_bi (E.ev rfl) (E.ev rfl) rfl) rfl rfl rfl fun a E => ?_
        refine sd E (o_mv (E.ev rfl)) rfl rfl rfl fun a E => ?_
        refine GL_nil ?_
        exact lpn ⟨_, _, _, s8, rfl, rfl, t28, hD, (((((E.nil.ad E rfl rfl).ad E rfl rfl).ad E rfl rfl).ad E rfl rfl).ad E rfl rfl)⟩
      · have hf := cF hq hf
        obtain ⟨⟨D3, e⟩, hw, hf⟩ := ob_some hf
        obtain rfl := Option.some.inj hf
        refine G_skip ?_
        refine tgn ?_
        refine G_seq ?_
        refine G_region ?_
        refine sd E (o_as (E.ev rfl)) rfl rfl rfl fun a E => ?_
        refine GL_nil ?_
        refine tgn ?_
        refine G_drw κ (by rfl) [0, 1, 2, 3, 4, 5, 6, 7, 8, 9, 10, 11] (by kernel_rfl) ?_
        intro s9 t9
        have h1 := h1.trN t9
        have o6 := o6.tr t9
        refine dp E rfl (fun w => o_mv (E.ev rfl)) rfl rfl rfl fun a E => ?_
        refine dp E rfl (fun w => o_nc (E.ev rfl)) rfl rfl rfl fun a E => ?_
        refine dp E rfl (fun w => o_fa Try.underlying73 rfl Try.sizeOf24 (E.ev rfl)) rfl rfl rfl fun a E => ?_
        refine dr E rfl (fun s' t => o_ld Try.isAgg24 (E.ev rfl) (((h1.trN t).cell _).trans rfl)) rfl rfl rfl rfl fun a E => ?_
        refine dp E rfl (fun w => o_mv (E.ev rfl)) rfl rfl rfl fun a E => ?_
        refine dp E rfl (fun w => o_nc (E.ev rfl)) rfl rfl rfl fun a E => ?_
        refine dp E rfl (fun w => o_fa Try.underlying73 rfl Try.sizeOf3 (E.ev rfl)) rfl rfl rfl fun a E => ?_
        refine dr E rfl (fun s' t => o_ld Try.isAgg3 (E.ev rfl) (((h1.trN t).cell _).trans rfl)) rfl rfl rfl rfl fun a E => ?_
        refine dp E rfl (fun w => o_mv (E.ev rfl)) rfl rfl rfl fun a E => ?_
        refine dp E rfl (fun w => o_bi (E.ev rfl) (E.ev rfl) rfl) rfl rfl rfl fun a E => ?_
        refine dr E rfl (fun s' t => o_ldA Try.isAgg38 Try.sizeOf38 (E.ev rfl) hl8 (o6.tr t).cell) rfl rfl rfl rfl fun a E => ?_
        refine dl E rfl (o_ok Try.call60 (E.evs rfl) (E.ev rfl) (ok_60 s9 (hD.trN t9) hl8 hw)) rfl rfl rfl rfl ?_
        rintro a _ s10 ⟨hD, t10, rfl⟩ E
        refine gd_nil ?_
        refine ebn ?_
        refine tgn ?_
        refine G_region ?_
        refine sd E (o_bi (E.ev rfl) (E.ev rfl) rfl) rfl rfl rfl fun a E => ?_
        refine sd E (o_mv (E.ev rfl)) rfl rfl rfl fun a E => ?_
        refine GL_nil ?_
        exact lpn ⟨_, _, _, s10, rfl, rfl, (t28.trans t9.no).trans (t10.mono fun _ h => .inl h), hD, (((((E.nil.ad E rfl rfl).ad E rfl rfl).ad E rfl rfl).ad E rfl rfl).ad E rfl rfl)⟩
    · have hf := cF ht hf
      obtain rfl := Option.some.inj hf
      refine G_exit ?_
      refine tge ?_
      refine lpe fun hr => ?_
      cases hr
      refine ebk ?_
      refine ctn ?_
      exact ⟨s2, rfl, t2, hD, ((E.nil.ad E rfl rfl).ad E rfl rfl)⟩
  · rintro a _ ⟨s2, rfl, t2, hD, E⟩
    have h1 := h1.tr t2 (nOr (nr hne) (nr (by omega)))
    have h2 := h2.tr t2 (nOr (nr hne) (nr (by omega)))
    have h3 := h3.tr t2 (nOr (nr hne) (nr (by omega)))
    have T2 : Tr (Rt kd) s s2 := (Tr.refl _ s).step hk t2 (fun t h => h.elim .inl fun h => .inr (Nat.le_of_eq (Eq.symm h)))
    refine tgn ?_
    refine G_seq ?_
    refine G_region ?_
    refine sd E (o_mv (E.ev rfl)) rfl rfl rfl fun a E => ?_
    refine GL_nil ?_
    refine tgn ?_
    refine G_cond (E.ev rfl) (fun hq => ?_) (fun hq => ?_)
    · have hm := cT hq hm
      refine G_region ?_
      refine sd E (o_mv (E.ev rfl)) rfl rfl rfl fun a E => ?_
      refine sd E (o_nc (E.ev rfl)) rfl rfl rfl fun a E => ?_
      refine sd E (o_fa Try.underlying73 rfl Try.sizeOf24 (E.ev rfl)) rfl rfl rfl fun a E => ?_
      refine sd E (o_ld Try.isAgg24 (E.ev rfl) ((h1.cell _).trans rfl)) rfl rfl rfl fun a E => ?_
      refine sh E (o_ok Try.call51 (E.evs rfl) (E.ev rfl) (ok_51 s2 hD hm)) rfl rfl rfl ?_
      rintro a _ s3 ⟨hD, t3⟩ E
      refine GL_nil ?_
      exact fin0 E rfl ⟨⟨wv, fv, h1.tr t3 (nr hne), h2.tr t3 (nr hne), h3.tr t3 (nr hne)⟩, hD, T2.trans t3⟩
    · have hm := cF hq hm
      obtain rfl := Option.some.inj hm
      refine G_skip ?_
      exact fin0 E rfl ⟨⟨wv, fv, h1, h2, h3⟩, hD, T2⟩
end Go.Proofs.Ytdkfdmalbbfbmaa
