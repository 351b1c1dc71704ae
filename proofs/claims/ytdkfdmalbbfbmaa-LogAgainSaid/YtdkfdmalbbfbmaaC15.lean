/- The sectors of a log are written. -/
import Derived.Test.YtdkfdmalbbfbmaaC14
namespace Go.Proofs.Ytdkfdmalbbfbmaa
open Go Go.Maps
set_option maxRecDepth 4000

noncomputable def m_40b (L : LogM) (last : Int) : Int × Disk → Option (Lo (Int × Disk) Disk) := fun (i, D) =>
  bif decide (i ≤ last) then ob (m_64 L i) fun xs => ob (m_60 D (IntKind.wrap .i64 (L.from_ + i)) xs) fun (D', _) => some (.inl (IntKind.wrap .i64 (i + 1), D')) else some (.inr D)
noncomputable def m_40 (L : LogM) (D : Disk) (at_ : Int) : Option Disk :=
  loopO (m_40b L (IntKind.wrap .i64 (Int.tdiv (IntKind.wrap .i64 ((L.words.length : Int) - 1)) 8))) (IntKind.wrap .i64 (Int.tdiv at_ 8), D)
theorem ok_40 (s : St) {k kd bd b : Nat} {L : LogM} {D D' : Disk} (hne : k ≠ kd) (hd : LogAt k bd s b L) (hD : DiskAt kd s bd D) {at_ : Int} (hm : m_40 L D at_ = some D') :
    Ok Try.prog 40 ([.pointer (some ⟨b, 0, none⟩), .int .i64 at_] : List Value).toArray s fun _ s' => LogAt k bd s' b L ∧ DiskAt kd s' bd D' ∧ Tr (Rt kd) s s' := by
  unfold m_40 at hm
  refine ok_of (n := 36) _ Try.func40 rfl _ rfl rfl fun a E => ?_
  refine G_seq ?_
  refine G_drw k (by rfl) [0, 1, 2, 3, 4, 5, 6, 7, 8, 9, 10] (by kernel_rfl) ?_
  intro s1 t1
  have hd := hd.trN t1
  have hD := hD.trN t1
  obtain ⟨wv, fv, h1, h2, h3⟩ := hd
  refine dp E rfl (fun w => o_mv (E.ev rfl)) rfl rfl rfl fun a E => ?_
  refine dp E rfl (fun w => o_quo (E.ev rfl) (E.ev rfl) rfl) rfl rfl rfl fun a E => ?_
  refine dp E rfl (fun w => o_mv (E.ev rfl)) rfl rfl rfl fun a E => ?_
  refine dp E rfl (fun w => o_nc (E.ev rfl)) rfl rfl rfl fun a E => ?_
  refine dp E rfl (fun w => o_fa Try.underlying73 rfl Try.sizeOf30 (E.ev rfl)) rfl rfl rfl fun a E => ?_
  refine dr E rfl (fun s' t => o_ld Try.isAgg30 (E.ev rfl) (((h1.trN t).cell _).trans rfl)) rfl rfl rfl rfl fun a E => ?_
  refine dp E rfl (fun w => o_lenS (xs := L.words) Try.underlying30 (E.ev rfl) h2.isS) rfl rfl rfl fun a E => ?_
  refine dp E rfl (fun w => o_bi (E.ev rfl) (E.ev rfl) rfl) rfl rfl rfl fun a E => ?_
  refine dp E rfl (fun w => o_quo (E.ev rfl) (E.ev rfl) rfl) rfl rfl rfl fun a E => ?_
  refine dp E rfl (fun w => o_as (E.ev rfl)) rfl rfl rfl fun a E => ?_
  refine dp E rfl (fun w => o_as (E.ev rfl)) rfl rfl rfl fun a E => ?_
  refine gd_nil ?_
  refine tgn ?_
  refine G_seq ?_
  refine G_region ?_
  refine sd E (o_mv (E.ev rfl)) rfl rfl rfl fun a E => ?_
  refine sd E (o_as (E.ev rfl)) rfl rfl rfl fun a E => ?_
  refine GL_nil ?_
  refine tgn ?_
  refine G_block ?_
  refine G_lp hm (fun st a' w' => ∃ i D s', st = (i, D) ∧ w' = s'.w ∧ Tr (Rt kd) s1 s' ∧ DiskAt kd s' bd D ∧ En [] 36 a' [(0, .pointer (some ⟨b, 0, none⟩)), (5, .int .i64 (IntKind.wrap .i64 (Int.tdiv (IntKind.wrap .i64 ((L.words.length : Int) - 1)) 8))), (6, .int .i64 i)])
    ⟨_, _, _, rfl, rfl, Tr.refl _ _, hD, (((E.nil.ad E rfl rfl).ad E rfl rfl).ad E rfl rfl)⟩ ?_
  rintro _ a _ x ⟨i, D2, s2, rfl, rfl, t2, hD, E⟩ hf
  dsimp only [m_40b] at hf
  have h1 := h1.tr t2 (nr hne)
  have h2 := h2.tr t2 (nr hne)
  have h3 := h3.tr t2 (nr hne)
  refine G_seq ?_
  refine G_seq ?_
  refine G_region ?_
  refine sd E (o_mv (E.ev rfl)) rfl rfl rfl fun a E => ?_
  refine sd E (o_mv (E.ev rfl)) rfl rfl rfl fun a E => ?_
  refine sd E (o_bi (E.ev rfl) (E.ev rfl) rfl) rfl rfl rfl fun a E => ?_
  refine GL_nil ?_
  refine tgn ?_
  refine G_cond (E.ev rfl) (fun ht => ?_) (fun ht => ?_)
  · have hf := cT ht hf
    obtain ⟨xs, hx, hf⟩ := ob_some hf
    obtain ⟨⟨D3, e⟩, hw, hf⟩ := ob_some hf
    obtain rfl := Option.some.inj hf
    refine G_skip ?_
    refine tgn ?_
    refine G_seq ?_
    refine G_block ?_
    refine G_drw k (by rfl) [0, 1, 2, 3, 4, 5, 6, 7, 8, 9, 10, 11, 12, 13] (by kernel_rfl) ?_
    intro s3 t3
    have h1 := h1.trN t3
    have h2 := h2.trN t3
    have h3 := h3.trN t3
    have hD := hD.trN t3
    refine dp E rfl (fun w => o_mv (E.ev rfl)) rfl rfl rfl fun a E => ?_
    refine dp E rfl (fun w => o_nc (E.ev rfl)) rfl rfl rfl fun a E => ?_
    refine dp E rfl (fun w => o_fa Try.underlying73 rfl Try.sizeOf24 (E.ev rfl)) rfl rfl rfl fun a E => ?_
    refine dr E rfl (fun s' t => o_ld Try.isAgg24 (E.ev rfl) (((h1.trN t).cell _).trans rfl)) rfl rfl rfl rfl fun a E => ?_
    refine dp E rfl (fun w => o_mv (E.ev rfl)) rfl rfl rfl fun a E => ?_
    refine dp E rfl (fun w => o_nc (E.ev rfl)) rfl rfl rfl fun a E => ?_
    refine dp E rfl (fun w => o_fa Try.underlying73 rfl Try.sizeOf3 (E.ev rfl)) rfl rfl rfl fun a E => ?_
    refine dr E rfl (fun s' t => o_ld Try.isAgg3 (E.ev rfl) (((h1.trN t).cell _).trans rfl)) rfl rfl rfl rfl fun a E => ?_
    refine dp E rfl (fun w => o_mv (E.ev rfl)) rfl rfl rfl fun a E => ?_
    refine dp E rfl (fun w => o_bi (E.ev rfl) (E.ev rfl) rfl) rfl rfl rfl fun a E => ?_
    refine dp E rfl (fun w => o_mv (E.ev rfl)) rfl rfl rfl fun a E => ?_
    refine dp E rfl (fun w => o_mv (E.ev rfl)) rfl rfl rfl fun a E => ?_
    refine dh E rfl (o_ok Try.call64 (E.evs rfl) (E.ev rfl) (ok_64 s3 ⟨wv, fv, h1, h2, h3⟩ hx)) (fun _ _ h => h.1) rfl rfl rfl rfl ?_
    rintro a _ s4 ⟨t4, rfl, hl8⟩ E
    have hD := hD.trN t4
    refine dl E rfl (o_ok Try.call60 (E.evs rfl) (E.ev rfl) (ok_60 s4 hD hl8 hw)) rfl rfl rfl rfl ?_
    rintro a _ s5 ⟨hD, t5, rfl⟩ E
    refine gd_nil ?_
    refine ebn ?_
    refine tgn ?_
    refine G_region ?_
    refine sd E (o_mv (E.ev rfl)) rfl rfl rfl fun a E => ?_
    refine sd E (o_bi (E.ev rfl) (E.ev rfl) rfl) rfl rfl rfl fun a E => ?_
    refine sd E (o_as (E.ev rfl)) rfl rfl rfl fun a E => ?_
    refine GL_nil ?_
    exact lpn ⟨_, _, s5, rfl, rfl, ((t2.trans t3.no).trans t4.no).trans t5, hD, (((E.nil.ad E rfl rfl).ad E rfl rfl).ad E rfl rfl)⟩
  · have hf := cF ht hf
    obtain rfl := Option.some.inj hf
    refine G_exit ?_
    refine tge ?_
    refine lpe fun hr => ?_
    cases hr
    refine ebk ?_
    exact fin0 E rfl ⟨⟨wv, fv, h1, h2, h3⟩, hD, t1.no.trans t2⟩
end Go.Proofs.Ytdkfdmalbbfbmaa
