/- The words of some sectors. -/
import Derived.Test.YtdkfdmalbbfbmaaC10
namespace Go.Proofs.Ytdkfdmalbbfbmaa
open Go Go.Maps
set_option maxRecDepth 4000

noncomputable def m_33b (D : Disk) (from_ sectors : Int) : List Int × Int → Option (Lo (List Int × Int) (List Int)) := fun (out, i) =>
  bif decide (i < sectors) then ob (m_14 D (IntKind.wrap .i64 (from_ + i))) fun (xs, e) => bif e != 0 then none else ob (ap out xs) fun out' => some (.inl (out', IntKind.wrap .i64 (i + 1))) else some (.inr out)
noncomputable def m_33 (D : Disk) (from_ sectors : Int) : Option (List Int) := loopO (m_33b D from_ sectors) ([], 0)

theorem ok_33 (s : St) {k b : Nat} {D : Disk} (hd : DiskAt k s b D) {from_ sectors : Int} {ws : List Int} (hm : m_33 D from_ sectors = some ws) :
    Ok Try.prog 33 ([.pointer (some ⟨b, 0, none⟩), .int .i64 from_, .int .i64 sectors] : List Value).toArray s fun v s' => Tr No s s' ∧ ∃ w2, v = .tuple #[w2, .int .i64 0] ∧ Sl kU s' w2 ws := by
  unfold m_33 at hm
  obtain ⟨κ, hk⟩ := s.fresh
  have hkk : k < κ := hk _ _ hd.tag
  refine ok_of (n := 32) _ Try.func33 rfl _ rfl rfl fun a E => ?_
  refine G_seq ?_
  refine G_region ?_
  refine sd E (o_as (E.ev rfl)) rfl rfl rfl fun a E => ?_
  refine sd E (o_as (E.ev rfl)) rfl rfl rfl fun a E => ?_
  refine GL_nil ?_
  refine tgn ?_
  refine G_seq ?_
  refine G_region ?_
  refine sd E (o_as (E.ev rfl)) rfl rfl rfl fun a E => ?_
  refine GL_nil ?_
  refine tgn ?_
  refine G_seq ?_
  refine G_seq ?_
  refine G_region ?_
  refine sd E (o_mv (E.ev rfl)) rfl rfl rfl fun a E => ?_
  refine sd E (o_mv (E.ev rfl)) rfl rfl rfl fun a E => ?_
  refine GL_nil ?_
  refine tgn ?_
  refine G_mid1 (fun a' w' => ∃ v8 s', w' = s'.w ∧ Tr (Rt κ) s s' ∧ Bd (κ, 1) kU 37 0 s' v8 ws ∧ En [] 32 a' [(8, v8)]) ?_ ?_
  · refine G_block ?_
    refine G_lp hm (fun st a' w' => ∃ out i v8 s', st = (out, i) ∧ w' = s'.w ∧ Tr (Rt κ) s s' ∧ Bd (κ, 1) kU 37 0 s' v8 out ∧ En [] 32 a' [(0, .pointer (some ⟨b, 0, none⟩)), (1, .int .i64 from_), (8, v8), (12, .int .i64 sectors), (13, .int .i64 i)])
      ⟨_, _, _, _, rfl, rfl, Tr.refl _ _, Bd.nil, (((((E.nil.ad E rfl rfl).ad E rfl rfl).ad E rfl rfl).ad E rfl rfl).ad E rfl rfl)⟩ ?_
    rintro _ a _ x ⟨out, i, v8, s1, rfl, rfl, t1, h8, E⟩ hf
    dsimp only [m_33b] at hf
    have hd := hd.tr t1 (fun i => nr (by omega))
    refine G_seq ?_
    refine G_region ?_
    refine sd E (o_bi (E.ev rfl) (E.ev rfl) rfl) rfl rfl rfl fun a E => ?_
    refine GL_nil ?_
    refine tgn ?_
    refine G_seq ?_
    refine G_cond (E.ev rfl) (fun ht => ?_) (fun ht => ?_)
    · have hf := cT ht hf
      refine G_skip ?_
      refine tgn ?_
      obtain ⟨⟨xs, e⟩, hr, hf⟩ := ob_some hf
      have hf : (bif e != 0 then none else ob (ap out xs) fun out' => some (Sum.inl (out', IntKind.wrap .i64 (i + 1)))) = some x := hf
      refine G_seq ?_
      refine G_block ?_
      refine G_seq ?_
      refine G_region ?_
      refine sd E (o_mv (E.ev rfl)) rfl rfl rfl fun a E => ?_
      refine sd E (o_as (E.ev rfl)) rfl rfl rfl fun a E => ?_
      refine GL_nil ?_
      refine tgn ?_
      refine G_seq ?_
      refine G_region ?_
      refine sd E (o_mv (E.ev rfl)) rfl rfl rfl fun a E => ?_
      refine sd E (o_mv (E.ev rfl)) rfl rfl rfl fun a E => ?_
      refine sd E (o_mv (E.ev rfl)) rfl rfl rfl fun a E => ?_
      refine sd E (o_bi (E.ev rfl) (E.ev rfl) rfl) rfl rfl rfl fun a E => ?_
      refine sh E (o_ok Try.call14 (E.evs rfl) (E.ev rfl) (ok_14 s1 hd hr)) rfl rfl rfl ?_
      rintro a _ s2 ⟨t2, rfl, hl8⟩ E
      refine sd E (o_mv (E.ev rfl)) rfl rfl rfl fun a E => ?_
      refine sd E (o_ext (v := eA .u64 xs) (E.ev rfl) rfl) rfl rfl rfl fun a E => ?_
      refine sd E (o_ext (v := .int .i64 e) (E.ev rfl) rfl) rfl rfl rfl fun a E => ?_
      refine sh E (o_ala (κ, 2) .u64 8 Try.zeroValue38 rfl) rfl rfl rfl ?_
      rintro a _ s3 ⟨b2, rfl, o2, t3⟩ E
      refine shN E (o_stA Try.sizeOf38 o2 (E.ev rfl) (E.ev rfl) (List.length_replicate ..) hl8) rfl rfl ?_
      rintro _ s4 ⟨o3, t4⟩
      refine sd E (o_as (E.ev rfl)) rfl rfl rfl fun a E => ?_
      refine GL_nil ?_
      refine tgn ?_
      refine G_seq ?_
      refine G_seq ?_
      refine G_region ?_
      refine sd E (o_mv (E.ev rfl)) rfl rfl rfl fun a E => ?_
      refine sd E (o_bi (E.ev rfl) (E.ev rfl) rfl) rfl rfl rfl fun a E => ?_
      refine GL_nil ?_
      refine tgn ?_
      refine G_cond (E.ev rfl) (fun he => ?_) (fun he => ?_)
      · have hf := cT he hf
        cases hf
      · have hf := cF he hf
        refine G_skip ?_
        refine tgn ?_
        obtain ⟨out', ho, hf⟩ := ob_some hf
        obtain rfl := Option.some.inj hf
        obtain ⟨hlen, hap⟩ := ap_some ho
        obtain ⟨s5, e5, o5, t5⟩ := o3.fz
        rw [e5]
        have h9 := o5.slA hl8
        refine G_region ?_
        refine sd E (o_mv (E.ev rfl)) rfl rfl rfl fun a E => ?_
        refine sd E (o_slS' Try.underlying38 Try.sizeOf37 (E.ev rfl)) rfl rfl rfl fun a E => ?_
        refine sh E (o_app Try.underlying30 Try.type37 rfl rfl rfl rfl rfl rfl ((((h8.trN t2).trN t3).tr t4 (nt_snd rfl)).tr t5 (nt_snd rfl)) (hl8 ▸ h9.rd) (E.ev rfl) (E.ev rfl) hlen (Nat.zero_le _)) rfl rfl rfl ?_
        rintro a v9 s6 ⟨h10, t6⟩ E
        rw [hap] at h10
        refine sd E (o_as (E.ev rfl)) rfl rfl rfl fun a E => ?_
        refine GL_nil ?_
        refine ebn ?_
        refine tgn ?_
        refine G_region ?_
        refine sd E (o_bi (E.ev rfl) (E.ev rfl) rfl) rfl rfl rfl fun a E => ?_
        refine sd E (o_mv (E.ev rfl)) rfl rfl rfl fun a E => ?_
        refine GL_nil ?_
        exact lpn ⟨_, _, _, s6, rfl, rfl, ((((t1.trans t2.no).trans t3.no).trans (t4.mono (by intro t h; subst h; rfl))).trans (t5.mono (by intro t h; subst h; rfl))).trans (t6.mono (by intro t h; subst h; rfl)), h10, (((((E.nil.ad E rfl rfl).ad E rfl rfl).ad E rfl rfl).ad E rfl rfl).ad E rfl rfl)⟩
    · have hf := cF ht hf
      obtain rfl := Option.some.inj hf
      refine G_exit ?_
      refine tge ?_
      refine lpe fun hr => ?_
      subst hr
      refine ebk ?_
      refine ctn ?_
      exact ⟨_, s1, rfl, t1, h8, E.nil.ad E rfl rfl⟩
  · rintro a _ ⟨v8, s1, rfl, t1, h8, E⟩
    refine tgn ?_
    refine G_seq ?_
    refine G_region ?_
    refine sd E (o_mv (E.ev rfl)) rfl rfl rfl fun a E => ?_
    refine sd E (o_as (E.ev rfl)) rfl rfl rfl fun a E => ?_
    refine sd E (o_as (E.ev rfl)) rfl rfl rfl fun a E => ?_
    refine GL_nil ?_
    refine tgn ?_
    refine G_ret ?_
    obtain ⟨s2, e2, h9, t2⟩ := h8.fz
    rw [e2]
    exact fin2 E rfl rfl rfl ⟨((Tr.refl No s).step hk t1 (fun t h => .inr (Nat.le_of_eq (Eq.symm h)))).step hk t2 (by intro t h; subst h; exact .inr (Nat.le_refl _)), _, rfl, h9⟩
end Go.Proofs.Ytdkfdmalbbfbmaa
