/- A sector of a log. -/
import Derived.Test.YtdkfdmalbbfbmaaC13
namespace Go.Proofs.Ytdkfdmalbbfbmaa
open Go Go.Maps
set_option maxRecDepth 4000

noncomputable def m_64 (L : LogM) (i : Int) : Option Sec :=
  bif decide (IntKind.wrap .i64 (i * 8) < (L.words.length : Int)) then ob (sl L.words (IntKind.wrap .i64 (i * 8)) L.words.length) fun ys => some (cpy Z8 0 ys) else some Z8
theorem ok_64 (s : St) {k bd b : Nat} {L : LogM} (hd : LogAt k bd s b L) {i : Int} {xs : Sec} (hm : m_64 L i = some xs) :
    Ok Try.prog 64 ([.pointer (some ⟨b, 0, none⟩), .int .i64 i] : List Value).toArray s fun v s' => Tr No s s' ∧ v = eA .u64 xs ∧ xs.length = 8 := by
  unfold m_64 at hm
  obtain ⟨κ, hk⟩ := s.fresh
  have hkk : k < κ := hk _ _ hd.tag
  obtain ⟨wv, fv, h1, h2, h3⟩ := hd
  refine ok_of (n := 25) _ Try.func64 rfl _ rfl rfl fun a E => ?_
  refine G_seq ?_
  refine G_region ?_
  refine sh E (o_ala (κ, 1) .u64 8 Try.zeroValue38 rfl) rfl rfl rfl ?_
  rintro a _ s1 ⟨b1, rfl, o1, t1⟩ E
  refine GL_nil ?_
  refine tgn ?_
  refine G_seq ?_
  refine G_region ?_
  refine sh E (o_ala (κ, 2) .u64 8 Try.zeroValue38 rfl) rfl rfl rfl ?_
  rintro a _ s2 ⟨b2, rfl, o2, t2⟩ E
  have o1 := o1.trN t2
  have h1 := (h1.trN t1).trN t2
  have h2 := (h2.trN t1).trN t2
  refine GL_nil ?_
  refine tgn ?_
  refine G_seq ?_
  refine G_seq ?_
  refine G_region ?_
  refine sd E (o_mv (E.ev rfl)) rfl rfl rfl fun a E => ?_
  refine sd E (o_bi (E.ev rfl) (E.ev rfl) rfl) rfl rfl rfl fun a E => ?_
  refine sd E (o_as (E.ev rfl)) rfl rfl rfl fun a E => ?_
  refine GL_nil ?_
  refine tgn ?_
  refine G_seq ?_
  refine G_region ?_
  refine sd E (o_mv (E.ev rfl)) rfl rfl rfl fun a E => ?_
  refine sd E (o_mv (E.ev rfl)) rfl rfl rfl fun a E => ?_
  refine sd E (o_nc (E.ev rfl)) rfl rfl rfl fun a E => ?_
  refine sd E (o_fa Try.underlying73 rfl Try.sizeOf30 (E.ev rfl)) rfl rfl rfl fun a E => ?_
  refine sd E (o_ld Try.isAgg30 (E.ev rfl) ((h1.cell _).trans rfl)) rfl rfl rfl fun a E => ?_
  refine sd E (o_lenS (xs := L.words) Try.underlying30 (E.ev rfl) h2.isS) rfl rfl rfl fun a E => ?_
  refine sd E (o_bi (E.ev rfl) (E.ev rfl) rfl) rfl rfl rfl fun a E => ?_
  refine GL_nil ?_
  refine tgn ?_
  have T2 : Tr No s s2 := t1.trans t2
  refine G_cond (E.ev rfl) (fun ht => ?_) (fun ht => ?_)
  · have hm := cT ht hm
    obtain ⟨ys, hy, hm⟩ := ob_some hm
    obtain rfl := Option.some.inj hm
    refine G_drw κ (by rfl) [0, 1, 2, 3, 4, 5, 6, 7] (by kernel_rfl) ?_
    intro s3 t3
    have o1 := o1.trN t3
    have o2 := o2.trN t3
    have h1 := h1.trN t3
    have h2 := h2.trN t3
    obtain ⟨u, hu, hur⟩ := h2.rd.from hy Try.sizeOf37 Try.underlying30
    refine dp E rfl (fun w => o_slS' Try.underlying38 Try.sizeOf37 (E.ev rfl)) rfl rfl rfl fun a E => ?_
    refine dp E rfl (fun w => o_mv (E.ev rfl)) rfl rfl rfl fun a E => ?_
    refine dp E rfl (fun w => o_nc (E.ev rfl)) rfl rfl rfl fun a E => ?_
    refine dp E rfl (fun w => o_fa Try.underlying73 rfl Try.sizeOf30 (E.ev rfl)) rfl rfl rfl fun a E => ?_
    refine dr E rfl (fun s' t => o_ld Try.isAgg30 (E.ev rfl) (((h1.trN t).cell _).trans rfl)) rfl rfl rfl rfl fun a E => ?_
    refine dp E rfl (fun w => o_mv (E.ev rfl)) rfl rfl rfl fun a E => ?_
    refine dp E rfl (fun w => hu w _ _ _ _ _ _ _ _ (E.ev rfl) (E.ev rfl)) rfl rfl rfl fun a E => ?_
    refine dl E rfl (o_cpy Try.underlying30 rfl o2 (List.length_replicate ..) hur (E.ev rfl) (E.ev rfl)) rfl rfl rfl rfl ?_
    rintro a _ s4 ⟨rfl, o3, t4⟩ E
    have o1 := o1.tr t4 (nt_snd rfl)
    have hl : (cpy Z8 0 ys).length = 8 := cpy_len (Nat.zero_le _)
    refine gd_nil ?_
    refine tgn ?_
    refine G_seq ?_
    refine G_region ?_
    refine sd E (o_ldA Try.isAgg38 Try.sizeOf38 (E.ev rfl) hl o3.cell) rfl rfl rfl fun a E => ?_
    refine shN E (o_stA Try.sizeOf38 o1 (E.ev rfl) (E.ev rfl) (List.length_replicate ..) hl) rfl rfl ?_
    rintro _ s5 ⟨o5, t5⟩
    refine GL_nil ?_
    refine tgn ?_
    refine G_ret ?_
    exact fin1 E rfl (rv_cellA rfl Try.isAgg38 Try.sizeOf38 hl o5.cell) ⟨((T2.stepN t3).step hk t4 (by intro t h; subst h; exact .inr (Nat.le_refl _))).step hk t5 (by intro t h; subst h; exact .inr (Nat.le_refl _)), rfl, hl⟩
  · have hm := cF ht hm
    obtain rfl := Option.some.inj hm
    refine G_skip ?_
    refine tgn ?_
    refine G_seq ?_
    refine G_region ?_
    refine sd E (o_ldA Try.isAgg38 Try.sizeOf38 (E.ev rfl) (List.length_replicate ..) o2.cell) rfl rfl rfl fun a E => ?_
    refine shN E (o_stA Try.sizeOf38 o1 (E.ev rfl) (E.ev rfl) (List.length_replicate ..) (List.length_replicate ..)) rfl rfl ?_
    rintro _ s5 ⟨o5, t5⟩
    refine GL_nil ?_
    refine tgn ?_
    refine G_ret ?_
    exact fin1 E rfl (rv_cellA rfl Try.isAgg38 Try.sizeOf38 (List.length_replicate ..) o5.cell) ⟨T2.step hk t5 (by intro t h; subst h; exact .inr (Nat.le_refl _)), rfl, rfl⟩
end Go.Proofs.Ytdkfdmalbbfbmaa
