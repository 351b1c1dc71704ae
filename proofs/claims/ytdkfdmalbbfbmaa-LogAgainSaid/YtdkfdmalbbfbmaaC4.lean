/- Devices: reading, and a new one. -/
import Derived.Test.YtdkfdmalbbfbmaaC3
namespace Go.Proofs.Ytdkfdmalbbfbmaa
open Go Go.Maps
set_option maxRecDepth 4000

section
variable {α : Type} {K : Kd α} {s : St} {v : Value} {xs : List α} {k : Tg} {T B : Nat} {i : Int} {q : α}
/-- An element of a slice of one's own, read now. -/
theorem Bd.gt (h : Bd k K T B s v xs) (hq : gt xs i = some q) : ∃ b o, IxTo v i xs.length K.sz b o ∧ s.tag b = some k ∧ ∃ es, K.R s es q ∧ ∀ j u, es[j]? = some u → s.w.cell? ⟨b, o + j, none⟩ = some u := by
  obtain ⟨h0, h1, rfl⟩ := gt_some hq
  obtain ⟨cs, ⟨hl, hh⟩, he, hm⟩ := h
  rcases hh with ⟨rfl, hz⟩ | ⟨g, cap, cur, rfl, hB, hh, hc, hcm, hz, hx⟩
  · omega
  · obtain ⟨es, e1, e2⟩ := he.get (List.getElem?_eq_getElem h1)
    refine ⟨g, 0 + i.toNat * K.sz, ⟨0, cap, rfl, rfl, h0, by omega⟩, hm g rfl, es, e1, fun j u hu => ?_⟩
    have := e2 j u hu
    rw [← hx, List.getElem?_take] at this
    split at this
    · rw [Nat.zero_add]; simpa [World.cell?, hh] using this
    · cases this
end

theorem DiskAt.len8 {k : Nat} {s : St} {b : Nat} {D : Disk} (hd : DiskAt k s b D) {i : Int} (ht : there D i = true) : (rdD D i).length = 8 := by
  obtain ⟨h0, lv, mb, n1, n2, h1, h2, h3⟩ := hd
  obtain ⟨p0, p1⟩ := there_some ht
  unfold rdD
  cases hw : wAt D.wr i with
  | some x =>
    obtain ⟨_, _, _, _, hR⟩ := h3
    exact (hR.val i x hw).1
  | none =>
    have hg : gt D.lasts i = some (D.lasts[i.toNat]'(by omega)) := by simp [gt, p0, show i.toNat < D.lasts.length by omega]
    obtain ⟨_, _, _, _, es, he, _⟩ := h2.gt hg
    simp only [Option.getD_none, List.getElem?_eq_getElem (show i.toNat < D.lasts.length by omega), Option.getD_some]
    exact he.1

theorem m_14_len {k : Nat} {s : St} {b : Nat} {D : Disk} (hd : DiskAt k s b D) {i : Int} {xs : Sec} {e : Int} (hm : m_14 D i = some (xs, e)) : xs.length = 8 := by
  unfold m_14 at hm
  cases ht : there D i with
  | true => have hm := cT ht hm; cases hm; exact hd.len8 ht
  | false => have hm := cF ht hm; cases hm; rfl

theorem ok_14 (s : St) {k : Nat} {b : Nat} {D : Disk} (hd : DiskAt k s b D) {i : Int} {xs : Sec} {e : Int} (hm : m_14 D i = some (xs, e)) :
    Ok Try.prog 14 ([.pointer (some ⟨b, 0, none⟩), .int .i64 i] : List Value).toArray s fun v s' => Tr No s s' ∧ v = .tuple #[eA .u64 xs, .int .i64 e] ∧ xs.length = 8 := by
  have hl8 := m_14_len hd hm
  unfold m_14 at hm
  obtain ⟨κ, hk⟩ := s.fresh
  have hkk : k < κ := hk _ _ hd.tag
  refine ok_of (n := 31) _ Try.func14 rfl _ rfl rfl fun a E => ?_
  refine G_seq ?_
  refine G_region ?_
  refine sh E (o_ala (κ, 1) .u64 8 Try.zeroValue38 rfl) rfl rfl rfl ?_
  rintro a _ s1 ⟨b1, rfl, o1, t1⟩ E
  refine sd E (o_as (E.ev rfl)) rfl rfl rfl fun a E => ?_
  refine GL_nil ?_
  refine tgn ?_
  refine G_seq ?_
  refine G_seq ?_
  refine G_region ?_
  refine sd E (o_mv (E.ev rfl)) rfl rfl rfl fun a E => ?_
  refine sd E (o_mv (E.ev rfl)) rfl rfl rfl fun a E => ?_
  have hd := hd.trN t1
  refine sh E (o_ok Try.call41 (E.evs rfl) (E.ev rfl) (ok_41 s1 hd)) rfl rfl rfl ?_
  rintro a _ s2 ⟨t2, rfl⟩ E
  have hd := hd.trN t2
  have o1 := o1.trN t2
  refine sd E (o_not (E.ev rfl)) rfl rfl rfl fun a E => ?_
  refine GL_nil ?_
  refine tgn ?_
  refine G_cond (E.ev rfl) (fun ht => ?_) (fun ht => ?_)
  · have ht : there D i = false := by simpa using ht
    have hm := cF ht hm
    cases hm
    refine G_seq ?_
    refine G_region ?_
    refine sd E (o_bdA 8 .u64 Try.zeroValue38 Try.underlying38 Try.sizeOf37 rfl) rfl rfl rfl fun a E => ?_
    refine shN E (o_stA Try.sizeOf38 o1 (E.ev rfl) (E.ev rfl) (List.length_replicate ..) (List.length_replicate ..)) rfl rfl ?_
    rintro _ s3 ⟨o2, t3⟩
    refine sd E (o_as (E.ev rfl)) rfl rfl rfl fun a E => ?_
    refine GL_nil ?_
    refine tgn ?_
    refine G_ret ?_
    refine tgr ?_
    exact fin2 E rfl (rv_cellA rfl Try.isAgg38 Try.sizeOf38 (List.length_replicate ..) o2.cell) rfl ⟨((Tr.refl No s).stepN (t1.trans t2)).step hk t3 (by intro t h; subst h; exact .inr (Nat.le_refl _)), rfl, rfl⟩
  · have ht : there D i = true := by simpa using ht
    have hm := cT ht hm
    cases hm
    obtain ⟨p0, p1⟩ := there_some ht
    refine G_skip ?_
    refine tgn ?_
    obtain ⟨h0, lv, mb, n1, n2, h1, h2, h3⟩ := hd
    refine G_seq ?_
    refine G_seq ?_
    refine G_region ?_
    refine sd E (o_mv (E.ev rfl)) rfl rfl rfl fun a E => ?_
    refine sd E (o_nc (E.ev rfl)) rfl rfl rfl fun a E => ?_
    refine sd E (o_fa Try.underlying69 rfl Try.sizeOf67 (E.ev rfl)) rfl rfl rfl fun a E => ?_
    refine sd E (o_ld Try.isAgg67 (E.ev rfl) ((h1.cell _).trans rfl)) rfl rfl rfl fun a E => ?_
    refine sd E (o_mv (E.ev rfl)) rfl rfl rfl fun a E => ?_
    refine sd E (o_lk h3 (E.ev rfl) (E.ev rfl) p0 (by omega)) rfl rfl rfl fun a E => ?_
    refine sd E (o_mv (E.ev rfl)) rfl rfl rfl fun a E => ?_
    refine sd E (o_ext (v := eA .u64 ((wAt D.wr i).getD Z8)) (E.ev rfl) rfl) rfl rfl rfl fun a E => ?_
    refine sd E (o_ext (v := .bool (wAt D.wr i).isSome) (E.ev rfl) rfl) rfl rfl rfl fun a E => ?_
    refine sh E (o_ala (κ, 2) .u64 8 Try.zeroValue38 rfl) rfl rfl rfl ?_
    rintro a _ s3 ⟨b2, rfl, o2, t3⟩ E
    have h1 := h1.trN t3
    have h2 := h2.trN t3
    have o1 := o1.trN t3
    have hl : ((wAt D.wr i).getD Z8).length = 8 := by
      cases hw : wAt D.wr i with
      | none => rfl
      | some x => obtain ⟨_, _, _, _, hR⟩ := h3; exact (hR.val i x hw).1
    refine shN E (o_stA Try.sizeOf38 o2 (E.ev rfl) (E.ev rfl) (List.length_replicate ..) hl) rfl rfl ?_
    rintro _ s4 ⟨o3, t4⟩
    have h1 := h1.tr t4 (nt_fst (by omega))
    have h2 := h2.tr t4 (nt_fst (by omega))
    have o1 := o1.tr t4 (nt_snd rfl)
    refine sd E (o_as (E.ev rfl)) rfl rfl rfl fun a E => ?_
    refine GL_nil ?_
    refine tgn ?_
    refine G_seq ?_
    refine G_region ?_
    refine sd E (o_mv (E.ev rfl)) rfl rfl rfl fun a E => ?_
    refine GL_nil ?_
    refine tgn ?_
    have T4 : Tr No s s4 := (((Tr.refl No s).stepN (t1.trans t2)).stepN t3).step hk t4 (by intro t h; subst h; exact .inr (Nat.le_refl _))
    refine G_cond (E.ev rfl) (fun hw => ?_) (fun hw => ?_)
    · obtain ⟨x, hx⟩ := Option.isSome_iff_exists.1 hw
      rw [hx] at E o3 hl
      refine G_seq ?_
      refine G_region ?_
      refine sd E (o_ldA Try.isAgg38 Try.sizeOf38 (E.ev rfl) hl o3.cell) rfl rfl rfl fun a E => ?_
      refine shN E (o_stA Try.sizeOf38 o1 (E.ev rfl) (E.ev rfl) (List.length_replicate ..) hl) rfl rfl ?_
      rintro _ s5 ⟨o5, t5⟩
      refine sd E (o_as (E.ev rfl)) rfl rfl rfl fun a E => ?_
      refine GL_nil ?_
      refine tgn ?_
      refine G_ret ?_
      refine tgr ?_
      have e1 : rdD D i = (some x).getD Z8 := by unfold rdD; rw [hx]; rfl
      rw [e1]
      exact fin2 E rfl (rv_cellA rfl Try.isAgg38 Try.sizeOf38 hl o5.cell) rfl ⟨T4.step hk t5 (by intro t h; subst h; exact .inr (Nat.le_refl _)), rfl, hl⟩
    · have hx : wAt D.wr i = none := by simpa using hw
      refine G_skip ?_
      refine tgn ?_
      have hg : gt D.lasts i = some (D.lasts[i.toNat]'(by omega)) := by simp [gt, p0, show i.toNat < D.lasts.length by omega]
      obtain ⟨b5, p5, g5, _, es, ⟨hes, rfl⟩, hc⟩ := h2.gt hg
      refine G_seq ?_
      refine G_region ?_
      refine sd E (o_mv (E.ev rfl)) rfl rfl rfl fun a E => ?_
      refine sd E (o_nc (E.ev rfl)) rfl rfl rfl fun a E => ?_
      refine sd E (o_fa Try.underlying69 rfl Try.sizeOf66 (E.ev rfl)) rfl rfl rfl fun a E => ?_
      refine sd E (o_ld Try.isAgg66 (E.ev rfl) ((h1.cell _).trans rfl)) rfl rfl rfl fun a E => ?_
      refine sd E (o_mv (E.ev rfl)) rfl rfl rfl fun a E => ?_
      refine sd E (o_ixg Try.underlying66 Try.sizeOf38 g5 (E.ev rfl) (E.ev rfl)) rfl rfl rfl fun a E => ?_
      refine sd E (o_lda _ Try.isAgg38 Try.sizeOf38 (E.ev rfl) (by rw [List.length_map]; exact hes) hc) rfl rfl rfl fun a E => ?_
      refine shN E (o_stA (k := .u64) (ys := D.lasts[i.toNat]'(by omega)) Try.sizeOf38 o1 (E.ev rfl) (E.ev rfl) (List.length_replicate ..) hes) rfl rfl ?_
      rintro _ s5 ⟨o5, t5⟩
      refine sd E (o_as (E.ev rfl)) rfl rfl rfl fun a E => ?_
      refine GL_nil ?_
      refine tgn ?_
      refine G_ret ?_
      have e1 : rdD D i = D.lasts[i.toNat]'(by omega) := by unfold rdD; rw [hx, List.getElem?_eq_getElem (by omega)]; rfl
      rw [e1]
      exact fin2 E rfl (rv_cellA rfl Try.isAgg38 Try.sizeOf38 hes o5.cell) rfl ⟨T4.step hk t5 (by intro t h; subst h; exact .inr (Nat.le_refl _)), rfl, hes⟩
end Go.Proofs.Ytdkfdmalbbfbmaa
