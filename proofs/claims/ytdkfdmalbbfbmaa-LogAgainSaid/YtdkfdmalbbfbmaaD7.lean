/- All frames of a stream. -/
import Derived.Test.YtdkfdmalbbfbmaaD6
namespace Go.Proofs.Ytdkfdmalbbfbmaa
open Go
set_option maxRecDepth 4000

theorem ok_63 (s : St) {x0 : Int} {x1 : List Int} {w1 : Value} (h1 : Sl kU s w1 x1) :
    Ok Try.prog 63 ([.int .i64 x0, w1] : List Value).toArray s fun v s' => Tr No s s' ∧ ∃ b1 b2 w2, v = .func (.func 80) #[] #[.pointer (some ⟨b1, 0, none⟩), .pointer (some ⟨b2, 0, none⟩)] ∧ Stay s' b1 #[.int .i64 x0] ∧ Stay s' b2 #[w2] ∧ Sl kU s' w2 x1 := by
  refine ok_of (n := 6) _ Try.func63 rfl _ rfl rfl fun a E => ?_
  refine G_seq ?_
  refine G_region ?_
  obtain ⟨a1, c1, rfl⟩ := h1.isS
  refine sh E (o_box (E.ev rfl)) rfl rfl rfl ?_
  rintro a _ s1 ⟨b1, rfl, o1, t1⟩ E
  refine sh E (o_box (E.ev rfl)) rfl rfl rfl ?_
  rintro a _ s2 ⟨b2, rfl, o2, t2⟩ E
  refine sd E (o_as (E.ev rfl)) rfl rfl rfl fun a E => ?_
  refine GL_nil ?_
  refine tgn ?_
  refine G_seq ?_
  refine G_region ?_
  refine sd E (o_mf (E.evs rfl)) rfl rfl rfl fun a E => ?_
  refine sd E (o_as (E.ev rfl)) rfl rfl rfl fun a E => ?_
  refine GL_nil ?_
  refine tgn ?_
  refine G_ret ?_
  exact fin1 E rfl rfl ⟨t1.trans t2, b1, b2, _, rfl, o1.tr t2, o2, (h1.tr t1).tr t2⟩

/-- A frame behind the others. -/
noncomputable def c34 (st : List Frame × Int) (x : Int × Frame) : Option (List Frame × Int) := ob (ap st.1 [x.2]) fun l => some (l, x.1)
noncomputable def m_34 (x0 : Int) (x1 : List Int) : Option (List Frame × Int) := ob (m_80 c34 x0 x1 ([], 0)) fun r => some r

theorem ok_34 (s : St) (tr : Tg) {x0 : Int} {x1 : List Int} {w1 : Value} (h1 : Sl kU s w1 x1) {r0y : List Frame} {r1y : Int} (hm : m_34 x0 x1 = some (r0y, r1y)) :
    Ok Try.prog 34 ([.int .i64 x0, w1] : List Value).toArray s fun v s' => Tr No s s' ∧ ∃ w2, v = .tuple #[w2, .int .i64 r1y] ∧ Bd tr kFr 32 0 s' w2 r0y := by
  unfold m_34 at hm
  obtain ⟨k, hk⟩ := s.fresh
  refine ok_ofD (n := 22) _ Try.func34 rfl _ rfl rfl fun a E => ?_
  refine G_seq ?_
  refine G_region ?_
  refine sd E (o_as (E.ev rfl)) rfl rfl rfl fun a E => ?_
  refine sd E (o_as (E.ev rfl)) rfl rfl rfl fun a E => ?_
  refine GL_nil ?_
  refine tgn ?_
  refine G_seq ?_
  refine G_region ?_
  refine sh E (o_al (k, 1) Try.zeroValue22) rfl rfl rfl ?_
  rintro a _ s1 ⟨b6, rfl, o1, t1⟩ E
  refine GL_nil ?_
  refine tgn ?_
  refine G_seq ?_
  refine G_region ?_
  refine sh E (o_al (k, 3) Try.zeroValue3) rfl rfl rfl ?_
  rintro a _ s2 ⟨b7, rfl, o2, t2⟩ E
  refine shN E (o_st (v := .int .i64 0) Try.sizeOf3 o2 (E.ev rfl) (E.ev rfl) (Nat.le_of_ble_eq_true rfl) (by intro u hu; simp [Value.cells] at hu; subst hu; rfl) rfl) rfl rfl ?_
  rintro _ s3 ⟨o3, t3⟩
  refine GL_nil ?_
  refine tgn ?_
  refine G_seq ?_
  refine G_seq ?_
  refine G_region ?_
  refine sd E (o_mv (E.ev rfl)) rfl rfl rfl fun a E => ?_
  refine sd E (o_mv (E.ev rfl)) rfl rfl rfl fun a E => ?_
  refine sh E (o_ok Try.call63 (E.evs rfl) (E.ev rfl) (ok_63 s3 (((h1.tr t1).tr t2).tr t3))) rfl rfl rfl ?_
  rintro a _ s4 ⟨t4, p1, p2, w2, rfl, q1, q2, h2⟩ E
  refine GL_nil ?_
  refine tgn ?_
  refine G_block ?_
  obtain ⟨⟨l1, e1⟩, hx2, hm⟩ := ob_some hm
  have T4 : Tr No s s4 := (((Tr.refl No s).stepN t1).stepN t2).step hk t3 (by intro t h; subst h; exact .inr (Nat.le_refl _)) |>.stepN t4
  have o14 : Own (k, 1) s4 b6 #[.slice none 0 0] 22 := ((o1.trN t2).tr t3 (nt_snd rfl)).trN t4
  have o34 : Own (k, 3) s4 b7 #[.int .i64 0] 3 := o3.trN t4
  refine G_range (α := Int × Frame × Value) (E.ev (x := .tmp 12) rfl) Try.call80 (k + 1) k (by omega) (fun (st : List Frame × Int) s' => ∃ w, Own (k, 1) s' b6 #[w] 22 ∧ Bd (k, 2) kFr 32 0 s' w st.1 ∧ Own (k, 3) s' b7 #[.int .i64 st.2] 3)
    (fun st x => c34 st (x.1, x.2.1)) (fun x => [.int .i64 x.1, .agg #[.int .i64 x.2.1.Kind, x.2.2]]) (fun x s => Sl kU s x.2.2 x.2.1.Words) (fun x s s' p h t => h.tr t) (Rt k)
    (fun i h => by have h : k + 1 = k := h; omega) ?_ ⟨b6, 1, o14.1⟩ ([], 0) (l1, e1) ⟨_, o14, Bd.nil, o34⟩ (fun _ => rfl) ?_ ?_ ?_
  · rintro k' hk' st s s' ⟨w, h1, h2, h3⟩ t
    exact ⟨w, h1.tr t (nr (Ne.symm hk')), h2.tr t (nr (Ne.symm hk')), h3.tr t (nr (Ne.symm hk'))⟩
  · intro yv J' q' s6 t6 hl hy hj
    exact ok_80 s6 (q1.tr t6) (h2.tr t6) (q2.tr t6) c34 yv J' q' hl (fun st z0 z1 st' s w2 hs hj hc => hy st (z0, z1, w2) st' s hs hj hc) hj hx2
  · rintro l st ⟨z0, z1, w3⟩ st' s6 t6 hpr ⟨w, g1, g2, g3⟩ hc
    have E1 := E.round2 (p := 13) (p' := 14) (v := .int .i64 z0) (v' := .agg #[.int .i64 z1.Kind, w3]) rfl rfl
    have hpr : Sl kU s6 w3 z1.Words := hpr
    obtain ⟨a3, c3, rfl⟩ := hpr.isS
    refine G_seq ?_
    refine G_region ?_
    refine sd E1 (o_as (E1.ev rfl)) rfl rfl rfl fun a E => ?_
    refine GL_nil ?_
    refine tgn ?_
    refine G_region ?_
    refine sh E (o_al (k, 4) Try.zeroValue32) rfl rfl rfl ?_
    rintro a _ s7 ⟨b9, rfl, o9, t7⟩ E
    refine shN E (o_st (v := .agg #[.int .i64 z1.Kind, .slice a3 z1.Words.length c3]) Try.sizeOf32 o9 (E.ev rfl) (E.ev rfl) (Nat.le_of_ble_eq_true rfl) (by intro u hu; simp [Value.cells] at hu; (try rcases hu with hu | hu) <;> subst hu <;> rfl) rfl) rfl rfl ?_
    rintro _ s8 ⟨o10, t8⟩
    refine GL_nil ?_
    refine ctn ?_
    refine ⟨s8, rfl, t7.no.trans (t8.mono (by intro t h; subst h; rfl)), fun s9 t9 => ?_⟩
    have hkk : k ≠ k + 1 := by omega
    have g1 := ((g1.trN t7).tr t8 (nt_snd rfl)).tr t9 (nr hkk)
    have g2 := ((g2.trN t7).tr t8 (nt_snd rfl)).tr t9 (nr hkk)
    have g3 := ((g3.trN t7).tr t8 (nt_snd rfl)).tr t9 (nr hkk)
    have o10 := o10.tr t9 (nr hkk)
    have hpr := ((hpr.tr t7).tr t8).tr t9
    obtain ⟨l2, hl2, hc⟩ := ob_some hc
    obtain rfl := Option.some.inj hc
    obtain ⟨hlen, hap⟩ := ap_some hl2
    refine G_block ?_
    refine G_region ?_
    refine sd E (o_ld Try.isAgg22 (E.ev rfl) ((g1.cell _).trans rfl)) rfl rfl rfl fun a E => ?_
    refine sd E (o_ldc (cs := #[.int .i64 z1.Kind, .slice a3 z1.Words.length c3]) Try.isAgg32 Try.sizeOf32 (E.ev rfl) o10.cell) rfl rfl rfl fun a E => ?_
    refine sh E (o_bs Try.underlying22 Try.sizeOf32 Try.zeroValue32 (qs := #[(0, .agg #[.int .i64 z1.Kind, .slice a3 z1.Words.length c3])]) (cells := #[.int .i64 z1.Kind, .slice a3 z1.Words.length c3]) (by simp only [List.map_toArray, List.map_cons, List.map_nil, E.ev (x := .tmp 16) rfl]) rfl rfl (by kernel_rfl)) rfl rfl rfl ?_
    rintro a _ s10 ⟨b11, rfl, o11, t10⟩ E
    have h11 := o11.sl (K := kFr) (xs := [z1]) ⟨_, _, rfl, ⟨_, rfl, hpr.tr t10⟩, rfl⟩ rfl
    refine sh E (o_app Try.underlying22 Try.type32 rfl rfl rfl rfl rfl rfl (g2.trN t10) h11.rd (E.ev rfl) (E.ev rfl) hlen (Nat.zero_le _)) rfl rfl rfl ?_
    rintro a w5 s11 ⟨h12, t11⟩ E
    refine sd E (o_mv (E.ev rfl)) rfl rfl rfl fun a E => ?_
    rw [hap] at h12
    obtain ⟨a5, c5, rfl⟩ := h12.isS
    refine shN E (o_st (v := .slice a5 l2.length c5) Try.sizeOf22 ((g1.trN t10).tr t11 (nt_snd rfl)) (E.ev rfl) (E.ev rfl) (Nat.le_of_ble_eq_true rfl) (by intro u hu; simp [Value.cells] at hu; subst hu; rfl) rfl) rfl rfl ?_
    rintro _ s12 ⟨o12, t12⟩
    refine shN E (o_st (v := .int .i64 z0) Try.sizeOf3 (((g3.trN t10).tr t11 (nt_snd rfl)).tr t12 (nt_snd rfl)) (E.ev rfl) (E.ev rfl) (Nat.le_of_ble_eq_true rfl) (by intro u hu; simp [Value.cells] at hu; subst hu; rfl) rfl) rfl rfl ?_
    rintro _ s13 ⟨o13, t13⟩
    refine GL_nil ?_
    refine ebn ?_
    exact ⟨rfl, s13, rfl, ⟨_, o12.tr t13 (nt_snd rfl), (h12.tr t12 (nt_snd rfl)).tr t13 (nt_snd rfl), o13⟩,
      ((t10.no.trans (t11.mono (by intro t h; subst h; rfl))).trans (t12.mono (by intro t h; subst h; rfl))).trans (t13.mono (by intro t h; subst h; rfl))⟩
  · rintro D' s6 ⟨w, g1, g2, g3⟩ t6 hD
    have E : En [{ target := .collected D', args := #[] }] 22 { a with defers := { target := .collected D', args := #[] } :: a.defers } _ := ⟨E.size, by simp [E.defs], E.get⟩
    refine ebn ?_
    refine tgn ?_
    refine G_seq ?_
    refine G_drw k (by rfl) [0, 1, 2, 3] (by kernel_rfl) ?_
    intro s7 t7
    have g1 := g1.trN t7
    have g2 := g2.trN t7
    have g3 := g3.trN t7
    refine dr E rfl (fun s' t => o_ld Try.isAgg22 (E.ev rfl) (((g1.trN t).cell _).trans rfl)) rfl rfl rfl rfl fun a E => ?_
    refine dr E rfl (fun s' t => o_ld Try.isAgg3 (E.ev rfl) (((g3.trN t).cell _).trans rfl)) rfl rfl rfl rfl fun a E => ?_
    refine dp E rfl (fun w => o_as (E.ev rfl)) rfl rfl rfl fun a E => ?_
    refine dp E rfl (fun w => o_as (E.ev rfl)) rfl rfl rfl fun a E => ?_
    refine gd_nil ?_
    refine tgn ?_
    refine G_ret ?_
    cases hm
    have T6 : Tr No s s7 := (T4.step hk t6 (fun t h => .inr (h.elim (fun h => Nat.le_of_eq (Eq.symm h)) (fun h => by rw [show t.1 = k + 1 from h]; omega)))).stepN t7
    refine finD E (hD.trN t7) fun s' t => ?_
    have hkk : k ≠ k + 1 := by omega
    obtain ⟨s8, e8, g4, t8⟩ := (g2.tr t (nt_fst hkk)).rt tr
    exact ⟨_, s8, e8, res2 E rfl rfl rfl, (T6.step hk t (by intro t h; subst h; exact .inr (Nat.le_succ _))).step hk t8 (by intro t h; subst h; exact .inr (Nat.le_refl _)), _, rfl, g4⟩
end Go.Proofs.Ytdkfdmalbbfbmaa
