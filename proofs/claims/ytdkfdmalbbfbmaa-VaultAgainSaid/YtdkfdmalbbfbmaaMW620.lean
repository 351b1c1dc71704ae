/- What lasts of a crash: the law's closure; the crash by it. -/
import Derived.Test.YtdkfdmalbbfbmaaMW617
/- What lasts of a crash: the law's closure; the crash by it. -/
namespace Go.Proofs.Ytdkfdmalbbfbmaa
open Go Go.Maps
set_option maxRecDepth 4000

def cK (keep : List Bool) (x : Int) (_ : Int) : Option (Int × Bool) :=
  bif decide (IntKind.wrap .i64 (x + 1) ≤ (keep.length : Int)) then ob (gt keep (IntKind.wrap .i64 (IntKind.wrap .i64 (x + 1) - 1))) fun b => some (IntKind.wrap .i64 (x + 1), b) else some (IntKind.wrap .i64 (x + 1), false)
theorem ok_50 (s : St) {κ : Tg} {b1 b2 : Nat} {x : Int} {w1 : Value} {keep : List Bool} (o1 : Own κ s b1 #[.int .i64 x] 3) (o2 : Stay s b2 #[w1]) (h1 : Sl kBool s w1 keep) {i x' : Int} {bb : Bool} (hm : cK keep x i = some (x', bb)) :
    Ok Try.prog 50 ([.int .i64 i, .pointer (some ⟨b1, 0, none⟩), .pointer (some ⟨b2, 0, none⟩)] : List Value).toArray s fun v s' => v = .bool bb ∧ Own κ s' b1 #[.int .i64 x'] 3 ∧ Tr (· = κ) s s' := by
  unfold cK at hm
  refine ok_of (n := 18) _ Try.func50 rfl _ rfl rfl fun a E => ?_
  refine G_seq ?_
  refine G_region ?_
  refine sd E (o_as (E.ev rfl)) rfl rfl rfl fun a E => ?_
  refine GL_nil ?_
  refine tgn ?_
  refine G_seq ?_
  refine G_region ?_
  refine sd E (o_ld Try.isAgg3 (E.ev rfl) ((o1.cell _).trans rfl)) rfl rfl rfl fun a E => ?_
  refine sd E (o_bi (E.ev rfl) (E.ev rfl) rfl) rfl rfl rfl fun a E => ?_
  refine shN E (o_st (o := 0) (cs' := #[.int .i64 (IntKind.wrap .i64 (x + 1))]) (v := .int .i64 (IntKind.wrap .i64 (x + 1))) Try.sizeOf3 o1 (E.ev rfl) (E.ev rfl) (Nat.le_of_ble_eq_true rfl) (one_cells rfl) rfl) rfl rfl ?_
  rintro _ s1 ⟨o3, t1⟩
  have o2 := o2.tr t1
  have h1 := h1.tr t1
  refine GL_nil ?_
  refine tgn ?_
  refine G_seq ?_
  have hx : x' = IntKind.wrap .i64 (x + 1) := by
    cases hc : decide (IntKind.wrap .i64 (x + 1) ≤ (keep.length : Int)) with
    | true => obtain ⟨z, _, hm⟩ := ob_some (cT hc hm); cases hm; rfl
    | false => have := cF hc hm; cases this; rfl
  refine G_regm (fun a' w' => w' = s1.w ∧ En [] 18 a' [(4, .bool bb)]) ?_ ?_
  · refine sd E (o_ld Try.isAgg3 (E.ev rfl) ((o3.cell _).trans rfl)) rfl rfl rfl fun a E => ?_
    refine sd E (o_ld Try.isAgg44 (E.ev rfl) ((o2.cell _).trans rfl)) rfl rfl rfl fun a E => ?_
    refine sd E (o_lenS (xs := keep) Try.underlying44 (E.ev rfl) h1.isS) rfl rfl rfl fun a E => ?_
    refine sd E (o_bi (E.ev rfl) (E.ev rfl) rfl) rfl rfl rfl fun a E => ?_
    refine sd E (o_mv (E.ev rfl)) rfl rfl rfl fun a E => ?_
    refine bcase (E.ev (x := .tmp 11) rfl) (fun ht => ?_) (fun ht => ?_)
    · have hm := cT ht hm
      obtain ⟨z, hz, hm⟩ := ob_some hm
      cases hm
      obtain ⟨b, o, g, h2⟩ := h1.gt hz
      rw [ht] at E
      refine sd E (o_ld Try.isAgg44 (E.ev rfl) ((o2.cell _).trans rfl)) rfl rfl rfl fun a E => ?_
      refine sd E (o_ld Try.isAgg3 (E.ev rfl) ((o3.cell _).trans rfl)) rfl rfl rfl fun a E => ?_
      refine sd E (o_bi (E.ev rfl) (E.ev rfl) rfl) rfl rfl rfl fun a E => ?_
      refine sd E (o_ixg Try.underlying44 Try.sizeOf4 g (E.ev rfl) (E.ev rfl)) rfl rfl rfl fun a E => ?_
      refine sd E (o_ld Try.isAgg4 (E.ev rfl) h2.cellB) rfl rfl rfl fun a E => ?_
      refine sd E (o_pickT (E.ev rfl) (E.ev rfl)) rfl rfl rfl fun a E => ?_
      refine sd E (o_as (E.ev rfl)) rfl rfl rfl fun a E => ?_
      exact GL_nil ⟨rfl, E.nil.ad E rfl rfl⟩
    · have hm := cF ht hm
      cases hm
      rw [ht] at E
      refine sk E rfl rfl rfl fun a E => ?_
      refine sk E rfl rfl rfl fun a E => ?_
      refine sk E rfl rfl rfl fun a E => ?_
      refine sk E rfl rfl rfl fun a E => ?_
      refine sk E rfl rfl rfl fun a E => ?_
      refine sd E (o_pickF (E.ev rfl) (E.ev rfl)) rfl rfl rfl fun a E => ?_
      refine sd E (o_as (E.ev rfl)) rfl rfl rfl fun a E => ?_
      exact GL_nil ⟨rfl, E.nil.ad E rfl rfl⟩
  · rintro a _ ⟨rfl, E⟩
    refine tgn ?_
    refine G_ret ?_
    subst hx
    exact fin1 E rfl rfl ⟨rfl, o3, t1⟩

theorem ok_20 (s : St) (tr : Tg) {x0 : List Bool} {w1 : Value} (h1 : Sl kBool s w1 x0) :
    Ok Try.prog 20 ([w1] : List Value).toArray s fun v s' => Tr No s s' ∧ ∃ b1 b2 w2, v = .func (.func 50) #[] #[.pointer (some ⟨b1, 0, none⟩), .pointer (some ⟨b2, 0, none⟩)] ∧ Own tr s' b1 #[.int .i64 0] 3 ∧ Stay s' b2 #[w2] ∧ Sl kBool s' w2 x0 := by
  obtain ⟨κ, hk⟩ := s.fresh
  refine ok_of (n := 5) _ Try.func20 rfl _ rfl rfl fun a E => ?_
  refine G_seq ?_
  refine G_region ?_
  obtain ⟨a1, c1, rfl⟩ := h1.isS
  refine sh E (o_box (E.ev rfl)) rfl rfl rfl ?_
  rintro a _ s1 ⟨b1, rfl, o1, t1⟩ E
  refine sd E (o_as (E.ev rfl)) rfl rfl rfl fun a E => ?_
  refine GL_nil ?_
  refine tgn ?_
  refine G_seq ?_
  refine G_region ?_
  refine sh E (o_al (κ, 1) Try.zeroValue3) rfl rfl rfl ?_
  rintro a _ s2 ⟨b2, rfl, o2, t2⟩ E
  refine shN E (o_st (o := 0) (cs' := #[.int .i64 0]) (v := .int .i64 0) Try.sizeOf3 o2 (E.ev rfl) (E.ev rfl) (Nat.le_of_ble_eq_true rfl) (one_cells rfl) rfl) rfl rfl ?_
  rintro _ s3 ⟨o3, t3⟩
  refine GL_nil ?_
  refine tgn ?_
  refine G_seq ?_
  refine G_region ?_
  refine sd E (o_mf (E.evs rfl)) rfl rfl rfl fun a E => ?_
  refine sd E (o_as (E.ev rfl)) rfl rfl rfl fun a E => ?_
  refine GL_nil ?_
  refine tgn ?_
  refine G_ret ?_
  obtain ⟨s4, e4, o4, t4⟩ := o3.rt tr
  rw [e4]
  have T2 : Tr No s s2 := t1.trans t2
  exact fin1 E rfl rfl ⟨(T2.step hk t3 (by intro t h; subst h; exact .inr (Nat.le_refl _))).step hk t4 (by intro t h; subst h; exact .inr (Nat.le_refl _)), b2, b1, _, rfl, o4, ((o1.tr t2).tr t3).tr t4, (((h1.tr t1).tr t2).tr t3).tr t4⟩

noncomputable def mq_19 (D : Disk) (keep : List Bool) : Option Disk := ob (m_49 (cK keep) D 0) fun r => some r.1
theorem oq_19 (s : St) {k b : Nat} {D D' : Disk} {r j b1 b2 : Nat} {w2 : Value} {keep : List Bool} (hd : DiskAt k s b D) (o1 : Own (r, j) s b1 #[.int .i64 0] 3) (o2 : Stay s b2 #[w2]) (h2 : Sl kBool s w2 keep) (hne : k ≠ r) (hm : mq_19 D keep = some D') :
    Ok Try.prog 19 ([.pointer (some ⟨b, 0, none⟩), .func (.func 50) #[] #[.pointer (some ⟨b1, 0, none⟩), .pointer (some ⟨b2, 0, none⟩)]] : List Value).toArray s fun _ s' => Tr (Ws [k, r]) s s' ∧ DiskAt k s' b D' := by
  obtain ⟨⟨D1, u1⟩, hl, hm⟩ := ob_some hm
  cases hm
  refine (ok_19 (σ := Int) s hd _ (fun x s' => Own (r, j) s' b1 #[.int .i64 x] 3 ∧ Stay s' b2 #[w2] ∧ Sl kBool s' w2 keep) (Rt r) (fun i => nr hne) ?_ ?_ (cK keep) ?_ ⟨o1, o2, h2⟩ hl).mono ?_
  · rintro st s s' ⟨g1, g2, g3⟩ t
    exact ⟨g1.trN t, g2.tr t, g3.tr t⟩
  · rintro st s s' ⟨g1, g2, g3⟩ t
    exact ⟨g1.tr t (nr hne.symm), g2.tr t, g3.tr t⟩
  · rintro st z st' bb s ⟨g1, g2, g3⟩ hc
    have hcall : CallV Try.prog (.func (.func 50) #[] ([.pointer (some ⟨b1, 0, none⟩), .pointer (some ⟨b2, 0, none⟩)] : List Value).toArray) [.int .i64 z] s _ := callv_ok (args := [.int .i64 z]) (cp := [.pointer (some ⟨b1, 0, none⟩), .pointer (some ⟨b2, 0, none⟩)]) Try.call50 (ok_50 s g1 g2 g3 (i := z) hc)
    exact CallV.mono hcall fun v s' ⟨e, h, t⟩ => ⟨e, ⟨h, g2.tr t, g3.tr t⟩, t.mono (by intro t h; subst h; rfl)⟩
  · rintro v s' ⟨g1, _, t⟩
    exact ⟨t.w2, g1⟩
noncomputable def mq_22 (_ : LogM) (D : Disk) : Option Disk := m_51 D
theorem oq_22 (s : St) {k kd bd b : Nat} {L : LogM} {D D' : Disk} (hd : LogAt k bd s b L) (hD : DiskAt kd s bd D) (hne : k ≠ kd) (hm : mq_22 L D = some D') :
    Ok Try.prog 22 ([.pointer (some ⟨b, 0, none⟩)] : List Value).toArray s fun _ s' => Tr (Ws [kd]) s s' ∧ DiskAt kd s' bd D' := by
  obtain ⟨wv, fv, h1, h2, h3⟩ := hd
  refine ok_of (n := 9) _ Try.func22 rfl _ rfl rfl fun a E => ?_
  refine G_seq ?_
  refine G_region ?_
  refine sd E (o_mv (E.ev rfl)) rfl rfl rfl fun a E => ?_
  refine sd E (o_nep Try.underlying26 (E.ev rfl) (E.ev rfl)) rfl rfl rfl fun a E => ?_
  refine GL_nil ?_
  refine tgn ?_
  refine G_cond (t := true) (E.ev rfl) (fun _ => ?_) nofun
  refine G_region ?_
  refine sd E (o_mv (E.ev rfl)) rfl rfl rfl fun a E => ?_
  refine sd E (o_nc (E.ev rfl)) rfl rfl rfl fun a E => ?_
  refine sd E (o_fa Try.underlying73 rfl Try.sizeOf24 (E.ev rfl)) rfl rfl rfl fun a E => ?_
  refine sd E (o_ld Try.isAgg24 (E.ev rfl) ((h1.cell _).trans rfl)) rfl rfl rfl fun a E => ?_
  refine sh E (o_ok Try.call51 (E.evs rfl) (E.ev rfl) (oq_51 s hD hm)) rfl rfl rfl ?_
  rintro a _ s1 ⟨t1, g1⟩ E
  refine GL_nil ?_
  exact fin0 E rfl ⟨t1, g1⟩
end Go.Proofs.Ytdkfdmalbbfbmaa
