/- The sum of words. -/
import Derived.Test.YtdkfdmalbbfbmaaD1
import Derived.Test.YtdkfdmalbbfbmaaD2
namespace Go.Proofs.Ytdkfdmalbbfbmaa
open Go
set_option maxRecDepth 4000

/-- A byte into the sum. -/
noncomputable def c98 (tab : List Int) (x b : Int) : Option Int :=
  ob (gd (decide (0 ≤ IntKind.wrap .u8 (BitVec.ofInt (IntKind.bits .u8) (IntKind.wrap .u8 x) ^^^ BitVec.ofInt (IntKind.bits .u8) b).toNat) && decide (IntKind.wrap .u8 (BitVec.ofInt (IntKind.bits .u8) (IntKind.wrap .u8 x) ^^^ BitVec.ofInt (IntKind.bits .u8) b).toNat < 256)) (some ())) fun _ =>
  ob (gt tab (IntKind.wrap .u8 (BitVec.ofInt (IntKind.bits .u8) (IntKind.wrap .u8 x) ^^^ BitVec.ofInt (IntKind.bits .u8) b).toNat)) fun z =>
  some (IntKind.wrap .u32 (BitVec.ofInt (IntKind.bits .u32) z ^^^ BitVec.ofInt (IntKind.bits .u32) (Int.fdiv x (2 ^ min (Int.toNat 8) (IntKind.bits .u32)))).toNat)
noncomputable def m_98 (xs : List Int) : Option Int :=
  ob m_103 fun tab => ob (m_99 (c98 tab) xs 4294967295) fun x => some (IntKind.wrap .u32 (BitVec.ofInt (IntKind.bits .u32) (IntKind.max .u32) ^^^ BitVec.ofInt (IntKind.bits .u32) x).toNat)

theorem ok_98 (s : St) {x0 : List Int} {b1 : Nat} {w1 : Value} (h1 : Sl kU s w1 x0) (o1 : Stay s b1 #[w1]) {r0y : Int} (hm : m_98 x0 = some r0y) :
    Ok Try.prog 98 ([.func (.func 99) #[] #[.pointer (some ⟨b1, 0, none⟩)]] : List Value).toArray s fun v s' => Tr No s s' ∧ v = .int .u32 r0y := by
  unfold m_98 at hm
  obtain ⟨k, hk⟩ := s.fresh
  refine ok_ofD (n := 22) _ Try.func98 rfl _ rfl rfl fun a E => ?_
  refine G_seq ?_
  refine G_region ?_
  refine sd E (o_as (E.ev rfl)) rfl rfl rfl fun a E => ?_
  refine GL_nil ?_
  refine tgn ?_
  refine G_seq ?_
  refine G_region ?_
  obtain ⟨tab, hx1, hm⟩ := ob_some hm
  refine sh E (o_ok Try.call103 (E.evs rfl) (E.ev rfl) (ok_103 _ hx1)) rfl rfl rfl ?_
  rintro a _ s1 ⟨t1, bt, rfl, ot, lt⟩ E
  refine sh E (o_al (k, 1) Try.zeroValue143) rfl rfl rfl ?_
  rintro a _ s2 ⟨b2, rfl, o2, t2⟩ E
  refine shN E (o_st (v := .pointer (some ⟨bt, 0, none⟩)) Try.sizeOf143 o2 (E.ev rfl) (E.ev rfl) (Nat.le_of_ble_eq_true rfl) (by intro u hu; simp [Value.cells] at hu; subst hu; rfl) rfl) rfl rfl ?_
  rintro _ s3 ⟨o3, t3⟩
  refine GL_nil ?_
  refine tgn ?_
  refine G_seq ?_
  refine G_region ?_
  refine sh E (o_al (k, 2) Try.zeroValue122) rfl rfl rfl ?_
  rintro a _ s4 ⟨b3, rfl, o4, t4⟩ E
  refine shN E (o_st (v := .int .u32 4294967295) Try.sizeOf122 o4 (E.ev rfl) (E.ev rfl) (Nat.le_of_ble_eq_true rfl) (by intro u hu; simp [Value.cells] at hu; subst hu; rfl) rfl) rfl rfl ?_
  rintro _ s5 ⟨o5, t5⟩
  refine GL_nil ?_
  refine tgn ?_
  refine G_seq ?_
  refine G_seq ?_
  refine G_region ?_
  refine sd E (o_mv (E.ev rfl)) rfl rfl rfl fun a E => ?_
  refine GL_nil ?_
  refine tgn ?_
  refine G_block ?_
  obtain ⟨x1, hx2, hm⟩ := ob_some hm
  have T5 : Tr No s s5 := ((((Tr.refl No s).stepN t1).stepN t2).step hk t3 (by intro t h; subst h; exact .inr (Nat.le_refl _))).stepN t4 |>.step hk t5 (by intro t h; subst h; exact .inr (Nat.le_refl _))
  have ot5 : Stay s5 bt (cA .u32 tab) := (((ot.tr t2).tr t3).tr t4).tr t5
  have o35 : Own (k, 1) s5 b2 #[.pointer (some ⟨bt, 0, none⟩)] 143 := (o3.trN t4).tr t5 (nt_snd rfl)
  refine G_range (E.ev (x := .tmp 7) rfl) Try.call99 (k + 1) k (by omega) (fun st s' => Own (k, 2) s' b3 #[.int .u32 st] 122 ∧ Own (k, 1) s' b2 #[.pointer (some ⟨bt, 0, none⟩)] 143 ∧ Stay s' bt (cA .u32 tab)) (c98 tab) (fun b => [.int .u8 b]) (fun _ _ => True) (fun _ _ _ _ _ _ => trivial) (· = ((k, 2) : Tg))
    (fun i h => by injection h with h _; omega) ?_ ⟨b3, 2, o5.1⟩ 4294967295 x1 ⟨o5, o35, ot5⟩ (fun _ => rfl) ?_ ?_ ?_
  · exact fun k' hk' st s s' h t => ⟨h.1.tr t (nr (Ne.symm hk')), h.2.1.tr t (nr (Ne.symm hk')), h.2.2.tr t⟩
  · intro yv J' q' s6 t6 hl hy hj
    exact ok_99 s6 (((h1.tr T5).tr t6)) ((o1.tr T5).tr t6) (c98 tab) yv J' q' hl (fun st z0 st' s hj hc => hy st z0 st' s trivial hj hc) hj hx2
  · rintro l st x st' s6 t6 _ ⟨p1, p2, p3⟩ hc
    have E1 := E.round1 (p := 8) (v := .int .u8 x) rfl
    refine G_region ?_
    refine sd E1 (o_as (E1.ev rfl)) rfl rfl rfl fun a E => ?_
    refine GL_nil ?_
    refine ctn ?_
    refine ⟨s6, rfl, Tr.refl _ _, fun s7 t7 => ?_⟩
    have p1 := p1.tr t7 (nr (by omega))
    have p2 := p2.tr t7 (nr (by omega))
    have p3 := p3.tr t7
    unfold c98 at hc
    refine G_block ?_
    refine G_drw k (by rfl) [0, 1, 2, 3, 4, 5, 6, 7, 8, 9, 10, 11] (by kernel_rfl) ?_
    intro s8 t8
    have p1 := p1.trN t8
    have p2 := p2.trN t8
    have p3 := p3.tr t8
    refine dr E rfl (fun s' t => o_ld Try.isAgg143 (E.ev rfl) (((p2.trN t).cell _).trans rfl)) rfl rfl rfl rfl fun a E => ?_
    refine dr E rfl (fun s' t => o_ld Try.isAgg122 (E.ev rfl) (((p1.trN t).cell _).trans rfl)) rfl rfl rfl rfl fun a E => ?_
    refine dp E rfl (fun w => o_cv Try.underlying122 Try.underlying5 (E.ev rfl)) rfl rfl rfl fun a E => ?_
    refine dp E rfl (fun w => o_mv (E.ev rfl)) rfl rfl rfl fun a E => ?_
    refine dp E rfl (fun w => o_bi (E.ev rfl) (E.ev rfl) rfl) rfl rfl rfl fun a E => ?_
    refine dp E rfl (fun w => o_nc (E.ev rfl)) rfl rfl rfl fun a E => ?_
    obtain ⟨_, hx3, hc⟩ := ob_some hc
    refine dp E rfl (fun w => o_ixa Try.underlying157 Try.sizeOf122 (E.ev rfl) (E.ev rfl) (ix_some hx3).1 (ix_some hx3).2) rfl rfl rfl fun a E => ?_
    obtain ⟨z, hx4, hc⟩ := ob_some hc
    refine dr E rfl (fun s' t => o_ld Try.isAgg122 (E.ev rfl) (((p3.tr t).cell _).trans (cA_get (gt_get hx4)))) rfl rfl rfl rfl fun a E => ?_
    refine dr E rfl (fun s' t => o_ld Try.isAgg122 (E.ev rfl) (((p1.trN t).cell _).trans rfl)) rfl rfl rfl rfl fun a E => ?_
    refine dp E rfl (fun w => o_shr (E.ev rfl) (E.ev rfl) rfl) rfl rfl rfl fun a E => ?_
    refine dp E rfl (fun w => o_bi (E.ev rfl) (E.ev rfl) rfl) rfl rfl rfl fun a E => ?_
    obtain rfl := Option.some.inj hc
    refine dlN E rfl (o_st (v := .int .u32 _) Try.sizeOf122 p1 (E.ev rfl) (E.ev rfl) (Nat.le_of_ble_eq_true rfl) (by intro u hu; simp [Value.cells] at hu; subst hu; rfl) rfl) rfl rfl rfl ?_
    rintro _ s9 ⟨o9, t9⟩
    refine gd_nil ?_
    refine ebn ?_
    exact ⟨rfl, s9, rfl, ⟨o9, p2.tr t9 (nt_snd rfl), p3.tr t9⟩, t8.no.trans t9⟩
  · rintro D' s6 ⟨p1, p2, p3⟩ t6 hD
    have E : En [{ target := .collected D', args := #[] }] 22 { a with defers := { target := .collected D', args := #[] } :: a.defers } _ := ⟨E.size, by simp [E.defs], E.get⟩
    refine ebn ?_
    refine tgn ?_
    refine G_seq ?_
    refine G_region ?_
    refine sd E (o_ld Try.isAgg122 (E.ev rfl) ((p1.cell _).trans rfl)) rfl rfl rfl fun a E => ?_
    refine sd E (o_un (E.ev rfl) (fun _ => rfl)) rfl rfl rfl fun a E => ?_
    refine sd E (o_as (E.ev rfl)) rfl rfl rfl fun a E => ?_
    refine GL_nil ?_
    refine tgn ?_
    refine G_ret ?_
    cases hm
    have T6 : Tr No s s6 := T5.step hk t6 (fun t h => .inr (h.elim (fun h => by subst h; exact Nat.le_refl _) (fun h => by rw [show t.1 = k + 1 from h]; omega)))
    exact finD E hD fun s' t => ⟨_, s', rfl, res1 E rfl rfl, T6.step hk t (by intro t h; subst h; exact .inr (Nat.le_succ _)), rfl⟩
end Go.Proofs.Ytdkfdmalbbfbmaa
