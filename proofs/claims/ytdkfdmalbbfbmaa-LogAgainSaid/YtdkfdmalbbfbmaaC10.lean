/- A sync, a crash. -/
import Derived.Test.YtdkfdmalbbfbmaaC9
namespace Go.Proofs.Ytdkfdmalbbfbmaa
open Go Go.Maps
set_option maxRecDepth 4000

theorem callv_ok {P : Program} {f : FuncId} {cp args : List Value} {s : St} {R : Value → St → Prop} (hf : ∀ args w, (callFunc f args).run P w = .ok (.enter f args) w) (h : Ok P f (args ++ cp).toArray s R) : CallV P (.func (.func f) #[] cp.toArray) args s R :=
  fun _ _ _ _ _ _ _ _ _ hq ha => o_callv hf hq ha h

theorem callv_ok0 {P : Program} {f : FuncId} {args : List Value} {s : St} {R : Value → St → Prop} (hf : ∀ args w, (callFunc f args).run P w = .ok (.enter f args) w) (h : Ok P f args.toArray s R) : CallV P (.func (.func f) #[] #[]) args s R := by
  have h2 : Ok P f (args ++ []).toArray s R := by rw [List.append_nil]; exact h
  exact callv_ok (cp := []) hf h2
theorem CallV.mono {P : Program} {yv : Value} {args : List Value} {s : St} {R R' : Value → St → Prop} (h : CallV P yv args s R) (k : ∀ v s', R v s' → R' v s') : CallV P yv args s R' :=
  fun d q xs ts t pos af g ρ hq ha => OpW.mono (h d q xs ts t pos af g ρ hq ha) fun v _ ⟨s', h1, h2⟩ => ⟨s', h1, k v s' h2⟩
theorem ok_71 (s : St) {i : Int} : Ok Try.prog 71 ([.int .i64 i] : List Value).toArray s fun v s' => Tr No s s' ∧ v = .bool true := by
  refine ok_of (n := 3) _ Try.func71 rfl _ rfl rfl fun a E => ?_
  refine G_seq ?_
  refine G_region ?_
  refine sd E (o_as (E.ev rfl)) rfl rfl rfl fun a E => ?_
  refine GL_nil ?_
  refine tgn ?_
  refine G_seq ?_
  refine G_region ?_
  refine sd E (o_as (E.ev rfl)) rfl rfl rfl fun a E => ?_
  refine GL_nil ?_
  refine tgn ?_
  refine G_ret ?_
  exact fin1 E rfl rfl ⟨Tr.refl _ _, rfl⟩

noncomputable def m_51 (D : Disk) : Option Disk := ob (m_49 (fun (_ : Unit) _ => some ((), true)) D ()) fun r => some r.1
theorem ok_51 (s : St) {k b : Nat} {D D' : Disk} (hd : DiskAt k s b D) (hm : m_51 D = some D') :
    Ok Try.prog 51 ([.pointer (some ⟨b, 0, none⟩)] : List Value).toArray s fun _ s' => DiskAt k s' b D' ∧ Tr (Rt k) s s' := by
  unfold m_51 at hm
  obtain ⟨⟨D1, u1⟩, hl, hm⟩ := ob_some hm
  cases hm
  refine ok_of (n := 13) _ Try.func51 rfl _ rfl rfl fun a E => ?_
  refine G_seq ?_
  refine G_seq ?_
  refine G_region ?_
  refine sd E (o_mv (E.ev rfl)) rfl rfl rfl fun a E => ?_
  refine sd E (o_eqp Try.underlying24 (E.ev rfl) (E.ev rfl)) rfl rfl rfl fun a E => ?_
  refine GL_nil ?_
  refine tgn ?_
  refine G_cond (t := false) (E.ev rfl) nofun (fun _ => ?_)
  refine G_skip ?_
  refine tgn ?_
  refine G_seq ?_
  refine G_region ?_
  refine sd E (o_mv (E.ev rfl)) rfl rfl rfl fun a E => ?_
  have h71 : ∀ z s, CallV Try.prog (.func (.func 71) #[] #[]) [.int .i64 z] s fun v s' => Tr No s s' ∧ v = .bool true := fun z s => callv_ok0 Try.call71 (ok_71 s)
  have c49 := ok_49 s hd (.func (.func 71) #[] #[]) (fun (_ : Unit) _ => True) No (fun _ h => h) (fun _ _ _ _ _ => trivial) (fun _ _ _ _ _ => trivial) (fun (_ : Unit) _ => some ((), true))
    (fun st z st' bb s _ hc => by
      cases hc
      exact (h71 z s).mono fun v s' ⟨h2, h3⟩ => ⟨h3, trivial, h2⟩) trivial hl
  refine sh E (o_ok Try.call49 (E.evs rfl) (E.ev rfl) c49) rfl rfl rfl ?_
  rintro a _ s1 ⟨hd, _, t1⟩ E
  have t1 : Tr (Rt k) s s1 := t1.mono fun _ h => h.elim id fun h => h.elim
  refine GL_nil ?_
  refine tgn ?_
  obtain ⟨d0, lv, mb, n1, n2, d1, d2, d3⟩ := hd
  refine G_region ?_
  refine sd E (o_mv (E.ev rfl)) rfl rfl rfl fun a E => ?_
  refine sd E (o_nc (E.ev rfl)) rfl rfl rfl fun a E => ?_
  refine sd E (o_fa Try.underlying69 rfl Try.sizeOf2 (E.ev rfl)) rfl rfl rfl fun a E => ?_
  refine sd E (o_ld Try.isAgg2 (E.ev rfl) ((d1.cell _).trans rfl)) rfl rfl rfl fun a E => ?_
  refine sd E (o_bi (E.ev rfl) (E.ev rfl) rfl) rfl rfl rfl fun a E => ?_
  refine sd E (o_nc (E.ev rfl)) rfl rfl rfl fun a E => ?_
  refine sd E (o_fa Try.underlying69 rfl Try.sizeOf2 (E.ev rfl)) rfl rfl rfl fun a E => ?_
  refine shN E (o_st (v := .int .i64 _) Try.sizeOf2 d1 (E.ev rfl) (E.ev rfl) (Nat.le_of_ble_eq_true rfl) (by intro u hu; simp [Value.cells] at hu; subst hu; rfl) rfl) rfl rfl ?_
  rintro _ s2 ⟨h5, t5⟩
  refine GL_nil ?_
  exact fin0 E rfl ⟨⟨d0, lv, mb, n1, _, h5, d2.tr t5 (nt_snd rfl), d3.tr t5 (nt_snd rfl)⟩, t1.trans (t5.mono (by intro t h; subst h; rfl))⟩

theorem ok_19 {σ : Type} (s : St) {k b : Nat} {D D' : Disk} (hd : DiskAt k s b D) (fv : Value) (J : σ → St → Prop) (q : Tg → Prop) (hqk : ∀ i, ¬ q (k, i)) (hJ : ∀ st s s', J st s → Tr No s s' → J st s') (hJk : ∀ st s s', J st s → Tr (Rt k) s s' → J st s')
    (c : σ → Int → Option (σ × Bool)) (hy : ∀ st z st' bb s, J st s → c st z = some (st', bb) → CallV Try.prog fv [.int .i64 z] s fun v s' => v = .bool bb ∧ J st' s' ∧ Tr q s s') {u u' : σ} (hj : J u s) (hm : m_49 c D u = some (D', u')) :
    Ok Try.prog 19 ([.pointer (some ⟨b, 0, none⟩), fv] : List Value).toArray s fun _ s' => DiskAt k s' b D' ∧ J u' s' ∧ Tr (Or (Rt k) q) s s' := by
  refine ok_of (n := 9) _ Try.func19 rfl _ rfl rfl fun a E => ?_
  refine G_seq ?_
  refine G_region ?_
  refine sd E (o_mv (E.ev rfl)) rfl rfl rfl fun a E => ?_
  refine sd E (o_nep Try.underlying24 (E.ev rfl) (E.ev rfl)) rfl rfl rfl fun a E => ?_
  refine GL_nil ?_
  refine tgn ?_
  refine G_cond (t := true) (E.ev rfl) (fun _ => ?_) nofun
  refine G_region ?_
  refine sd E (o_mv (E.ev rfl)) rfl rfl rfl fun a E => ?_
  refine sd E (o_mv (E.ev rfl)) rfl rfl rfl fun a E => ?_
  refine sh E (o_ok Try.call49 (E.evs rfl) (E.ev rfl) (ok_49 s hd fv J q hqk hJ hJk c hy hj hm)) rfl rfl rfl ?_
  rintro a _ s1 ⟨hd, hj, t1⟩ E
  refine GL_nil ?_
  exact fin0 E rfl ⟨hd, hj, t1⟩
end Go.Proofs.Ytdkfdmalbbfbmaa
