/- Devices: what a disk.Disk is; its plain functions. -/
import Derived.Test.YtdkfdmalbbfbmaaC2
namespace Go.Proofs.Ytdkfdmalbbfbmaa
open Go Go.Maps
set_option maxRecDepth 4000

section
variable {P : Program} {w : World} {ρ : Operand → Value} {d : Option Nat} {g : Option (Nat × Bool)} {t : Nat} {pos : String} {af : Array Edge} {x y : Operand} {T T' e : Nat} {p : Addr}
theorem run_eqp (hT : P.underlying T = some (.pointer e)) : (Op.equal T (.pointer (some p)) (.pointer none)).run P w = .ok false w := by
  obtain ⟨q, hq⟩ : ∃ q, Op.maxDepth = q + 1 := ⟨9999, rfl⟩
  unfold Op.equal
  rw [hq]
  unfold Op.equalIn
  simp only [Sem.run_bind, run_underlying hT, Result.andThen]
  rfl
theorem o_eqp (hT : P.underlying T = some (.pointer e)) (hx : ρ x = .pointer (some p)) (hy : ρ y = .pointer none) : OpTo P ⟨d, .binOp .eql T x y T', t, pos, af, g⟩ ρ w (.bool false) w :=
  OpTo_value (by intro c h; cases h) (by
    simp only [execOp, hx, hy]
    refine run_v _ ?_
    simp [eqGuard, binOp, run_eqp hT, Sem.run_bind, Result.andThen])
theorem o_nep (hT : P.underlying T = some (.pointer e)) (hx : ρ x = .pointer (some p)) (hy : ρ y = .pointer none) : OpTo P ⟨d, .binOp .neq T x y T', t, pos, af, g⟩ ρ w (.bool true) w :=
  OpTo_value (by intro c h; cases h) (by
    simp only [execOp, hx, hy]
    refine run_v _ ?_
    simp [eqGuard, binOp, run_eqp hT, Sem.run_bind, Result.andThen])
end

structure Disk where
  lasts : List Sec
  wr : List (Option Sec)
/-- At b lies k's device. -/
def DiskAt (k : Nat) (s : St) (b : Nat) (D : Disk) : Prop := D.wr.length = D.lasts.length ∧ ∃ lv mb n1 n2,
  Own (k, 0) s b #[lv, .map (some mb), .int .i64 n1, .int .i64 n2] 69 ∧ Bd (k, 1) kA8 38 0 s lv D.lasts ∧ MapA (k, 2) s mb D.wr
theorem DiskAt.tr {k : Nat} {s s' : St} {b : Nat} {D : Disk} {p : Tg → Prop} (h : DiskAt k s b D) (t : Tr p s s') (hp : ∀ i, ¬ p (k, i)) : DiskAt k s' b D := by
  obtain ⟨h0, lv, mb, n1, n2, h1, h2, h3⟩ := h
  exact ⟨h0, lv, mb, n1, n2, h1.tr t (hp 0), h2.tr t (hp 1), h3.tr t (hp 2)⟩
theorem DiskAt.trN {k : Nat} {s s' : St} {b : Nat} {D : Disk} (h : DiskAt k s b D) (t : Tr No s s') : DiskAt k s' b D := h.tr t fun _ h => h
theorem DiskAt.tag {k : Nat} {s : St} {b : Nat} {D : Disk} (h : DiskAt k s b D) : s.tag b = some (k, 0) := let ⟨_, _, _, _, _, h1, _⟩ := h; h1.1

theorem ok_32 (s : St) {k : Nat} {b : Nat} {D : Disk} (hd : DiskAt k s b D) :
    Ok Try.prog 32 ([.pointer (some ⟨b, 0, none⟩)] : List Value).toArray s fun v s' => Tr No s s' ∧ v = .int .i64 D.lasts.length := by
  obtain ⟨h0, lv, mb, n1, n2, h1, h2, h3⟩ := hd
  refine ok_of (n := 10) _ Try.func32 rfl _ rfl rfl fun a E => ?_
  refine G_seq ?_
  refine G_region ?_
  refine sd E (o_as (E.ev rfl)) rfl rfl rfl fun a E => ?_
  refine GL_nil ?_
  refine tgn ?_
  refine G_seq ?_
  refine G_seq ?_
  refine G_region ?_
  refine sd E (o_mv (E.ev rfl)) rfl rfl rfl fun a E => ?_
  refine sd E (o_eqp Try.underlying24 (E.ev rfl) (E.ev rfl)) rfl rfl rfl fun a E => ?_
  refine GL_nil ?_
  refine tgn ?_
  refine G_cond (t := false) (E.ev rfl) nofun (fun _ => ?_)
  refine G_skip ?_
  refine tgn ?_
  refine G_seq ?_
  refine G_region ?_
  refine sd E (o_mv (E.ev rfl)) rfl rfl rfl fun a E => ?_
  refine sd E (o_nc (E.ev rfl)) rfl rfl rfl fun a E => ?_
  refine sd E (o_fa Try.underlying69 rfl Try.sizeOf66 (E.ev rfl)) rfl rfl rfl fun a E => ?_
  refine sd E (o_ld Try.isAgg66 (E.ev rfl) ((h1.cell _).trans rfl)) rfl rfl rfl fun a E => ?_
  refine sd E (o_lenS (xs := D.lasts) Try.underlying66 (E.ev rfl) h2.isS) rfl rfl rfl fun a E => ?_
  refine sd E (o_as (E.ev rfl)) rfl rfl rfl fun a E => ?_
  refine GL_nil ?_
  refine tgn ?_
  refine G_ret ?_
  exact fin1 E rfl rfl ⟨Tr.refl _ _, rfl⟩

def there (D : Disk) (i : Int) : Bool := bif decide (i ≥ 0) then decide (i < (D.lasts.length : Int)) else false
theorem ok_41 (s : St) {k : Nat} {b : Nat} {D : Disk} (hd : DiskAt k s b D) {i : Int} :
    Ok Try.prog 41 ([.pointer (some ⟨b, 0, none⟩), .int .i64 i] : List Value).toArray s fun v s' => Tr No s s' ∧ v = .bool (there D i) := by
  refine ok_of (n := 13) _ Try.func41 rfl _ rfl rfl fun a E => ?_
  refine G_seq ?_
  refine G_region ?_
  refine sd E (o_as (E.ev rfl)) rfl rfl rfl fun a E => ?_
  refine GL_nil ?_
  refine tgn ?_
  refine G_seq ?_
  refine G_regm (fun a' w' => ∃ s', w' = s'.w ∧ Tr No s s' ∧ En [] 13 a' [(4, .bool (there D i))]) ?_ ?_
  · refine sd E (o_mv (E.ev rfl)) rfl rfl rfl fun a E => ?_
    refine sd E (o_bi (E.ev rfl) (E.ev rfl) rfl) rfl rfl rfl fun a E => ?_
    refine sd E (o_mv (E.ev rfl)) rfl rfl rfl fun a E => ?_
    refine bcase (E.ev (x := .tmp 7) rfl) (fun ht => ?_) (fun ht => ?_)
    · rw [ht] at E
      refine sd E (o_mv (E.ev rfl)) rfl rfl rfl fun a E => ?_
      refine sd E (o_mv (E.ev rfl)) rfl rfl rfl fun a E => ?_
      refine sh E (o_ok Try.call32 (E.evs rfl) (E.ev rfl) (ok_32 s hd)) rfl rfl rfl ?_
      rintro a _ s1 ⟨t1, rfl⟩ E
      refine sd E (o_bi (E.ev rfl) (E.ev rfl) rfl) rfl rfl rfl fun a E => ?_
      refine sd E (o_pickT (E.ev rfl) (E.ev rfl)) rfl rfl rfl fun a E => ?_
      refine sd E (o_as (E.ev rfl)) rfl rfl rfl fun a E => ?_
      exact GL_nil ⟨s1, rfl, t1, E.nil.ad E rfl (by unfold there; rw [ht]; rfl)⟩
    · rw [ht] at E
      refine sk E rfl rfl rfl fun a E => ?_
      refine sk E rfl rfl rfl fun a E => ?_
      refine sk E rfl rfl rfl fun a E => ?_
      refine sk E rfl rfl rfl fun a E => ?_
      refine sd E (o_pickF (E.ev rfl) (E.ev rfl)) rfl rfl rfl fun a E => ?_
      refine sd E (o_as (E.ev rfl)) rfl rfl rfl fun a E => ?_
      exact GL_nil ⟨s, rfl, Tr.refl _ _, E.nil.ad E rfl (by unfold there; rw [ht]; rfl)⟩
  · rintro a _ ⟨s1, rfl, t1, E⟩
    refine tgn ?_
    refine G_ret ?_
    exact fin1 E rfl rfl ⟨t1, rfl⟩

theorem there_some {D : Disk} {i : Int} (h : there D i = true) : 0 ≤ i ∧ i < D.lasts.length := by
  unfold there at h
  by_cases h0 : i ≥ 0
  · simp [h0] at h; exact ⟨h0, h⟩
  · simp [h0] at h

/-- What is read at i. -/
def rdD (D : Disk) (i : Int) : Sec := (wAt D.wr i).getD ((D.lasts[i.toNat]?).getD Z8)
def m_14 (D : Disk) (i : Int) : Option (Sec × Int) := bif there D i then some (rdD D i, 0) else some (Z8, 3)
def m_60 (D : Disk) (i : Int) (xs : Sec) : Option (Disk × Int) := bif there D i then some ({ D with wr := D.wr.set i.toNat (some xs) }, 0) else some (D, 3)

theorem ok_60 (s : St) {k : Nat} {b : Nat} {D D' : Disk} (hd : DiskAt k s b D) {i : Int} {xs : Sec} (hl : xs.length = 8) {e : Int} (hm : m_60 D i xs = some (D', e)) :
    Ok Try.prog 60 ([.pointer (some ⟨b, 0, none⟩), .int .i64 i, eA .u64 xs] : List Value).toArray s fun v s' => DiskAt k s' b D' ∧ Tr (Rt k) s s' ∧ v = .int .i64 e := by
  unfold m_60 at hm
  refine ok_of (n := 24) _ Try.func60 rfl _ rfl rfl fun a E => ?_
  refine G_seq ?_
  refine G_region ?_
  refine sh E (o_box (E.ev rfl)) rfl rfl rfl ?_
  rintro a _ s1 ⟨b1, rfl, o1, t1⟩ E
  refine sd E (o_as (E.ev rfl)) rfl rfl rfl fun a E => ?_
  refine GL_nil ?_
  refine tgn ?_
  refine G_seq ?_
  refine G_seq ?_
  refine G_region ?_
  refine sd E (o_mv (E.ev rfl)) rfl rfl rfl fun a E => ?_
  refine sd E (o_mv (E.ev rfl)) rfl rfl rfl fun a E => ?_
  have hd := hd.trN t1
  refine sh E (o_ok Try.call41 (E.evs rfl) (E.ev rfl) (ok_41 s1 hd)) rfl rfl rfl ?_
  rintro a _ s2 ⟨t2, rfl⟩ E
  have hd := hd.trN t2
  refine sd E (o_not (E.ev rfl)) rfl rfl rfl fun a E => ?_
  refine GL_nil ?_
  refine tgn ?_
  refine G_cond (E.ev rfl) (fun ht => ?_) (fun ht => ?_)
  · have ht : there D i = false := by simpa using ht
    have hm := cF ht hm
    cases hm
    refine G_seq ?_
    refine G_region ?_
    refine sd E (o_as (E.ev rfl)) rfl rfl rfl fun a E => ?_
    refine GL_nil ?_
    refine tgn ?_
    refine G_ret ?_
    refine tgr ?_
    exact fin1 E rfl rfl ⟨hd, (t1.trans t2).no, rfl⟩
  · have ht : there D i = true := by simpa using ht
    have hm := cT ht hm
    cases hm
    obtain ⟨p0, p1⟩ := there_some ht
    refine G_skip ?_
    refine tgn ?_
    obtain ⟨h0, lv, mb, n1, n2, h1, h2, h3⟩ := hd
    refine G_seq ?_
    refine G_drw k (by rfl) [0, 1, 2, 3, 4, 5, 6] (by kernel_rfl) ?_
    intro s3 t3
    have o1 := (o1.tr t2).tr t3
    have h1 := h1.trN t3
    have h2 := h2.trN t3
    have h3 := h3.trN t3
    refine dp E rfl (fun w => o_mv (E.ev rfl)) rfl rfl rfl fun a E => ?_
    refine dp E rfl (fun w => o_nc (E.ev rfl)) rfl rfl rfl fun a E => ?_
    refine dp E rfl (fun w => o_fa Try.underlying69 rfl Try.sizeOf67 (E.ev rfl)) rfl rfl rfl fun a E => ?_
    refine dr E rfl (fun s' t => o_ld Try.isAgg67 (E.ev rfl) (((h1.trN t).cell _).trans rfl)) rfl rfl rfl rfl fun a E => ?_
    refine dp E rfl (fun w => o_mv (E.ev rfl)) rfl rfl rfl fun a E => ?_
    refine dr E rfl (fun s' t => o_ldA Try.isAgg38 Try.sizeOf38 (E.ev rfl) hl (o1.tr t).cell) rfl rfl rfl rfl fun a E => ?_
    refine dlN E rfl (o_up h3 (E.ev rfl) (E.ev rfl) (E.ev rfl) hl p0 (by omega)) rfl rfl rfl ?_
    rintro _ s4 ⟨h4, t4⟩
    have h1 := h1.tr t4 (nt_snd rfl)
    have h2 := h2.tr t4 (nt_snd rfl)
    refine gd_nil ?_
    refine tgn ?_
    refine G_seq ?_
    refine G_region ?_
    refine sd E (o_mv (E.ev rfl)) rfl rfl rfl fun a E => ?_
    refine sd E (o_nc (E.ev rfl)) rfl rfl rfl fun a E => ?_
    refine sd E (o_fa Try.underlying69 rfl Try.sizeOf2 (E.ev rfl)) rfl rfl rfl fun a E => ?_
    refine sd E (o_ld Try.isAgg2 (E.ev rfl) ((h1.cell _).trans rfl)) rfl rfl rfl fun a E => ?_
    refine sd E (o_bi (E.ev rfl) (E.ev rfl) rfl) rfl rfl rfl fun a E => ?_
    refine sd E (o_nc (E.ev rfl)) rfl rfl rfl fun a E => ?_
    refine sd E (o_fa Try.underlying69 rfl Try.sizeOf2 (E.ev rfl)) rfl rfl rfl fun a E => ?_
    refine shN E (o_st (v := .int .i64 _) Try.sizeOf2 h1 (E.ev rfl) (E.ev rfl) (Nat.le_of_ble_eq_true rfl) (by intro u hu; simp [Value.cells] at hu; subst hu; rfl) rfl) rfl rfl ?_
    rintro _ s5 ⟨h5, t5⟩
    refine GL_nil ?_
    refine tgn ?_
    refine G_seq ?_
    refine G_region ?_
    refine sd E (o_as (E.ev rfl)) rfl rfl rfl fun a E => ?_
    refine GL_nil ?_
    refine tgn ?_
    refine G_ret ?_
    exact fin1 E rfl rfl ⟨⟨by simpa using h0, lv, mb, _, n2, h5, h2.tr t5 (nt_snd rfl), h4.tr t5 (nt_snd rfl)⟩, (((t1.trans t2).trans t3).no.trans (t4.mono (by intro t h; subst h; rfl))).trans (t5.mono (by intro t h; subst h; rfl)), rfl⟩
end Go.Proofs.Ytdkfdmalbbfbmaa
