/- What lasts: a sync, a crash. -/
import Derived.Test.YtdkfdmalbbfbmaaC8
namespace Go.Proofs.Ytdkfdmalbbfbmaa
open Go Go.Maps
set_option maxRecDepth 4000

section
variable {s : St} {κ : Tg} {mb : Nat} {wr : List (Option Sec)} {ρ : Operand → Value} {d : Option Nat} {g : Option (Nat × Bool)} {t : Nat} {pos : String} {af : Array Edge} {x : Operand}
theorem o_clr (h : MapA κ s mb wr) (hx : ρ x = .map (some mb)) : Hv Try.prog ⟨none, .call ⟨.builtin .clear, #[x], #[67]⟩, t, pos, af, g⟩ ρ s fun _ s' => MapA κ s' mb (List.replicate wr.length none) ∧ Tr (· = κ) s s' := by
  obtain ⟨htag, hlen, D, ⟨es, clock, hb, hF, hs, hD⟩, hR⟩ := h
  have hlt := (Array.getElem?_eq_some_iff.1 hb).1
  have hd : Hd κ s mb (.map es clock) := ⟨htag, hb⟩
  refine hvo (v := .tuple #[]) (s.obj mb (.map #[] clock)) (OpTo_value (by intro c h; cases h) ?_) ⟨⟨htag, by simpa using hlen, .map [], ⟨#[], clock, World.putObj_heap_same hlt, ⟨by simp, MapKept.stamped_empty clock, by simp⟩, Nat.zero_le _, rfl⟩, ⟨fun i => ?_, fun i xs h => ?_⟩⟩, Tr.obj htag _⟩
  · simp only [execOp, resolve, Sem.run_bind, Sem.run_pure, Result.andThen, invoke, builtin]
    simp [Builtin.clear_, hx, Sem.run_bind, run_underlying Try.underlying67, Result.andThen, getObj, setObj, Sem.run, hb, St.obj, World.putObj]
  · rw [wAt_none]; rfl
  · rw [wAt_none] at h; cases h
end

/-- What of the written lasts, one by one. -/
noncomputable def m_49b {σ : Type} (c : σ → Int → Option (σ × Bool)) (wr : List (Option Sec)) (l : List Int) : Int × List Sec × σ → Option (Lo (Int × List Sec × σ) (List Sec × σ)) := fun (j, ls, u) =>
  bif decide (j < (l.length : Int)) then ob (gt l j) fun i => ob (c u i) fun (u', b) => some (.inl (IntKind.wrap .i64 (j + 1), (bif b then ls.set i.toNat ((wAt wr i).getD Z8) else ls), u')) else some (.inr (ls, u))
noncomputable def m_49 {σ : Type} (c : σ → Int → Option (σ × Bool)) (D : Disk) (u : σ) : Option (Disk × σ) :=
  ob (loopO (m_49b c D.wr (dirty D.wr)) (0, D.lasts, u)) fun (ls, u') => some (⟨ls, List.replicate D.wr.length none⟩, u')

theorem ok_49 {σ : Type} (s : St) {k b : Nat} {D D' : Disk} (hd : DiskAt k s b D) (fv : Value) (J : σ → St → Prop) (q : Tg → Prop) (hqk : ∀ i, ¬ q (k, i)) (hJ : ∀ st s s', J st s → Tr No s s' → J st s') (hJk : ∀ st s s', J st s → Tr (Rt k) s s' → J st s')
    (c : σ → Int → Option (σ × Bool)) (hy : ∀ st z st' bb s, J st s → c st z = some (st', bb) → CallV Try.prog fv [.int .i64 z] s fun v s' => v = .bool bb ∧ J st' s' ∧ Tr q s s') {u u' : σ} (hj : J u s) (hm : m_49 c D u = some (D', u')) :
    Ok Try.prog 49 ([.pointer (some ⟨b, 0, none⟩), fv] : List Value).toArray s fun _ s' => DiskAt k s' b D' ∧ J u' s' ∧ Tr (Or (Rt k) q) s s' := by
  unfold m_49 at hm
  refine ok_of (n := 33) _ Try.func49 rfl _ rfl rfl fun a E => ?_
  refine G_seq ?_
  refine G_seq ?_
  refine G_region ?_
  refine sd E (o_mv (E.ev rfl)) rfl rfl rfl fun a E => ?_
  refine sh E (o_ok Try.call70 (E.evs rfl) (E.ev rfl) (ok_70 s hd)) rfl rfl rfl ?_
  rintro a v7 s1 ⟨t1, h7⟩ E
  refine sd E (o_lenS (xs := dirty D.wr) Try.underlying110 (E.ev rfl) h7.isS) rfl rfl rfl fun a E => ?_
  refine sd E (o_mv (E.ev rfl)) rfl rfl rfl fun a E => ?_
  refine GL_nil ?_
  refine tgn ?_
  obtain ⟨⟨ls1, u1⟩, hl, hm⟩ := ob_some hm
  have hm : some (Disk.mk ls1 (List.replicate D.wr.length none), u1) = some (D', u') := hm
  cases hm
  refine G_mid1 (fun a' w' => ∃ s', w' = s'.w ∧ Tr (Or (Rt k) q) s1 s' ∧ DiskAt k s' b ⟨ls1, D.wr⟩ ∧ J u' s' ∧ En [] 33 a' [(0, .pointer (some ⟨b, 0, none⟩))]) ?_ ?_
  · refine G_block ?_
    refine G_lp hl (fun st a' w' => ∃ j ls uu s', st = (j, ls, uu) ∧ w' = s'.w ∧ Tr (Or (Rt k) q) s1 s' ∧ DiskAt k s' b ⟨ls, D.wr⟩ ∧ J uu s' ∧ En [] 33 a' [(0, .pointer (some ⟨b, 0, none⟩)), (1, fv), (7, v7), (8, .int .i64 ((dirty D.wr).length : Int)), (9, .int .i64 j)])
      ⟨_, _, _, _, rfl, rfl, Tr.refl _ _, hd.trN t1, hJ _ _ _ hj t1, (((((E.nil.ad E rfl rfl).ad E rfl rfl).ad E rfl rfl).ad E rfl rfl).ad E rfl rfl)⟩ ?_
    rintro _ a _ x ⟨j, ls, uu, s2, rfl, rfl, t2, hd, hj, E⟩ hf
    dsimp only [m_49b] at hf
    have h7 := h7.tr t2
    refine G_seq ?_
    refine G_region ?_
    refine sd E (o_bi (E.ev rfl) (E.ev rfl) rfl) rfl rfl rfl fun a E => ?_
    refine GL_nil ?_
    refine tgn ?_
    refine G_seq ?_
    refine G_cond (E.ev rfl) (fun ht => ?_) (fun ht => ?_)
    · have hf := cT ht hf
      refine G_skip ?_
      refine tgn ?_
      obtain ⟨i, hi, hf⟩ := ob_some hf
      obtain ⟨⟨u2, bb⟩, hc, hf⟩ := ob_some hf
      obtain rfl := Option.some.inj hf
      obtain ⟨b3, p3, g3, h3⟩ := h7.gt hi
      have hmem : i ∈ dirty D.wr := by obtain ⟨_, h1, rfl⟩ := gt_some hi; exact List.getElem_mem _
      obtain ⟨i0, i1⟩ := wAt_lt (mem_dirty.1 hmem)
      refine G_seq ?_
      refine G_block ?_
      refine G_seq ?_
      refine G_region ?_
      refine sd E (o_ixg Try.underlying110 Try.sizeOf3 g3 (E.ev rfl) (E.ev rfl)) rfl rfl rfl fun a E => ?_
      refine sd E (o_ld Try.isAgg3 (E.ev rfl) h3.cell) rfl rfl rfl fun a E => ?_
      refine sd E (o_as (E.ev rfl)) rfl rfl rfl fun a E => ?_
      refine GL_nil ?_
      refine tgn ?_
      refine G_seq ?_
      refine G_region ?_
      refine sd E (o_mv (E.ev rfl)) rfl rfl rfl fun a E => ?_
      refine sd E (o_mv (E.ev rfl)) rfl rfl rfl fun a E => ?_
      refine sh E (hy _ _ _ _ _ hj hc _ _ _ _ _ _ _ _ _ (E.ev rfl) (E.evs rfl)) rfl rfl rfl ?_
      rintro a _ s3 ⟨rfl, hj3, t3⟩ E
      have hd := hd.tr t3 hqk
      refine GL_nil ?_
      refine tgn ?_
      refine G_cond (E.ev rfl) (fun hb => ?_) (fun hb => ?_)
      · subst hb
        obtain ⟨d0, lv, mb, n1, n2, d1, d2, d3⟩ := hd
        have hlt : i.toNat < ls.length := by have : D.wr.length = ls.length := d0; omega
        have hg : gt ls i = some (ls[i.toNat]'hlt) := by simp [gt, i0, hlt]
        refine G_drw k (by rfl) [0, 1, 2, 3, 4, 5, 6, 7, 8, 9, 10, 11, 12] (by kernel_rfl) ?_
        intro s4 t4
        have d1 := d1.trN t4
        have d2 := d2.trN t4
        have d3 := d3.trN t4
        obtain ⟨b5, p5, g5, _, _⟩ := d2.gt hg
        have hl8 : ((wAt D.wr i).getD Z8).length = 8 := by
          cases hw : wAt D.wr i with
          | none => rfl
          | some x => obtain ⟨_, _, _, _, hR⟩ := d3; exact (hR.val i x hw).1
        refine dp E rfl (fun w => o_mv (E.ev rfl)) rfl rfl rfl fun a E => ?_
        refine dp E rfl (fun w => o_nc (E.ev rfl)) rfl rfl rfl fun a E => ?_
        refine dp E rfl (fun w => o_fa Try.underlying69 rfl Try.sizeOf66 (E.ev rfl)) rfl rfl rfl fun a E => ?_
        refine dr E rfl (fun s' t => o_ld Try.isAgg66 (E.ev rfl) (((d1.trN t).cell _).trans rfl)) rfl rfl rfl rfl fun a E => ?_
        refine dp E rfl (fun w => o_mv (E.ev rfl)) rfl rfl rfl fun a E => ?_
        refine dp E rfl (fun w => o_mv (E.ev rfl)) rfl rfl rfl fun a E => ?_
        refine dp E rfl (fun w => o_nc (E.ev rfl)) rfl rfl rfl fun a E => ?_
        refine dp E rfl (fun w => o_fa Try.underlying69 rfl Try.sizeOf67 (E.ev rfl)) rfl rfl rfl fun a E => ?_
        refine dr E rfl (fun s' t => o_ld Try.isAgg67 (E.ev rfl) (((d1.trN t).cell _).trans rfl)) rfl rfl rfl rfl fun a E => ?_
        refine dp E rfl (fun w => o_mv (E.ev rfl)) rfl rfl rfl fun a E => ?_
        refine dr E rfl (fun s' t => o_lk1 (d3.trN t) (E.ev rfl) (E.ev rfl) i0 (show i < (D.wr.length : Int) by omega)) rfl rfl rfl rfl fun a E => ?_
        refine dp E rfl (fun w => o_ixg Try.underlying66 Try.sizeOf38 g5 (E.ev rfl) (E.ev rfl)) rfl rfl rfl fun a E => ?_
        refine dlN E rfl (o_ste (q := (wAt D.wr i).getD Z8) Try.sizeOf38 d2 g5 (E.ev rfl) (E.ev rfl) (fun s => ⟨hl8, rfl⟩)) rfl rfl rfl ?_
        rintro _ s5 ⟨d5, t5⟩
        have t45 : Tr (Rt k) s3 s5 := t4.no.trans (t5.mono (by intro t h; subst h; rfl))
        refine gd_nil ?_
        refine ebn ?_
        refine tgn ?_
        refine G_region ?_
        refine sd E (o_bi (E.ev rfl) (E.ev rfl) rfl) rfl rfl rfl fun a E => ?_
        refine sd E (o_mv (E.ev rfl)) rfl rfl rfl fun a E => ?_
        refine GL_nil ?_
        exact lpn ⟨_, _, _, s5, rfl, rfl, (t2.trans (t3.mono fun _ h => .inr h)).trans (t45.mono fun _ h => .inl h), ⟨by simpa using d0, lv, mb, n1, n2, d1.tr t5 (nt_snd rfl), d5, d3.tr t5 (nt_snd rfl)⟩, hJk _ _ _ hj3 t45, (((((E.nil.ad E rfl rfl).ad E rfl rfl).ad E rfl rfl).ad E rfl rfl).ad E rfl rfl)⟩
      · subst hb
        refine G_skip ?_
        refine ebn ?_
        refine tgn ?_
        refine G_region ?_
        refine sd E (o_bi (E.ev rfl) (E.ev rfl) rfl) rfl rfl rfl fun a E => ?_
        refine sd E (o_mv (E.ev rfl)) rfl rfl rfl fun a E => ?_
        refine GL_nil ?_
        exact lpn ⟨_, _, _, s3, rfl, rfl, t2.trans (t3.mono fun _ h => .inr h), hd, hj3, (((((E.nil.ad E rfl rfl).ad E rfl rfl).ad E rfl rfl).ad E rfl rfl).ad E rfl rfl)⟩
    · have hf := cF ht hf
      obtain rfl := Option.some.inj hf
      refine G_exit ?_
      refine tge ?_
      refine lpe fun hr => ?_
      cases hr
      refine ebk ?_
      refine ctn ?_
      exact ⟨s2, rfl, t2, hd, hj, E.nil.ad E rfl rfl⟩
  · rintro a _ ⟨s2, rfl, t2, ⟨d0, lv, mb, n1, n2, d1, d2, d3⟩, hj, E⟩
    refine tgn ?_
    refine G_region ?_
    refine sd E (o_mv (E.ev rfl)) rfl rfl rfl fun a E => ?_
    refine sd E (o_nc (E.ev rfl)) rfl rfl rfl fun a E => ?_
    refine sd E (o_fa Try.underlying69 rfl Try.sizeOf67 (E.ev rfl)) rfl rfl rfl fun a E => ?_
    refine sd E (o_ld Try.isAgg67 (E.ev rfl) ((d1.cell _).trans rfl)) rfl rfl rfl fun a E => ?_
    refine shN E (o_clr d3 (E.ev rfl)) rfl rfl ?_
    rintro _ s3 ⟨d4, t3⟩
    refine GL_nil ?_
    have t3' : Tr (Rt k) s2 s3 := t3.mono (by intro t h; subst h; rfl)
    exact fin0 E rfl ⟨⟨by simpa using d0, lv, mb, n1, n2, d1.tr t3 (nt_snd rfl), d2.tr t3 (nt_snd rfl), d4⟩, hJk _ _ _ hj t3', (t1.no.trans t2).trans (t3'.mono fun _ h => .inl h)⟩
end Go.Proofs.Ytdkfdmalbbfbmaa
