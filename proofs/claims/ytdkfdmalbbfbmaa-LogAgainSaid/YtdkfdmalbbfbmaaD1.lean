/- Models and walks, printed by a program of ours. -/
import Derived.Test.YtdkfdmalbbfbmaaC0
import Derived.Test.YtdkfdmalbbfbmaaB7
namespace Go.Proofs.Ytdkfdmalbbfbmaa
open Go
set_option maxRecDepth 4000
-- gimmal/sums.Of$1
noncomputable def m_99_2b {σ : Type} (c : σ → Int → Option σ) (x6 : Int) : (Int × (σ)) → Option (Lo (Int × (σ)) (Sum (Int × (σ)) (σ))) := fun (x9, x10) => bif decide (x9 < 64) then (ob (gd (!decide (x9 < 0)) (some ())) fun x11 => ob (c x10 (IntKind.wrap .u8 (Int.fdiv x6 (2 ^ min (Int.toNat x9) (IntKind.bits .u64))))) fun x12 => some (.inl (IntKind.wrap .i64 (x9 + 8), x12))) else (some (.inr (.inl (x9, x10))))
noncomputable def m_99_2k {σ : Type} (c : σ → Int → Option σ) (x4 : Int) : Sum (Int × (σ)) (σ) → Option (Lo (Int × (σ)) (Sum (Int × (σ)) (σ)))
  | .inl (x13, x14) => some (.inl (IntKind.wrap .i64 (x4 + 1), x14))
  | .inr y => some (.inr (.inr y))
noncomputable def m_99_1b {σ : Type} (c : σ → Int → Option σ) (x0 : List Int) : (Int × (σ)) → Option (Lo (Int × (σ)) (Sum (Int × (σ)) (σ))) := fun (x4, x5) => bif decide (x4 < (x0.length : Int)) then (ob (gt x0 x4) fun x6 => ob (loopO (m_99_2b c x6) (0, x5)) (m_99_2k c x4)) else (some (.inr (.inl (x4, x5))))
noncomputable def m_99_1k {σ : Type} (c : σ → Int → Option σ) : Sum (Int × (σ)) (σ) → Option (σ)
  | .inl (x15, x16) => some x16
  | .inr y => some y
noncomputable def m_99 {σ : Type} (c : σ → Int → Option σ) (x0 : List Int) (u0 : σ) : Option σ :=
  ob (loopO (m_99_1b c x0) (0, u0)) (m_99_1k c)
theorem ok_99 {σ : Type} (s : St) {b1 : Nat} {x0 : List Int} {w1 : Value} (h1 : Sl kU s w1 x0) (o1 : Stay s b1 #[w1]) (c : σ → Int → Option σ) (yv : Value) (J' : σ → St → Prop) (q' : Tg → Prop) (hl : ∀ k, (∀ b t, s.tag b = some t → t.1 < k) → ∀ st s s', J' st s → Tr (Rt k) s s' → J' st s')
    (hy : ∀ st z0 st' s, J' st s → c st z0 = some st' → CallV Try.prog yv [.int .u8 z0] s fun v s' => v = .bool true ∧ J' st' s' ∧ Tr q' s s') {u0 u1y : σ} (hj0 : J' u0 s) (hm : m_99 c x0 u0 = some u1y) :
    Ok Try.prog 99 ([yv, .pointer (some ⟨b1, 0, none⟩)] : List Value).toArray s fun _ s' => J' u1y s' ∧ Tr q' s s' := by
  unfold m_99 at hm
  obtain ⟨k, hk⟩ := s.fresh
  have hL : ∀ st s s', J' st s → Tr (Rt k) s s' → J' st s' := hl k hk
  refine ok_of (n := 24) _ Try.func99 rfl _ rfl rfl fun a E => ?_
  refine G_seq ?_
  refine G_region ?_
  refine sd E (o_ld Try.isAgg30 (E.ev rfl) ((o1.cell _).trans rfl)) rfl rfl rfl fun a E => ?_
  refine sd E (o_lenS (xs := x0) Try.underlying30 (E.ev rfl) h1.isS) rfl rfl rfl fun a E => ?_
  refine sd E (o_mv (E.ev rfl)) rfl rfl rfl fun a E => ?_
  refine GL_nil ?_
  refine tgn ?_
  obtain ⟨r1, hl1, hm⟩ := ob_some hm
  refine G_mid1 (fun a' w' => ∃ x2 x3 s', m_99_1k c (.inl (x2, x3)) = some u1y ∧ w' = s'.w ∧ Tr (Or q' (Rt k)) s s' ∧ J' x3 s' ∧ En [] 24 a' [(8, .int .i64 x2), (0, yv), (1, .pointer (some ⟨b1, 0, none⟩)), (6, w1), (7, .int .i64 (x0.length : Int))]) ?_ ?_
  · refine G_block ?_
    refine G_lp hl1 (fun st a' w' => ∃ x2 x3 s', st = (x2, x3) ∧ w' = s'.w ∧ Tr (Or q' (Rt k)) s s' ∧ J' x3 s' ∧ En [] 24 a' [(8, .int .i64 x2), (0, yv), (1, .pointer (some ⟨b1, 0, none⟩)), (6, w1), (7, .int .i64 (x0.length : Int))]) ⟨_, _, _, rfl, rfl, (Tr.refl _ _), hj0, (((((E.nil.ad E rfl rfl).ad E rfl rfl).ad E rfl rfl).ad E rfl rfl).ad E rfl rfl)⟩ ?_
    rintro _ a _ x ⟨x4, x5, s1, rfl, rfl, t1, hj1, E⟩ hf1
    dsimp only [m_99_1b] at hf1
    refine G_seq ?_
    refine G_region ?_
    refine sd E (o_bi (E.ev rfl) (E.ev rfl) rfl) rfl rfl rfl fun a E => ?_
    refine GL_nil ?_
    refine tgn ?_
    refine G_seq ?_
    refine G_cond (E.ev rfl) (fun ht => ?_) (fun ht => ?_)
    · have hf1 := cT ht hf1
      refine G_skip ?_
      refine tgn ?_
      refine G_seq ?_
      refine G_block ?_
      refine G_seq ?_
      refine G_region ?_
      obtain ⟨x6, hx1, hf1⟩ := ob_some hf1
      obtain ⟨b2, p1, g1, h2⟩ := (h1.tr t1).gt hx1
      refine sd E (o_ixg Try.underlying30 Try.sizeOf37 g1 (E.ev rfl) (E.ev rfl)) rfl rfl rfl fun a E => ?_
      refine sd E (o_ld Try.isAgg37 (E.ev rfl) h2.cell) rfl rfl rfl fun a E => ?_
      refine sd E (o_as (E.ev rfl)) rfl rfl rfl fun a E => ?_
      refine GL_nil ?_
      refine tgn ?_
      refine G_seq ?_
      refine G_region ?_
      refine sd E (o_as (E.ev rfl)) rfl rfl rfl fun a E => ?_
      refine GL_nil ?_
      refine tgn ?_
      obtain ⟨r2, hl2, hf1⟩ := ob_some hf1
      refine G_mid1 (fun a' w' => ∃ x7 x8 s', m_99_2k c x4 (.inl (x7, x8)) = some x ∧ w' = s'.w ∧ Tr (Or q' (Rt k)) s1 s' ∧ J' x8 s' ∧ En [] 24 a' [(5, .int .i64 x7), (0, yv), (1, .pointer (some ⟨b1, 0, none⟩)), (4, .int .u64 x6), (6, w1), (7, .int .i64 (x0.length : Int)), (8, .int .i64 x4), (9, .bool (decide (x4 < (x0.length : Int))))]) ?_ ?_
      · refine G_block ?_
        refine G_lp hl2 (fun st a' w' => ∃ x7 x8 s', st = (x7, x8) ∧ w' = s'.w ∧ Tr (Or q' (Rt k)) s1 s' ∧ J' x8 s' ∧ En [] 24 a' [(5, .int .i64 x7), (0, yv), (1, .pointer (some ⟨b1, 0, none⟩)), (4, .int .u64 x6), (6, w1), (7, .int .i64 (x0.length : Int)), (8, .int .i64 x4), (9, .bool (decide (x4 < (x0.length : Int))))]) ⟨_, _, _, rfl, rfl, (Tr.refl _ _), hj1, ((((((((E.nil.ad E rfl rfl).ad E rfl rfl).ad E rfl rfl).ad E rfl rfl).ad E rfl rfl).ad E rfl rfl).ad E rfl rfl).ad E rfl rfl)⟩ ?_
        rintro _ a _ x ⟨x9, x10, s2, rfl, rfl, t2, hj2, E⟩ hf2
        dsimp only [m_99_2b] at hf2
        refine G_seq ?_
        refine G_seq ?_
        refine G_region ?_
        refine sd E (o_mv (E.ev rfl)) rfl rfl rfl fun a E => ?_
        refine sd E (o_bi (E.ev rfl) (E.ev rfl) rfl) rfl rfl rfl fun a E => ?_
        refine GL_nil ?_
        refine tgn ?_
        refine G_cond (E.ev rfl) (fun ht => ?_) (fun ht => ?_)
        · have hf2 := cT ht hf2
          refine G_skip ?_
          refine tgn ?_
          refine G_seq ?_
          refine G_block ?_
          refine G_seq ?_
          refine G_region ?_
          refine sd E (o_mv (E.ev rfl)) rfl rfl rfl fun a E => ?_
          refine sd E (o_mv (E.ev rfl)) rfl rfl rfl fun a E => ?_
          refine sd E (o_mv (E.ev rfl)) rfl rfl rfl fun a E => ?_
          obtain ⟨x11, hx2, hf2⟩ := ob_some hf2
          refine sd E (o_shr (E.ev rfl) (E.ev rfl) (by simpa using (gd_some hx2).1)) rfl rfl rfl fun a E => ?_
          refine sd E (o_cv Try.underlying37 Try.underlying5 (E.ev rfl)) rfl rfl rfl fun a E => ?_
          obtain ⟨x12, hx3, hf2⟩ := ob_some hf2
          refine sh E (hy _ _ _ _ hj2 hx3 _ _ _ _ _ _ _ _ _ (E.ev rfl) (E.evs rfl)) rfl rfl rfl ?_
          rintro a _ s3 ⟨rfl, hj3, t3⟩ E
          refine sd E (o_not (E.ev rfl)) rfl rfl rfl fun a E => ?_
          refine GL_nil ?_
          refine tgn ?_
          refine G_cond (t := false) (E.ev rfl) nofun (fun _ => ?_)
          refine G_skip ?_
          refine ebn ?_
          refine tgn ?_
          refine G_region ?_
          refine sd E (o_mv (E.ev rfl)) rfl rfl rfl fun a E => ?_
          refine sd E (o_bi (E.ev rfl) (E.ev rfl) rfl) rfl rfl rfl fun a E => ?_
          refine sd E (o_as (E.ev rfl)) rfl rfl rfl fun a E => ?_
          refine GL_nil ?_
          obtain rfl := Option.some.inj hf2
          exact lpn ⟨_, _, _, rfl, rfl, (t2.trans (t3.mono fun _ h => .inl h)), hj3, ((((((((E.nil.ad E rfl rfl).ad E rfl rfl).ad E rfl rfl).ad E rfl rfl).ad E rfl rfl).ad E rfl rfl).ad E rfl rfl).ad E rfl rfl)⟩
        · have hf2 := cF ht hf2
          refine G_exit ?_
          refine tge ?_
          obtain rfl := Option.some.inj hf2
          refine lpe fun hr => ?_
          subst hr
          refine ebk ?_
          refine ctn ?_
          exact ⟨_, _, _, hf1, rfl, t2, hj2, ((((((((E.nil.ad E rfl rfl).ad E rfl rfl).ad E rfl rfl).ad E rfl rfl).ad E rfl rfl).ad E rfl rfl).ad E rfl rfl).ad E rfl rfl)⟩
      · rintro a _ ⟨x13, x14, s4, hf1, rfl, t4, hj4, E⟩
        dsimp only [m_99_2k] at hf1
        refine ebn ?_
        refine tgn ?_
        refine G_region ?_
        refine sd E (o_bi (E.ev rfl) (E.ev rfl) rfl) rfl rfl rfl fun a E => ?_
        refine sd E (o_mv (E.ev rfl)) rfl rfl rfl fun a E => ?_
        refine GL_nil ?_
        obtain rfl := Option.some.inj hf1
        exact lpn ⟨_, _, _, rfl, rfl, (t1.trans t4), hj4, (((((E.nil.ad E rfl rfl).ad E rfl rfl).ad E rfl rfl).ad E rfl rfl).ad E rfl rfl)⟩
    · have hf1 := cF ht hf1
      refine G_exit ?_
      refine tge ?_
      obtain rfl := Option.some.inj hf1
      refine lpe fun hr => ?_
      subst hr
      refine ebk ?_
      refine ctn ?_
      exact ⟨_, _, _, hm, rfl, t1, hj1, (((((E.nil.ad E rfl rfl).ad E rfl rfl).ad E rfl rfl).ad E rfl rfl).ad E rfl rfl)⟩
  · rintro a _ ⟨x15, x16, s5, hm, rfl, t5, hj5, E⟩
    dsimp only [m_99_1k] at hm
    cases hm
    exact fin0 E rfl ⟨hj5, ((Tr.refl q' s).step hk t5 (fun t h => h.elim .inl fun h => .inr (Nat.le_of_eq (Eq.symm h))))⟩

end Go.Proofs.Ytdkfdmalbbfbmaa
