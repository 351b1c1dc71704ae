/- Models and walks, printed by a program of ours. -/
import Derived.Test.YtdkfdmalbbfbmaaGreatMWL5
import Derived.Test.YtdkfdmalbbfbmaaGreatMWL4
/- Models and walks, printed by a program of ours. -/
namespace Go.Proofs.YtdkfdmalbbfbmaaGreat
open Go
set_option maxRecDepth 4000
-- gimmal/sums.Of$1
noncomputable def m_99_2b {σ : Type} (c : σ → Int → Option σ) (x6 : Int) : (Int × (σ)) → Option (Lo (Int × (σ)) (Sum (Int × (σ)) (σ))) := fun (x9, x10) => bif decide (x9 < 64) then (ob (gd (!decide (x9 < 0)) (some ())) fun x11 => ob (c x10 (IntKind.wrap .u8 (Int.fdiv x6 (2 ^ min (Int.toNat x9) (IntKind.bits .u64))))) fun x12 => some (.inl (IntKind.wrap .i64 (x9 + 8), x12))) else (some (.inr (.inl (x9, x10))))
noncomputable def m_99_2k {σ : Type} (c : σ → Int → Option σ) (x4 : Int) : Sum (Int × (σ)) (σ) → Option (Lo (Int × (σ)) (Sum (Int × (σ)) (σ)))
  | .inl (x13, x14) => some (.inl (IntKind.wrap .i64 (x4 + 1), x14))
  | .inr y => some (.inr (.inr y))
noncomputable def m_99_1b {σ : Type} (c : σ → Int → Option σ) (x0 : List Int) : (Int × (σ)) → Option (Lo (Int × (σ)) (Sum (Int × (σ)) (σ))) := fun (x4, x5) => bif decide (x4 < (x0.length : Int)) then (ob (gt x0 x4) fun x6 => ob (loopO (m_99_2b c x6) (0, x5)) (m_99_2k c x4)) else (some (.inr (.inl (x4, x5))))
noncomputable def m_99_1k {σ : Type} (c : σ → Int → Option σ) : Sum (Int × (σ)) (σ) → Option (σ)
  | .inl (x15, x16) => some x16
  | .inr y => some y
noncomputable def m_99 {σ : Type} (c : σ → Int → Option σ) (x0 : List Int) (u0 : σ) : Option σ :=
  ob (loopO (m_99_1b c x0) (0, u0)) (m_99_1k c)
theorem ok_99 {σ : Type} (s : St) {b1 : Nat} {x0 : List Int} {w1 : Value} (h1 : Sl kU s w1 x0) (o1 : Stay s b1 #[w1]) (c : σ → Int → Option σ) (yv : Value) (J' : σ → St → Prop) (q' : Tg → Prop) (hl : ∀ k, (∀ b t, s.tag b = some t → t.1 < k) → ∀ st s s', J' st s → Tr (Rt k) s s' → J' st s')
    (hy : ∀ st z0 st' s, J' st s → c st z0 = some st' → CallV Tryz.prog yv [.int .u8 z0] s fun v s' => v = .bool true ∧ J' st' s' ∧ Tr q' s s') {u0 u1y : σ} (hj0 : J' u0 s) (hm : m_99 c x0 u0 = some u1y) :
    Ok Tryz.prog 99 ([yv, .pointer (some ⟨b1, 0, none⟩)] : List Value).toArray s fun _ s' => J' u1y s' ∧ Tr q' s s' := by
  unfold m_99 at hm
  obtain ⟨k, hk⟩ := s.fresh
  have hL : ∀ st s s', J' st s → Tr (Rt k) s s' → J' st s' := hl k hk
  refine ok_of (n := 24) _ Tryz.func99 rfl _ rfl rfl fun a E => ?_
  refine G_seq ?_
  refine G_region ?_
  refine sd E (o_ld Tryz.isAgg36 (E.ev rfl) ((o1.cell _).trans rfl)) rfl rfl rfl fun a E => ?_
  refine sd E (o_lenS (xs := x0) Tryz.underlying36 (E.ev rfl) h1.isS) rfl rfl rfl fun a E => ?_
  refine sd E (o_mv (E.ev rfl)) rfl rfl rfl fun a E => ?_
  refine GL_nil ?_
  refine tgn ?_
  obtain ⟨r1, hl1, hm⟩ := ob_some hm
  refine G_mid1 (fun a' w' => ∃ x2 x3 s', m_99_1k c (.inl (x2, x3)) = some u1y ∧ w' = s'.w ∧ Tr (Or q' (Rt k)) s s' ∧ J' x3 s' ∧ En [] 24 a' [(8, .int .i64 x2), (0, yv), (1, .pointer (some ⟨b1, 0, none⟩)), (6, w1), (7, .int .i64 (x0.length : Int))]) ?_ ?_
  · refine G_block ?_
    refine G_lp hl1 (fun st a' w' => ∃ x2 x3 s', st = (x2, x3) ∧ w' = s'.w ∧ Tr (Or q' (Rt k)) s s' ∧ J' x3 s' ∧ En [] 24 a' [(8, .int .i64 x2), (0, yv), (1, .pointer (some ⟨b1, 0, none⟩)), (6, w1), (7, .int .i64 (x0.length : Int))]) ⟨_, _, _, rfl, rfl, (Tr.refl _ _), hj0, (((((E.nil.ad E rfl rfl).ad E rfl rfl).ad E rfl rfl).ad E rfl rfl).ad E rfl rfl)⟩ ?_
    rintro _ a _ x ⟨x4, x5, s1, rfl, rfl, t1, hj1, E⟩ hf1
    dsimp only [m_99_1b] at hf1
    refine G_seq ?_
    refine G_region ?_
    refine sd E (o_bi (E.ev rfl) (E.ev rfl) rfl) rfl rfl rfl fun a E => ?_
    refine GL_nil ?_
    refine tgn ?_
    refine G_seq ?_
    refine G_cond (E.ev rfl) (fun ht => ?_) (fun ht => ?_)
    · have hf1 := cT ht hf1
      refine G_skip ?_
      refine tgn ?_
      refine G_seq ?_
      refine G_block ?_
      refine G_seq ?_
      refine G_region ?_
      obtain ⟨x6, hx1, hf1⟩ := ob_some hf1
      obtain ⟨b2, p1, g1, h2⟩ := (h1.tr t1).gt hx1
      refine sd E (o_ixg Tryz.underlying36 Tryz.sizeOf39 g1 (E.ev rfl) (E.ev rfl)) rfl rfl rfl fun a E => ?_
      refine sd E (o_ld Tryz.isAgg39 (E.ev rfl) h2.cell) rfl rfl rfl fun a E => ?_
      refine sd E (o_as (E.ev rfl)) rfl rfl rfl fun a E => ?_
      refine GL_nil ?_
      refine tgn ?_
      refine G_seq ?_
      refine G_region ?_
      refine sd E (o_as (E.ev rfl)) rfl rfl rfl fun a E => ?_
      refine GL_nil ?_
      refine tgn ?_
      obtain ⟨r2, hl2, hf1⟩ := ob_some hf1
      refine G_mid1 (fun a' w' => ∃ x7 x8 s', m_99_2k c x4 (.inl (x7, x8)) = some x ∧ w' = s'.w ∧ Tr (Or q' (Rt k)) s1 s' ∧ J' x8 s' ∧ En [] 24 a' [(5, .int .i64 x7), (0, yv), (1, .pointer (some ⟨b1, 0, none⟩)), (4, .int .u64 x6), (6, w1), (7, .int .i64 (x0.length : Int)), (8, .int .i64 x4), (9, .bool (decide (x4 < (x0.length : Int))))]) ?_ ?_
      · refine G_block ?_
        refine G_lp hl2 (fun st a' w' => ∃ x7 x8 s', st = (x7, x8) ∧ w' = s'.w ∧ Tr (Or q' (Rt k)) s1 s' ∧ J' x8 s' ∧ En [] 24 a' [(5, .int .i64 x7), (0, yv), (1, .pointer (some ⟨b1, 0, none⟩)), (4, .int .u64 x6), (6, w1), (7, .int .i64 (x0.length : Int)), (8, .int .i64 x4), (9, .bool (decide (x4 < (x0.length : Int))))]) ⟨_, _, _, rfl, rfl, (Tr.refl _ _), hj1, ((((((((E.nil.ad E rfl rfl).ad E rfl rfl).ad E rfl rfl).ad E rfl rfl).ad E rfl rfl).ad E rfl rfl).ad E rfl rfl).ad E rfl rfl)⟩ ?_
        rintro _ a _ x ⟨x9, x10, s2, rfl, rfl, t2, hj2, E⟩ hf2
        dsimp only [m_99_2b] at hf2
        refine G_seq ?_
        refine G_seq ?_
        refine G_region ?_
        refine sd E (o_mv (E.ev rfl)) rfl rfl rfl fun a E => ?_
        refine sd E (o_bi (E.ev rfl) (E.ev rfl) rfl) rfl rfl rfl fun a E => ?_
        refine GL_nil ?_
        refine tgn ?_
        refine G_cond (E.ev rfl) (fun ht => ?_) (fun ht => ?_)
        · have hf2 := cT ht hf2
          refine G_skip ?_
          refine tgn ?_
          refine G_seq ?_
          refine G_block ?_
          refine G_seq ?_
          refine G_region ?_
          refine sd E (o_mv (E.ev rfl)) rfl rfl rfl fun a E => ?_
          refine sd E (o_mv (E.ev rfl)) rfl rfl rfl fun a E => ?_
          refine sd E (o_mv (E.ev rfl)) rfl rfl rfl fun a E => ?_
          obtain ⟨x11, hx2, hf2⟩ := ob_some hf2
          refine sd E (o_shr (E.ev rfl) (E.ev rfl) (by simpa using (gd_some hx2).1)) rfl rfl rfl fun a E => ?_
          refine sd E (o_cv Tryz.underlying39 Tryz.underlying5 (E.ev rfl)) rfl rfl rfl fun a E => ?_
          obtain ⟨x12, hx3, hf2⟩ := ob_some hf2
          refine sh E (hy _ _ _ _ hj2 hx3 _ _ _ _ _ _ _ _ _ (E.ev rfl) (E.evs rfl)) rfl rfl rfl ?_
          rintro a _ s3 ⟨rfl, hj3, t3⟩ E
          refine sd E (o_not (E.ev rfl)) rfl rfl rfl fun a E => ?_
          refine GL_nil ?_
          refine tgn ?_
          refine G_cond (t := false) (E.ev rfl) nofun (fun _ => ?_)
          refine G_skip ?_
          refine ebn ?_
          refine tgn ?_
          refine G_region ?_
          refine sd E (o_mv (E.ev rfl)) rfl rfl rfl fun a E => ?_
          refine sd E (o_bi (E.ev rfl) (E.ev rfl) rfl) rfl rfl rfl fun a E => ?_
          refine sd E (o_as (E.ev rfl)) rfl rfl rfl fun a E => ?_
          refine GL_nil ?_
          obtain rfl := Option.some.inj hf2
          exact lpn ⟨_, _, _, rfl, rfl, (t2.trans (t3.mono fun _ h => .inl h)), hj3, ((((((((E.nil.ad E rfl rfl).ad E rfl rfl).ad E rfl rfl).ad E rfl rfl).ad E rfl rfl).ad E rfl rfl).ad E rfl rfl).ad E rfl rfl)⟩
        · have hf2 := cF ht hf2
          refine G_exit ?_
          refine tge ?_
          obtain rfl := Option.some.inj hf2
          refine lpe fun hr => ?_
          subst hr
          refine ebk ?_
          refine ctn ?_
          exact ⟨_, _, _, hf1, rfl, t2, hj2, ((((((((E.nil.ad E rfl rfl).ad E rfl rfl).ad E rfl rfl).ad E rfl rfl).ad E rfl rfl).ad E rfl rfl).ad E rfl rfl).ad E rfl rfl)⟩
      · rintro a _ ⟨x13, x14, s4, hf1, rfl, t4, hj4, E⟩
        dsimp only [m_99_2k] at hf1
        refine ebn ?_
        refine tgn ?_
        refine G_region ?_
        refine sd E (o_bi (E.ev rfl) (E.ev rfl) rfl) rfl rfl rfl fun a E => ?_
        refine sd E (o_mv (E.ev rfl)) rfl rfl rfl fun a E => ?_
        refine GL_nil ?_
        obtain rfl := Option.some.inj hf1
        exact lpn ⟨_, _, _, rfl, rfl, (t1.trans t4), hj4, (((((E.nil.ad E rfl rfl).ad E rfl rfl).ad E rfl rfl).ad E rfl rfl).ad E rfl rfl)⟩
    · have hf1 := cF ht hf1
      refine G_exit ?_
      refine tge ?_
      obtain rfl := Option.some.inj hf1
      refine lpe fun hr => ?_
      subst hr
      refine ebk ?_
      refine ctn ?_
      exact ⟨_, _, _, hm, rfl, t1, hj1, (((((E.nil.ad E rfl rfl).ad E rfl rfl).ad E rfl rfl).ad E rfl rfl).ad E rfl rfl)⟩
  · rintro a _ ⟨x15, x16, s5, hm, rfl, t5, hj5, E⟩
    dsimp only [m_99_1k] at hm
    cases hm
    exact fin0 E rfl ⟨hj5, ((Tr.refl q' s).step hk t5 (fun t h => h.elim .inl fun h => .inr (Nat.le_of_eq (Eq.symm h))))⟩

end Go.Proofs.YtdkfdmalbbfbmaaGreat

/- Models and walks, printed by a program of ours. -/
namespace Go.Proofs.YtdkfdmalbbfbmaaGreat
open Go
set_option maxRecDepth 4000
-- gimmal/sums.made
noncomputable def m_103_2b : (Int × Int × (List Int)) → Option (Lo (Int × Int × (List Int)) (Int × Int × (List Int))) := fun (x8, x9, x10) => bif decide (x9 < 8) then (some (.inl (IntKind.wrap .u32 (BitVec.ofInt (IntKind.bits .u32) (Int.fdiv x8 (2 ^ min (Int.toNat 1) (IntKind.bits .u32))) ^^^ BitVec.ofInt (IntKind.bits .u32) (IntKind.wrap .u32 (2197175160 * (IntKind.wrap .u32 (BitVec.ofInt (IntKind.bits .u32) x8 &&& BitVec.ofInt (IntKind.bits .u32) 1).toNat)))).toNat, IntKind.wrap .i64 (x9 + 1), x10))) else (some (.inr (x8, x9, x10)))
noncomputable def m_103_2k (x3 : Int) : (Int × Int × (List Int)) → Option (Lo (Int × (List Int)) (Int × (List Int))) := fun (x11, x12, x13) => ob (gd (decide (0 ≤ x3) && decide (x3 < 256)) (some ())) fun x14 => ob (st x13 x3 x11) fun x15 => some (.inl (IntKind.wrap .i64 (x3 + 1), x15))
noncomputable def m_103_1b : (Int × (List Int)) → Option (Lo (Int × (List Int)) (Int × (List Int))) := fun (x3, x4) => bif decide (x3 < 256) then (ob (loopO (m_103_2b) (IntKind.wrap .u32 x3, 0, x4)) (m_103_2k x3)) else (some (.inr (x3, x4)))
noncomputable def m_103_1k : (Int × (List Int)) → Option (List Int) := fun (x16, x17) => some x17
noncomputable def m_103 : Option (List Int) :=
  ob (loopO (m_103_1b) (0, (List.replicate 256 (0 : Int)))) (m_103_1k)
theorem ok_103 (s : St) {r0y : List Int} (hm : m_103 = some r0y) :
    Ok Tryz.prog 103 ([] : List Value).toArray s fun v s' => Tr No s s' ∧ ∃ b, v = .pointer (some ⟨b, 0, none⟩) ∧ Stay s' b (cA .u32 r0y) ∧ r0y.length = 256 := by
  unfold m_103 at hm
  obtain ⟨k, hk⟩ := s.fresh
  refine ok_of (n := 22) _ Tryz.func103 rfl _ rfl rfl fun a E => ?_
  refine G_seq ?_
  refine G_region ?_
  refine sd E (o_as (E.ev rfl)) rfl rfl rfl fun a E => ?_
  refine GL_nil ?_
  refine tgn ?_
  refine G_seq ?_
  refine G_region ?_
  refine sh E (o_ala (k, 1001) .u32 256 Tryz.zeroValue161 (by kernel_rfl)) rfl rfl rfl ?_
  rintro a _ s1 ⟨b1, rfl, o1, t1⟩ E
  refine GL_nil ?_
  refine tgn ?_
  refine G_seq ?_
  refine G_seq ?_
  refine G_region ?_
  refine sd E (o_mv (E.ev rfl)) rfl rfl rfl fun a E => ?_
  refine GL_nil ?_
  refine tgn ?_
  obtain ⟨r1, hl1, hm⟩ := ob_some hm
  refine G_mid1 (fun a' w' => ∃ x1 x2 s', m_103_1k (x1, x2) = some r0y ∧ w' = s'.w ∧ Tr (Rt k) s1 s' ∧ Own (k, 1001) s' b1 (cA .u32 x2) 161 ∧ x2.length = 256 ∧ En [] 22 a' [(4, .int .i64 x1), (0, .pointer none), (1, .pointer (some ⟨b1, 0, none⟩))]) ?_ ?_
  · refine G_block ?_
    refine G_lp hl1 (fun st a' w' => ∃ x1 x2 s', st = (x1, x2) ∧ w' = s'.w ∧ Tr (Rt k) s1 s' ∧ Own (k, 1001) s' b1 (cA .u32 x2) 161 ∧ x2.length = 256 ∧ En [] 22 a' [(4, .int .i64 x1), (0, .pointer none), (1, .pointer (some ⟨b1, 0, none⟩))]) ⟨_, _, _, rfl, rfl, (Tr.refl _ _), o1, (List.length_replicate ..), (((E.nil.ad E rfl rfl).ad E rfl rfl).ad E rfl rfl)⟩ ?_
    rintro _ a _ x ⟨x3, x4, s2, rfl, rfl, t2, o2, ln1, E⟩ hf1
    dsimp only [m_103_1b] at hf1
    refine G_seq ?_
    refine G_region ?_
    refine sd E (o_bi (E.ev rfl) (E.ev rfl) rfl) rfl rfl rfl fun a E => ?_
    refine GL_nil ?_
    refine tgn ?_
    refine G_seq ?_
    refine G_cond (E.ev rfl) (fun ht => ?_) (fun ht => ?_)
    · have hf1 := cT ht hf1
      refine G_skip ?_
      refine tgn ?_
      refine G_seq ?_
      refine G_block ?_
      refine G_seq ?_
      refine G_region ?_
      refine sd E (o_mv (E.ev rfl)) rfl rfl rfl fun a E => ?_
      refine sd E (o_as (E.ev rfl)) rfl rfl rfl fun a E => ?_
      refine GL_nil ?_
      refine tgn ?_
      refine G_seq ?_
      refine G_region ?_
      refine sd E (o_mv (E.ev rfl)) rfl rfl rfl fun a E => ?_
      refine sd E (o_cv Tryz.underlying3 Tryz.underlying126 (E.ev rfl)) rfl rfl rfl fun a E => ?_
      refine sd E (o_as (E.ev rfl)) rfl rfl rfl fun a E => ?_
      refine GL_nil ?_
      refine tgn ?_
      refine G_seq ?_
      refine G_seq ?_
      refine G_region ?_
      refine sd E (o_mv (E.ev rfl)) rfl rfl rfl fun a E => ?_
      refine GL_nil ?_
      refine tgn ?_
      obtain ⟨r2, hl2, hf1⟩ := ob_some hf1
      refine G_mid1 (fun a' w' => ∃ x5 x6 x7 s', m_103_2k x3 (x5, x6, x7) = some x ∧ w' = s'.w ∧ Tr (Rt k) s2 s' ∧ Own (k, 1001) s' b1 (cA .u32 x7) 161 ∧ x7.length = 256 ∧ En [] 22 a' [(3, .int .u32 x5), (9, .int .i64 x6), (0, .pointer none), (1, .pointer (some ⟨b1, 0, none⟩)), (2, .int .i64 x3), (4, .int .i64 x3), (5, .bool (decide (x3 < 256)))]) ?_ ?_
      · refine G_block ?_
        refine G_lp hl2 (fun st a' w' => ∃ x5 x6 x7 s', st = (x5, x6, x7) ∧ w' = s'.w ∧ Tr (Rt k) s2 s' ∧ Own (k, 1001) s' b1 (cA .u32 x7) 161 ∧ x7.length = 256 ∧ En [] 22 a' [(3, .int .u32 x5), (9, .int .i64 x6), (0, .pointer none), (1, .pointer (some ⟨b1, 0, none⟩)), (2, .int .i64 x3), (4, .int .i64 x3), (5, .bool (decide (x3 < 256)))]) ⟨_, _, _, _, rfl, rfl, (Tr.refl _ _), o2, ln1, (((((((E.nil.ad E rfl rfl).ad E rfl rfl).ad E rfl rfl).ad E rfl rfl).ad E rfl rfl).ad E rfl rfl).ad E rfl rfl)⟩ ?_
        rintro _ a _ x ⟨x8, x9, x10, s3, rfl, rfl, t3, o3, ln2, E⟩ hf2
        dsimp only [m_103_2b] at hf2
        refine G_seq ?_
        refine G_region ?_
        refine sd E (o_bi (E.ev rfl) (E.ev rfl) rfl) rfl rfl rfl fun a E => ?_
        refine GL_nil ?_
        refine tgn ?_
        refine G_seq ?_
        refine G_cond (E.ev rfl) (fun ht => ?_) (fun ht => ?_)
        · have hf2 := cT ht hf2
          refine G_skip ?_
          refine tgn ?_
          refine G_seq ?_
          refine G_block ?_
          refine G_region ?_
          refine sd E (o_mv (E.ev rfl)) rfl rfl rfl fun a E => ?_
          refine sd E (o_shr (E.ev rfl) (E.ev rfl) rfl) rfl rfl rfl fun a E => ?_
          refine sd E (o_mv (E.ev rfl)) rfl rfl rfl fun a E => ?_
          refine sd E (o_bi (E.ev rfl) (E.ev rfl) rfl) rfl rfl rfl fun a E => ?_
          refine sd E (o_bi (E.ev rfl) (E.ev rfl) rfl) rfl rfl rfl fun a E => ?_
          refine sd E (o_bi (E.ev rfl) (E.ev rfl) rfl) rfl rfl rfl fun a E => ?_
          refine sd E (o_as (E.ev rfl)) rfl rfl rfl fun a E => ?_
          refine GL_nil ?_
          refine ebn ?_
          refine tgn ?_
          refine G_region ?_
          refine sd E (o_bi (E.ev rfl) (E.ev rfl) rfl) rfl rfl rfl fun a E => ?_
          refine sd E (o_mv (E.ev rfl)) rfl rfl rfl fun a E => ?_
          refine GL_nil ?_
          obtain rfl := Option.some.inj hf2
          exact lpn ⟨_, _, _, _, rfl, rfl, t3, o3, ln2, (((((((E.nil.ad E rfl rfl).ad E rfl rfl).ad E rfl rfl).ad E rfl rfl).ad E rfl rfl).ad E rfl rfl).ad E rfl rfl)⟩
        · have hf2 := cF ht hf2
          refine G_exit ?_
          refine tge ?_
          obtain rfl := Option.some.inj hf2
          refine lpe fun hr => ?_
          subst hr
          refine ebk ?_
          refine ctn ?_
          exact ⟨_, _, _, _, hf1, rfl, t3, o3, ln2, (((((((E.nil.ad E rfl rfl).ad E rfl rfl).ad E rfl rfl).ad E rfl rfl).ad E rfl rfl).ad E rfl rfl).ad E rfl rfl)⟩
      · rintro a _ ⟨x11, x12, x13, s4, hf1, rfl, t4, o4, ln3, E⟩
        dsimp only [m_103_2k] at hf1
        refine tgn ?_
        refine G_region ?_
        refine sd E (o_mv (E.ev rfl)) rfl rfl rfl fun a E => ?_
        refine sd E (o_mv (E.ev rfl)) rfl rfl rfl fun a E => ?_
        obtain ⟨x14, hx1, hf1⟩ := ob_some hf1
        refine sd E (o_ixa Tryz.underlying161 Tryz.sizeOf126 (E.ev rfl) (E.ev rfl) (ix_some hx1).1 (ix_some hx1).2) rfl rfl rfl fun a E => ?_
        obtain ⟨x15, hx2, hf1⟩ := ob_some hf1
        refine shN E (o_sta Tryz.sizeOf126 o4 (E.ev rfl) (E.ev rfl) hx2) rfl rfl ?_
        rintro _ s5 ⟨o5, t5⟩
        refine GL_nil ?_
        refine ebn ?_
        refine tgn ?_
        refine G_region ?_
        refine sd E (o_bi (E.ev rfl) (E.ev rfl) rfl) rfl rfl rfl fun a E => ?_
        refine sd E (o_mv (E.ev rfl)) rfl rfl rfl fun a E => ?_
        refine GL_nil ?_
        obtain rfl := Option.some.inj hf1
        exact lpn ⟨_, _, _, rfl, rfl, ((t2.trans t4).trans (t5.mono (by intro t h; subst h; rfl))), o5, ((st_len hx2).trans ln3), (((E.nil.ad E rfl rfl).ad E rfl rfl).ad E rfl rfl)⟩
    · have hf1 := cF ht hf1
      refine G_exit ?_
      refine tge ?_
      obtain rfl := Option.some.inj hf1
      refine lpe fun hr => ?_
      subst hr
      refine ebk ?_
      refine ctn ?_
      exact ⟨_, _, _, hm, rfl, t2, o2, ln1, (((E.nil.ad E rfl rfl).ad E rfl rfl).ad E rfl rfl)⟩
  · rintro a _ ⟨x16, x17, s6, hm, rfl, t6, o6, ln4, E⟩
    dsimp only [m_103_1k] at hm
    refine tgn ?_
    refine G_seq ?_
    refine G_region ?_
    refine sd E (o_as (E.ev rfl)) rfl rfl rfl fun a E => ?_
    refine GL_nil ?_
    refine tgn ?_
    refine G_ret ?_
    cases hm
    obtain ⟨s7, e1, o7, t7⟩ := o6.fz
    rw [e1]
    exact fin1 E rfl rfl ⟨((((Tr.refl No s).stepN t1).step hk t6 (fun t h => .inr (Nat.le_of_eq (Eq.symm h)))).step hk t7 (by intro t h; subst h; exact .inr (Nat.le_refl _))), _, rfl, o7, ln4⟩

end Go.Proofs.YtdkfdmalbbfbmaaGreat

/- The sum of words. -/
namespace Go.Proofs.YtdkfdmalbbfbmaaGreat
open Go
set_option maxRecDepth 4000

/-- A byte into the sum. -/
noncomputable def c98 (tab : List Int) (x b : Int) : Option Int :=
  ob (gd (decide (0 ≤ IntKind.wrap .u8 (BitVec.ofInt (IntKind.bits .u8) (IntKind.wrap .u8 x) ^^^ BitVec.ofInt (IntKind.bits .u8) b).toNat) && decide (IntKind.wrap .u8 (BitVec.ofInt (IntKind.bits .u8) (IntKind.wrap .u8 x) ^^^ BitVec.ofInt (IntKind.bits .u8) b).toNat < 256)) (some ())) fun _ =>
  ob (gt tab (IntKind.wrap .u8 (BitVec.ofInt (IntKind.bits .u8) (IntKind.wrap .u8 x) ^^^ BitVec.ofInt (IntKind.bits .u8) b).toNat)) fun z =>
  some (IntKind.wrap .u32 (BitVec.ofInt (IntKind.bits .u32) z ^^^ BitVec.ofInt (IntKind.bits .u32) (Int.fdiv x (2 ^ min (Int.toNat 8) (IntKind.bits .u32)))).toNat)
noncomputable def m_98 (xs : List Int) : Option Int :=
  ob m_103 fun tab => ob (m_99 (c98 tab) xs 4294967295) fun x => some (IntKind.wrap .u32 (BitVec.ofInt (IntKind.bits .u32) (IntKind.max .u32) ^^^ BitVec.ofInt (IntKind.bits .u32) x).toNat)

theorem ok_98 (s : St) {x0 : List Int} {b1 : Nat} {w1 : Value} (h1 : Sl kU s w1 x0) (o1 : Stay s b1 #[w1]) {r0y : Int} (hm : m_98 x0 = some r0y) :
    Ok Tryz.prog 98 ([.func (.func 99) #[] #[.pointer (some ⟨b1, 0, none⟩)]] : List Value).toArray s fun v s' => Tr No s s' ∧ v = .int .u32 r0y := by
  unfold m_98 at hm
  obtain ⟨k, hk⟩ := s.fresh
  refine ok_ofD (n := 22) _ Tryz.func98 rfl _ rfl rfl fun a E => ?_
  refine G_seq ?_
  refine G_region ?_
  refine sd E (o_as (E.ev rfl)) rfl rfl rfl fun a E => ?_
  refine GL_nil ?_
  refine tgn ?_
  refine G_seq ?_
  refine G_region ?_
  obtain ⟨tab, hx1, hm⟩ := ob_some hm
  refine sh E (o_ok Tryz.call103 (E.evs rfl) (E.ev rfl) (ok_103 _ hx1)) rfl rfl rfl ?_
  rintro a _ s1 ⟨t1, bt, rfl, ot, lt⟩ E
  refine sh E (o_al (k, 1) Tryz.zeroValue147) rfl rfl rfl ?_
  rintro a _ s2 ⟨b2, rfl, o2, t2⟩ E
  refine shN E (o_st (v := .pointer (some ⟨bt, 0, none⟩)) Tryz.sizeOf147 o2 (E.ev rfl) (E.ev rfl) (Nat.le_of_ble_eq_true rfl) (by intro u hu; simp [Value.cells] at hu; subst hu; rfl) rfl) rfl rfl ?_
  rintro _ s3 ⟨o3, t3⟩
  refine GL_nil ?_
  refine tgn ?_
  refine G_seq ?_
  refine G_region ?_
  refine sh E (o_al (k, 2) Tryz.zeroValue126) rfl rfl rfl ?_
  rintro a _ s4 ⟨b3, rfl, o4, t4⟩ E
  refine shN E (o_st (v := .int .u32 4294967295) Tryz.sizeOf126 o4 (E.ev rfl) (E.ev rfl) (Nat.le_of_ble_eq_true rfl) (by intro u hu; simp [Value.cells] at hu; subst hu; rfl) rfl) rfl rfl ?_
  rintro _ s5 ⟨o5, t5⟩
  refine GL_nil ?_
  refine tgn ?_
  refine G_seq ?_
  refine G_seq ?_
  refine G_region ?_
  refine sd E (o_mv (E.ev rfl)) rfl rfl rfl fun a E => ?_
  refine GL_nil ?_
  refine tgn ?_
  refine G_block ?_
  obtain ⟨x1, hx2, hm⟩ := ob_some hm
  have T5 : Tr No s s5 := ((((Tr.refl No s).stepN t1).stepN t2).step hk t3 (by intro t h; subst h; exact .inr (Nat.le_refl _))).stepN t4 |>.step hk t5 (by intro t h; subst h; exact .inr (Nat.le_refl _))
  have ot5 : Stay s5 bt (cA .u32 tab) := (((ot.tr t2).tr t3).tr t4).tr t5
  have o35 : Own (k, 1) s5 b2 #[.pointer (some ⟨bt, 0, none⟩)] 147 := (o3.trN t4).tr t5 (nt_snd rfl)
  refine G_range (E.ev (x := .tmp 7) rfl) Tryz.call99 (k + 1) k (by omega) (fun st s' => Own (k, 2) s' b3 #[.int .u32 st] 126 ∧ Own (k, 1) s' b2 #[.pointer (some ⟨bt, 0, none⟩)] 147 ∧ Stay s' bt (cA .u32 tab)) (c98 tab) (fun b => [.int .u8 b]) (fun _ _ => True) (fun _ _ _ _ _ _ => trivial) (· = ((k, 2) : Tg))
    (fun i h => by injection h with h _; omega) ?_ ⟨b3, 2, o5.1⟩ 4294967295 x1 ⟨o5, o35, ot5⟩ (fun _ => rfl) ?_ ?_ ?_
  · exact fun k' hk' st s s' h t => ⟨h.1.tr t (nr (Ne.symm hk')), h.2.1.tr t (nr (Ne.symm hk')), h.2.2.tr t⟩
  · intro yv J' q' s6 t6 hl hy hj
    exact ok_99 s6 (((h1.tr T5).tr t6)) ((o1.tr T5).tr t6) (c98 tab) yv J' q' hl (fun st z0 st' s hj hc => hy st z0 st' s trivial hj hc) hj hx2
  · rintro l st x st' s6 t6 _ ⟨p1, p2, p3⟩ hc
    have E1 := E.round1 (p := 8) (v := .int .u8 x) rfl
    refine G_region ?_
    refine sd E1 (o_as (E1.ev rfl)) rfl rfl rfl fun a E => ?_
    refine GL_nil ?_
    refine ctn ?_
    refine ⟨s6, rfl, Tr.refl _ _, fun s7 t7 => ?_⟩
    have p1 := p1.tr t7 (nr (by omega))
    have p2 := p2.tr t7 (nr (by omega))
    have p3 := p3.tr t7
    unfold c98 at hc
    refine G_block ?_
    refine G_drw k (by rfl) [0, 1, 2, 3, 4, 5, 6, 7, 8, 9, 10, 11] (by kernel_rfl) ?_
    intro s8 t8
    have p1 := p1.trN t8
    have p2 := p2.trN t8
    have p3 := p3.tr t8
    refine dr E rfl (fun s' t => o_ld Tryz.isAgg147 (E.ev rfl) (((p2.trN t).cell _).trans rfl)) rfl rfl rfl rfl fun a E => ?_
    refine dr E rfl (fun s' t => o_ld Tryz.isAgg126 (E.ev rfl) (((p1.trN t).cell _).trans rfl)) rfl rfl rfl rfl fun a E => ?_
    refine dp E rfl (fun w => o_cv Tryz.underlying126 Tryz.underlying5 (E.ev rfl)) rfl rfl rfl fun a E => ?_
    refine dp E rfl (fun w => o_mv (E.ev rfl)) rfl rfl rfl fun a E => ?_
    refine dp E rfl (fun w => o_bi (E.ev rfl) (E.ev rfl) rfl) rfl rfl rfl fun a E => ?_
    refine dp E rfl (fun w => o_nc (E.ev rfl)) rfl rfl rfl fun a E => ?_
    obtain ⟨_, hx3, hc⟩ := ob_some hc
    refine dp E rfl (fun w => o_ixa Tryz.underlying161 Tryz.sizeOf126 (E.ev rfl) (E.ev rfl) (ix_some hx3).1 (ix_some hx3).2) rfl rfl rfl fun a E => ?_
    obtain ⟨z, hx4, hc⟩ := ob_some hc
    refine dr E rfl (fun s' t => o_ld Tryz.isAgg126 (E.ev rfl) (((p3.tr t).cell _).trans (cA_get (gt_get hx4)))) rfl rfl rfl rfl fun a E => ?_
    refine dr E rfl (fun s' t => o_ld Tryz.isAgg126 (E.ev rfl) (((p1.trN t).cell _).trans rfl)) rfl rfl rfl rfl fun a E => ?_
    refine dp E rfl (fun w => o_shr (E.ev rfl) (E.ev rfl) rfl) rfl rfl rfl fun a E => ?_
    refine dp E rfl (fun w => o_bi (E.ev rfl) (E.ev rfl) rfl) rfl rfl rfl fun a E => ?_
    obtain rfl := Option.some.inj hc
    refine dlN E rfl (o_st (v := .int .u32 _) Tryz.sizeOf126 p1 (E.ev rfl) (E.ev rfl) (Nat.le_of_ble_eq_true rfl) (by intro u hu; simp [Value.cells] at hu; subst hu; rfl) rfl) rfl rfl rfl ?_
    rintro _ s9 ⟨o9, t9⟩
    refine gd_nil ?_
    refine ebn ?_
    exact ⟨rfl, s9, rfl, ⟨o9, p2.tr t9 (nt_snd rfl), p3.tr t9⟩, t8.no.trans t9⟩
  · rintro D' s6 ⟨p1, p2, p3⟩ t6 hD
    have E : En [{ target := .collected D', args := #[] }] 22 { a with defers := { target := .collected D', args := #[] } :: a.defers } _ := ⟨E.size, by simp [E.defs], E.get⟩
    refine ebn ?_
    refine tgn ?_
    refine G_seq ?_
    refine G_region ?_
    refine sd E (o_ld Tryz.isAgg126 (E.ev rfl) ((p1.cell _).trans rfl)) rfl rfl rfl fun a E => ?_
    refine sd E (o_un (E.ev rfl) (fun _ => rfl)) rfl rfl rfl fun a E => ?_
    refine sd E (o_as (E.ev rfl)) rfl rfl rfl fun a E => ?_
    refine GL_nil ?_
    refine tgn ?_
    refine G_ret ?_
    cases hm
    have T6 : Tr No s s6 := T5.step hk t6 (fun t h => .inr (h.elim (fun h => by subst h; exact Nat.le_refl _) (fun h => by rw [show t.1 = k + 1 from h]; omega)))
    exact finD E hD fun s' t => ⟨_, s', rfl, res1 E rfl rfl, T6.step hk t (by intro t h; subst h; exact .inr (Nat.le_succ _)), rfl⟩
end Go.Proofs.YtdkfdmalbbfbmaaGreat

/- The sum of words, by a closure; copies. -/
namespace Go.Proofs.YtdkfdmalbbfbmaaGreat
open Go
set_option maxRecDepth 4000

noncomputable def m_92 (x0 : List Int) : Option Int := m_98 x0
theorem ok_92 (s : St) {x0 : List Int} {w1 : Value} (h1 : Sl kU s w1 x0) {r0y : Int} (hm : m_92 x0 = some r0y) :
    Ok Tryz.prog 92 ([w1] : List Value).toArray s fun v s' => Tr No s s' ∧ v = .int .u32 r0y := by
  obtain ⟨k, hk⟩ := s.fresh
  refine ok_of (n := 5) _ Tryz.func92 rfl _ rfl rfl fun a E => ?_
  refine G_seq ?_
  refine G_region ?_
  obtain ⟨a1, c1, rfl⟩ := h1.isS
  refine sh E (o_box (E.ev rfl)) rfl rfl rfl ?_
  rintro a _ s1 ⟨b1, rfl, o1, t1⟩ E
  refine sd E (o_as (E.ev rfl)) rfl rfl rfl fun a E => ?_
  refine GL_nil ?_
  refine tgn ?_
  refine G_seq ?_
  refine G_region ?_
  refine sd E (o_mf (E.evs rfl)) rfl rfl rfl fun a E => ?_
  refine sh E (o_ok Tryz.call98 (E.evs rfl) (E.ev rfl) (ok_98 s1 (h1.tr t1) o1 hm)) rfl rfl rfl ?_
  rintro a _ s2 ⟨t2, rfl⟩ E
  refine sd E (o_as (E.ev rfl)) rfl rfl rfl fun a E => ?_
  refine GL_nil ?_
  refine tgn ?_
  refine G_ret ?_
  exact fin1 E rfl rfl ⟨t1.trans t2, rfl⟩

section
variable {P : Program} {s : St} {w : World} {ρ : Operand → Value} {d : Option Nat} {g : Option (Nat × Bool)} {t : Nat} {pos : String} {af : Array Edge} {x y : Operand} {T T' e : Nat} {ao : Option Addr} {m c : Nat}
theorem run_eqnil (hT : P.underlying T = some (.slice e)) : (Op.equal T (.slice ao m c) (.slice none 0 0)).run P w = .ok ao.isNone w := by
  obtain ⟨q, hq⟩ : ∃ q, Op.maxDepth = q + 1 := ⟨9999, rfl⟩
  unfold Op.equal
  rw [hq]
  unfold Op.equalIn
  simp only [Sem.run_bind, run_underlying hT, Result.andThen]
  cases ao <;> rfl
theorem o_eqnil (hT : P.underlying T = some (.slice e)) (hx : ρ x = .slice ao m c) (hy : ρ y = .slice none 0 0) : OpTo P ⟨d, .binOp .eql T x y T', t, pos, af, g⟩ ρ w (.bool ao.isNone) w :=
  OpTo_value (by intro c h; cases h) (by
    simp only [execOp, hx, hy]
    refine run_v _ ?_
    simp [eqGuard, binOp, run_eqnil hT, Sem.run_bind, Result.andThen])
end
theorem Sl.none {α : Type} {K : Kd α} {s : St} {xs : List α} {m c : Nat} (h : Sl K s (.slice none m c) xs) : xs = [] := by
  obtain ⟨a, c', e, _, _, h⟩ := h
  injection e with e1 e2 e3
  rcases h with h | ⟨b, o, cs, h, _⟩
  · exact h
  · rw [h] at e1; cases e1

noncomputable def m_39 (x0 : List Int) : Option (List Int) := ap [] x0
theorem ok_39 (s : St) {x0 : List Int} {w1 : Value} (h1 : Sl kU s w1 x0) {r0y : List Int} (hm : m_39 x0 = some r0y) :
    Ok Tryz.prog 48 ([w1] : List Value).toArray s fun v s' => Tr No s s' ∧ ∃ w2, v = w2 ∧ Sl kU s' w2 r0y := by
  unfold m_39 at hm
  obtain ⟨k, hk⟩ := s.fresh
  refine ok_of (n := 8) _ Tryz.func48 rfl _ rfl rfl fun a E => ?_
  obtain ⟨hlen, rfl⟩ := ap_some hm
  obtain ⟨a1, c1, rfl⟩ := h1.isS
  refine G_seq ?_
  refine G_region ?_
  refine sd E (o_as (E.ev rfl)) rfl rfl rfl fun a E => ?_
  refine GL_nil ?_
  refine tgn ?_
  refine G_seq ?_
  refine G_seq ?_
  refine G_region ?_
  refine sd E (o_mv (E.ev rfl)) rfl rfl rfl fun a E => ?_
  refine sd E (o_eqnil Tryz.underlying36 (E.ev rfl) (E.ev rfl)) rfl rfl rfl fun a E => ?_
  refine GL_nil ?_
  refine tgn ?_
  refine G_cond (E.ev rfl) (fun ht => ?_) (fun ht => ?_)
  · cases a1 with
    | some a1 => cases ht
    | none =>
      obtain rfl := h1.none
      refine G_seq ?_
      refine G_region ?_
      refine sd E (o_as (E.ev rfl)) rfl rfl rfl fun a E => ?_
      refine GL_nil ?_
      refine tgn ?_
      refine G_ret ?_
      refine tgr ?_
      exact fin1 E rfl rfl ⟨Tr.refl _ _, _, rfl, Sl.nil⟩
  · refine G_skip ?_
    refine tgn ?_
    refine G_seq ?_
    refine G_region ?_
    refine sh E (o_bs0 (k, 1) (K := kU) (B := 0) Tryz.underlying36 Tryz.sizeOf39 (Nat.zero_le _)) rfl rfl rfl ?_
    rintro a w2 s1 ⟨h2, t1⟩ E
    refine sd E (o_mv (E.ev rfl)) rfl rfl rfl fun a E => ?_
    refine sh E (o_app Tryz.underlying36 Tryz.type39 rfl rfl rfl rfl rfl rfl h2 (h1.tr t1).rd (E.ev rfl) (E.ev rfl) hlen (Nat.zero_le _)) rfl rfl rfl ?_
    rintro a w3 s2 ⟨h3, t2⟩ E
    refine sd E (o_as (E.ev rfl)) rfl rfl rfl fun a E => ?_
    refine GL_nil ?_
    refine tgn ?_
    refine G_ret ?_
    obtain ⟨s3, e3, h4, t3⟩ := h3.fz
    rw [e3]
    exact fin1 E rfl rfl ⟨(((Tr.refl No s).stepN t1).step hk t2 (by intro t h; subst h; exact .inr (Nat.le_refl _))).step hk t3 (by intro t h; subst h; exact .inr (Nat.le_refl _)), _, rfl, h4⟩

noncomputable def m_55 (x0 : List Frame) : Option (List Frame) := ap [] x0
theorem ok_55 (s : St) (tr : Tg) {x0 : List Frame} {w1 : Value} (h1 : Sl kFr s w1 x0) {r0y : List Frame} (hm : m_55 x0 = some r0y) :
    Ok Tryz.prog 46 ([w1] : List Value).toArray s fun v s' => Tr No s s' ∧ Bd tr kFr 38 0 s' v r0y := by
  unfold m_55 at hm
  obtain ⟨k, hk⟩ := s.fresh
  refine ok_of (n := 8) _ Tryz.func46 rfl _ rfl rfl fun a E => ?_
  obtain ⟨hlen, rfl⟩ := ap_some hm
  obtain ⟨a1, c1, rfl⟩ := h1.isS
  refine G_seq ?_
  refine G_region ?_
  refine sd E (o_as (E.ev rfl)) rfl rfl rfl fun a E => ?_
  refine GL_nil ?_
  refine tgn ?_
  refine G_seq ?_
  refine G_seq ?_
  refine G_region ?_
  refine sd E (o_mv (E.ev rfl)) rfl rfl rfl fun a E => ?_
  refine sd E (o_eqnil Tryz.underlying43 (E.ev rfl) (E.ev rfl)) rfl rfl rfl fun a E => ?_
  refine GL_nil ?_
  refine tgn ?_
  refine G_cond (E.ev rfl) (fun ht => ?_) (fun ht => ?_)
  · cases a1 with
    | some a1 => cases ht
    | none =>
      obtain rfl := h1.none
      refine G_seq ?_
      refine G_region ?_
      refine sd E (o_as (E.ev rfl)) rfl rfl rfl fun a E => ?_
      refine GL_nil ?_
      refine tgn ?_
      refine G_ret ?_
      refine tgr ?_
      exact fin1 E rfl rfl ⟨Tr.refl _ _, Bd.nil⟩
  · refine G_skip ?_
    refine tgn ?_
    refine G_seq ?_
    refine G_region ?_
    refine sh E (o_bs0 (k, 1) (K := kFr) (B := 0) Tryz.underlying43 Tryz.sizeOf38 (Nat.zero_le _)) rfl rfl rfl ?_
    rintro a w2 s1 ⟨h2, t1⟩ E
    refine sd E (o_mv (E.ev rfl)) rfl rfl rfl fun a E => ?_
    refine sh E (o_app Tryz.underlying43 Tryz.type38 rfl rfl rfl rfl rfl rfl h2 (h1.tr t1).rd (E.ev rfl) (E.ev rfl) hlen (Nat.zero_le _)) rfl rfl rfl ?_
    rintro a w3 s2 ⟨h3, t2⟩ E
    refine sd E (o_as (E.ev rfl)) rfl rfl rfl fun a E => ?_
    refine GL_nil ?_
    refine tgn ?_
    refine G_ret ?_
    obtain ⟨s3, e3, h4, t3⟩ := h3.rt tr
    rw [e3]
    exact fin1 E rfl rfl ⟨(((Tr.refl No s).stepN t1).step hk t2 (by intro t h; subst h; exact .inr (Nat.le_refl _))).step hk t3 (by intro t h; subst h; exact .inr (Nat.le_refl _)), h4⟩
end Go.Proofs.YtdkfdmalbbfbmaaGreat
