/- Models and walks, printed by a program of ours. -/
import Derived.Test.YtdkfdmalbbfbmaaC0
import Derived.Test.YtdkfdmalbbfbmaaB8
namespace Go.Proofs.Ytdkfdmalbbfbmaa
open Go
set_option maxRecDepth 4000
-- gimmal/sums.made
noncomputable def m_103_2b : (Int × Int × (List Int)) → Option (Lo (Int × Int × (List Int)) (Int × Int × (List Int))) := fun (x8, x9, x10) => bif decide (x9 < 8) then (some (.inl (IntKind.wrap .u32 (BitVec.ofInt (IntKind.bits .u32) (Int.fdiv x8 (2 ^ min (Int.toNat 1) (IntKind.bits .u32))) ^^^ BitVec.ofInt (IntKind.bits .u32) (IntKind.wrap .u32 (2197175160 * (IntKind.wrap .u32 (BitVec.ofInt (IntKind.bits .u32) x8 &&& BitVec.ofInt (IntKind.bits .u32) 1).toNat)))).toNat, IntKind.wrap .i64 (x9 + 1), x10))) else (some (.inr (x8, x9, x10)))
noncomputable def m_103_2k (x3 : Int) : (Int × Int × (List Int)) → Option (Lo (Int × (List Int)) (Int × (List Int))) := fun (x11, x12, x13) => ob (gd (decide (0 ≤ x3) && decide (x3 < 256)) (some ())) fun x14 => ob (st x13 x3 x11) fun x15 => some (.inl (IntKind.wrap .i64 (x3 + 1), x15))
noncomputable def m_103_1b : (Int × (List Int)) → Option (Lo (Int × (List Int)) (Int × (List Int))) := fun (x3, x4) => bif decide (x3 < 256) then (ob (loopO (m_103_2b) (IntKind.wrap .u32 x3, 0, x4)) (m_103_2k x3)) else (some (.inr (x3, x4)))
noncomputable def m_103_1k : (Int × (List Int)) → Option (List Int) := fun (x16, x17) => some x17
noncomputable def m_103 : Option (List Int) :=
  ob (loopO (m_103_1b) (0, (List.replicate 256 (0 : Int)))) (m_103_1k)
theorem ok_103 (s : St) {r0y : List Int} (hm : m_103 = some r0y) :
    Ok Try.prog 103 ([] : List Value).toArray s fun v s' => Tr No s s' ∧ ∃ b, v = .pointer (some ⟨b, 0, none⟩) ∧ Stay s' b (cA .u32 r0y) ∧ r0y.length = 256 := by
  unfold m_103 at hm
  obtain ⟨k, hk⟩ := s.fresh
  refine ok_of (n := 22) _ Try.func103 rfl _ rfl rfl fun a E => ?_
  refine G_seq ?_
  refine G_region ?_
  refine sd E (o_as (E.ev rfl)) rfl rfl rfl fun a E => ?_
  refine GL_nil ?_
  refine tgn ?_
  refine G_seq ?_
  refine G_region ?_
  refine sh E (o_ala (k, 1001) .u32 256 Try.zeroValue157 (by kernel_rfl)) rfl rfl rfl ?_
  rintro a _ s1 ⟨b1, rfl, o1, t1⟩ E
  refine GL_nil ?_
  refine tgn ?_
  refine G_seq ?_
  refine G_seq ?_
  refine G_region ?_
  refine sd E (o_mv (E.ev rfl)) rfl rfl rfl fun a E => ?_
  refine GL_nil ?_
  refine tgn ?_
  obtain ⟨r1, hl1, hm⟩ := ob_some hm
  refine G_mid1 (fun a' w' => ∃ x1 x2 s', m_103_1k (x1, x2) = some r0y ∧ w' = s'.w ∧ Tr (Rt k) s1 s' ∧ Own (k, 1001) s' b1 (cA .u32 x2) 157 ∧ x2.length = 256 ∧ En [] 22 a' [(4, .int .i64 x1), (0, .pointer none), (1, .pointer (some ⟨b1, 0, none⟩))]) ?_ ?_
  · refine G_block ?_
    refine G_lp hl1 (fun st a' w' => ∃ x1 x2 s', st = (x1, x2) ∧ w' = s'.w ∧ Tr (Rt k) s1 s' ∧ Own (k, 1001) s' b1 (cA .u32 x2) 157 ∧ x2.length = 256 ∧ En [] 22 a' [(4, .int .i64 x1), (0, .pointer none), (1, .pointer (some ⟨b1, 0, none⟩))]) ⟨_, _, _, rfl, rfl, (Tr.refl _ _), o1, (List.length_replicate ..), (((E.nil.ad E rfl rfl).ad E rfl rfl).ad E rfl rfl)⟩ ?_
    rintro _ a _ x ⟨x3, x4, s2, rfl, rfl, t2, o2, ln1, E⟩ hf1
    dsimp only [m_103_1b] at hf1
    refine G_seq ?_
    refine G_region ?_
    refine sd E (o_bi (E.ev rfl) (E.ev rfl) rfl) rfl rfl rfl fun a E => ?_
    refine GL_nil ?_
    refine tgn ?_
    refine G_seq ?_
    refine G_cond (E.ev rfl) (fun ht => ?_) (fun ht => ?_)
    · have hf1 := cT ht hf1
      refine G_skip ?_
      refine tgn ?_
      refine G_seq ?_
      refine G_block ?_
      refine G_seq ?_
      refine G_region ?_
      refine sd E (o_mv (E.ev rfl)) rfl rfl rfl fun a E => ?_
      refine sd E (o_as (E.ev rfl)) rfl rfl rfl fun a E => ?_
      refine GL_nil ?_
      refine tgn ?_
      refine G_seq ?_
      refine G_region ?_
      refine sd E (o_mv (E.ev rfl)) rfl rfl rfl fun a E => ?_
      refine sd E (o_cv Try.underlying3 Try.underlying122 (E.ev rfl)) rfl rfl rfl fun a E => ?_
      refine sd E (o_as (E.ev rfl)) rfl rfl rfl fun a E => ?_
      refine GL_nil ?_
      refine tgn ?_
      refine G_seq ?_
      refine G_seq ?_
      refine G_region ?_
      refine sd E (o_mv (E.ev rfl)) rfl rfl rfl fun a E => ?_
      refine GL_nil ?_
      refine tgn ?_
      obtain ⟨r2, hl2, hf1⟩ := ob_some hf1
      refine G_mid1 (fun a' w' => ∃ x5 x6 x7 s', m_103_2k x3 (x5, x6, x7) = some x ∧ w' = s'.w ∧ Tr (Rt k) s2 s' ∧ Own (k, 1001) s' b1 (cA .u32 x7) 157 ∧ x7.length = 256 ∧ En [] 22 a' [(3, .int .u32 x5), (9, .int .i64 x6), (0, .pointer none), (1, .pointer (some ⟨b1, 0, none⟩)), (2, .int .i64 x3), (4, .int .i64 x3), (5, .bool (decide (x3 < 256)))]) ?_ ?_
      · refine G_block ?_
        refine G_lp hl2 (fun st a' w' => ∃ x5 x6 x7 s', st = (x5, x6, x7) ∧ w' = s'.w ∧ Tr (Rt k) s2 s' ∧ Own (k, 1001) s' b1 (cA .u32 x7) 157 ∧ x7.length = 256 ∧ En [] 22 a' [(3, .int .u32 x5), (9, .int .i64 x6), (0, .pointer none), (1, .pointer (some ⟨b1, 0, none⟩)), (2, .int .i64 x3), (4, .int .i64 x3), (5, .bool (decide (x3 < 256)))]) ⟨_, _, _, _, rfl, rfl, (Tr.refl _ _), o2, ln1, (((((((E.nil.ad E rfl rfl).ad E rfl rfl).ad E rfl rfl).ad E rfl rfl).ad E rfl rfl).ad E rfl rfl).ad E rfl rfl)⟩ ?_
        rintro _ a _ x ⟨x8, x9, x10, s3, rfl, rfl, t3, o3, ln2, E⟩ hf2
        dsimp only [m_103_2b] at hf2
        refine G_seq ?_
        refine G_region ?_
        refine sd E (o_bi (E.ev rfl) (E.ev rfl) rfl) rfl rfl rfl fun a E => ?_
        refine GL_nil ?_
        refine tgn ?_
        refine G_seq ?_
        refine G_cond (E.ev rfl) (fun ht => ?_) (fun ht => ?_)
        · have hf2 := cT ht hf2
          refine G_skip ?_
          refine tgn ?_
          refine G_seq ?_
          refine G_block ?_
          refine G_region ?_
          refine sd E (o_mv (E.ev rfl)) rfl rfl rfl fun a E => ?_
          refine sd E (o_shr (E.ev rfl) (E.ev rfl) rfl) rfl rfl rfl fun a E => ?_
          refine sd E (o_mv (E.ev rfl)) rfl rfl rfl fun a E => ?_
          refine sd E (o_bi (E.ev rfl) (E.ev rfl) rfl) rfl rfl rfl fun a E => ?_
          refine sd E (o_bi (E.ev rfl) (E.ev rfl) rfl) rfl rfl rfl fun a E => ?_
          refine sd E (o_bi (E.ev rfl) (E.ev rfl) rfl) rfl rfl rfl fun a E => ?_
          refine sd E (o_as (E.ev rfl)) rfl rfl rfl fun a E => ?_
          refine GL_nil ?_
          refine ebn ?_
          refine tgn ?_
          refine G_region ?_
          refine sd E (o_bi (E.ev rfl) (E.ev rfl) rfl) rfl rfl rfl fun a E => ?_
          refine sd E (o_mv (E.ev rfl)) rfl rfl rfl fun a E => ?_
          refine GL_nil ?_
          obtain rfl := Option.some.inj hf2
          exact lpn ⟨_, _, _, _, rfl, rfl, t3, o3, ln2, (((((((E.nil.ad E rfl rfl).ad E rfl rfl).ad E rfl rfl).ad E rfl rfl).ad E rfl rfl).ad E rfl rfl).ad E rfl rfl)⟩
        · have hf2 := cF ht hf2
          refine G_exit ?_
          refine tge ?_
          obtain rfl := Option.some.inj hf2
          refine lpe fun hr => ?_
          subst hr
          refine ebk ?_
          refine ctn ?_
          exact ⟨_, _, _, _, hf1, rfl, t3, o3, ln2, (((((((E.nil.ad E rfl rfl).ad E rfl rfl).ad E rfl rfl).ad E rfl rfl).ad E rfl rfl).ad E rfl rfl).ad E rfl rfl)⟩
      · rintro a _ ⟨x11, x12, x13, s4, hf1, rfl, t4, o4, ln3, E⟩
        dsimp only [m_103_2k] at hf1
        refine tgn ?_
        refine G_region ?_
        refine sd E (o_mv (E.ev rfl)) rfl rfl rfl fun a E => ?_
        refine sd E (o_mv (E.ev rfl)) rfl rfl rfl fun a E => ?_
        obtain ⟨x14, hx1, hf1⟩ := ob_some hf1
        refine sd E (o_ixa Try.underlying157 Try.sizeOf122 (E.ev rfl) (E.ev rfl) (ix_some hx1).1 (ix_some hx1).2) rfl rfl rfl fun a E => ?_
        obtain ⟨x15, hx2, hf1⟩ := ob_some hf1
        refine shN E (o_sta Try.sizeOf122 o4 (E.ev rfl) (E.ev rfl) hx2) rfl rfl ?_
        rintro _ s5 ⟨o5, t5⟩
        refine GL_nil ?_
        refine ebn ?_
        refine tgn ?_
        refine G_region ?_
        refine sd E (o_bi (E.ev rfl) (E.ev rfl) rfl) rfl rfl rfl fun a E => ?_
        refine sd E (o_mv (E.ev rfl)) rfl rfl rfl fun a E => ?_
        refine GL_nil ?_
        obtain rfl := Option.some.inj hf1
        exact lpn ⟨_, _, _, rfl, rfl, ((t2.trans t4).trans (t5.mono (by intro t h; subst h; rfl))), o5, ((st_len hx2).trans ln3), (((E.nil.ad E rfl rfl).ad E rfl rfl).ad E rfl rfl)⟩
    · have hf1 := cF ht hf1
      refine G_exit ?_
      refine tge ?_
      obtain rfl := Option.some.inj hf1
      refine lpe fun hr => ?_
      subst hr
      refine ebk ?_
      refine ctn ?_
      exact ⟨_, _, _, hm, rfl, t2, o2, ln1, (((E.nil.ad E rfl rfl).ad E rfl rfl).ad E rfl rfl)⟩
  · rintro a _ ⟨x16, x17, s6, hm, rfl, t6, o6, ln4, E⟩
    dsimp only [m_103_1k] at hm
    refine tgn ?_
    refine G_seq ?_
    refine G_region ?_
    refine sd E (o_as (E.ev rfl)) rfl rfl rfl fun a E => ?_
    refine GL_nil ?_
    refine tgn ?_
    refine G_ret ?_
    cases hm
    obtain ⟨s7, e1, o7, t7⟩ := o6.fz
    rw [e1]
    exact fin1 E rfl rfl ⟨((((Tr.refl No s).stepN t1).step hk t6 (fun t h => .inr (Nat.le_of_eq (Eq.symm h)))).step hk t7 (by intro t h; subst h; exact .inr (Nat.le_refl _))), _, rfl, o7, ln4⟩

end Go.Proofs.Ytdkfdmalbbfbmaa
