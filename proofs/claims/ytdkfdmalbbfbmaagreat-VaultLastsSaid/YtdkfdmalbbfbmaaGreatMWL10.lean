/- Models and walks, printed by a program of ours. -/
import Derived.Test.YtdkfdmalbbfbmaaGreatMWL8
import Derived.Test.YtdkfdmalbbfbmaaGreatMWL9
/- Models and walks, printed by a program of ours. -/
namespace Go.Proofs.YtdkfdmalbbfbmaaGreat
open Go
set_option maxRecDepth 4000
-- gimmal/sums.Open

noncomputable def m_91 (x0 : Int) : Option (Int × Int × Int) :=
  some (IntKind.wrap .i64 (Int.fdiv x0 (2 ^ min (Int.toNat 56) (IntKind.bits .u64))), IntKind.wrap .i64 (IntKind.wrap .u64 (BitVec.ofInt (IntKind.bits .u64) (Int.fdiv x0 (2 ^ min (Int.toNat 32) (IntKind.bits .u64))) &&& BitVec.ofInt (IntKind.bits .u64) 16777215).toNat), IntKind.wrap .u32 x0)
theorem ok_91 (s : St) {x0 : Int}  {r0y : Int} {r1y : Int} {r2y : Int} (hm : m_91 x0 = some (r0y, r1y, r2y)) :
    Ok Tryz.prog 97 ([.int .u64 x0] : List Value).toArray s fun v s' => Tr No s s' ∧ v = .tuple #[.int .i64 r0y, .int .i64 r1y, .int .u32 r2y] := by
  unfold m_91 at hm
  obtain ⟨k, hk⟩ := s.fresh
  refine ok_of (n := 14) _ Tryz.func97 rfl _ rfl rfl fun a E => ?_
  refine G_seq ?_
  refine G_region ?_
  refine sd E (o_as (E.ev rfl)) rfl rfl rfl fun a E => ?_
  refine sd E (o_as (E.ev rfl)) rfl rfl rfl fun a E => ?_
  refine sd E (o_as (E.ev rfl)) rfl rfl rfl fun a E => ?_
  refine GL_nil ?_
  refine tgn ?_
  refine G_seq ?_
  refine G_region ?_
  refine sd E (o_mv (E.ev rfl)) rfl rfl rfl fun a E => ?_
  refine sd E (o_shr (E.ev rfl) (E.ev rfl) rfl) rfl rfl rfl fun a E => ?_
  refine sd E (o_cv Tryz.underlying39 Tryz.underlying3 (E.ev rfl)) rfl rfl rfl fun a E => ?_
  refine sd E (o_mv (E.ev rfl)) rfl rfl rfl fun a E => ?_
  refine sd E (o_shr (E.ev rfl) (E.ev rfl) rfl) rfl rfl rfl fun a E => ?_
  refine sd E (o_bi (E.ev rfl) (E.ev rfl) rfl) rfl rfl rfl fun a E => ?_
  refine sd E (o_cv Tryz.underlying39 Tryz.underlying3 (E.ev rfl)) rfl rfl rfl fun a E => ?_
  refine sd E (o_mv (E.ev rfl)) rfl rfl rfl fun a E => ?_
  refine sd E (o_cv Tryz.underlying39 Tryz.underlying126 (E.ev rfl)) rfl rfl rfl fun a E => ?_
  refine sd E (o_as (E.ev rfl)) rfl rfl rfl fun a E => ?_
  refine sd E (o_as (E.ev rfl)) rfl rfl rfl fun a E => ?_
  refine sd E (o_as (E.ev rfl)) rfl rfl rfl fun a E => ?_
  refine GL_nil ?_
  refine tgn ?_
  refine G_ret ?_
  cases hm
  exact fin3 E rfl rfl rfl rfl ⟨(Tr.refl No s), rfl⟩

-- gimmal/sums.Mark

noncomputable def m_82 (x0 : Int) (x1 : Int) (x2 : List Int) : Option (Int × Bool) :=
  ob (bif decide (x0 < 0) then (some true) else (bif decide (x0 > 255) then (some true) else (bif decide (x1 < 0) then (some true) else (some (decide (x1 > 16777215)))))) fun t1 => bif t1 then (some (0, false)) else (ob (ap [IntKind.wrap .u64 x0, IntKind.wrap .u64 x1] x2) fun x4 => ob (m_92 x4) fun y1 => some (IntKind.wrap .u64 (BitVec.ofInt (IntKind.bits .u64) (IntKind.wrap .u64 (BitVec.ofInt (IntKind.bits .u64) (IntKind.wrap .u64 ((IntKind.wrap .u64 x0) * 2 ^ min (Int.toNat 56) (IntKind.bits .u64))) ||| BitVec.ofInt (IntKind.bits .u64) (IntKind.wrap .u64 ((IntKind.wrap .u64 x1) * 2 ^ min (Int.toNat 32) (IntKind.bits .u64)))).toNat) ||| BitVec.ofInt (IntKind.bits .u64) (IntKind.wrap .u64 y1)).toNat, true))
theorem ok_82 (s : St) {x0 : Int} {x1 : Int} {x2 : List Int} {w1 : Value} (h1 : Sl kU s w1 x2) {r0y : Int} {r1y : Bool} (hm : m_82 x0 x1 x2 = some (r0y, r1y)) :
    Ok Tryz.prog 83 ([.int .i64 x0, .int .i64 x1, w1] : List Value).toArray s fun v s' => Tr No s s' ∧ v = .tuple #[.int .u64 r0y, .bool r1y] := by
  unfold m_82 at hm
  obtain ⟨k, hk⟩ := s.fresh
  refine ok_of (n := 41) _ Tryz.func83 rfl _ rfl rfl fun a E => ?_
  refine G_seq ?_
  refine G_region ?_
  refine sd E (o_as (E.ev rfl)) rfl rfl rfl fun a E => ?_
  refine sd E (o_as (E.ev rfl)) rfl rfl rfl fun a E => ?_
  refine GL_nil ?_
  refine tgn ?_
  refine G_seq ?_
  refine G_seq ?_
  obtain ⟨t1, hc1, hm⟩ := ob_some hm
  refine G_regm (fun a' w' => ∃ s', w' = s'.w ∧ Tr No s s' ∧ En [] 41 a' [(22, .bool t1), (0, .int .i64 x0), (1, .int .i64 x1), (2, w1), (6, .int .u64 0), (7, .bool false)]) ?_ ?_
  · refine sd E (o_mv (E.ev rfl)) rfl rfl rfl fun a E => ?_
    refine sd E (o_bi (E.ev rfl) (E.ev rfl) rfl) rfl rfl rfl fun a E => ?_
    refine sd E (o_mv (E.ev rfl)) rfl rfl rfl fun a E => ?_
    refine bcase (E.ev (x := .tmp 11) rfl) (fun ht => ?_) (fun ht => ?_)
    · have hc1 := cT ht hc1
      rw [ht] at E
      refine sk E rfl rfl rfl fun a E => ?_
      refine sk E rfl rfl rfl fun a E => ?_
      refine sd E (o_pickT (E.ev rfl) (E.ev rfl)) rfl rfl rfl fun a E => ?_
      refine sd E (o_mv (E.ev rfl)) rfl rfl rfl fun a E => ?_
      refine sk E rfl rfl rfl fun a E => ?_
      refine sk E rfl rfl rfl fun a E => ?_
      refine sd E (o_pickT (E.ev rfl) (E.ev rfl)) rfl rfl rfl fun a E => ?_
      refine sd E (o_mv (E.ev rfl)) rfl rfl rfl fun a E => ?_
      refine sk E rfl rfl rfl fun a E => ?_
      refine sk E rfl rfl rfl fun a E => ?_
      refine sd E (o_pickT (E.ev rfl) (E.ev rfl)) rfl rfl rfl fun a E => ?_
      obtain rfl := Option.some.inj hc1
      exact GL_nil ⟨_, rfl, (Tr.refl _ _), ((((((E.nil.ad E rfl rfl).ad E rfl rfl).ad E rfl rfl).ad E rfl rfl).ad E rfl rfl).ad E rfl rfl)⟩
    · have hc1 := cF ht hc1
      rw [ht] at E
      refine sd E (o_mv (E.ev rfl)) rfl rfl rfl fun a E => ?_
      refine sd E (o_bi (E.ev rfl) (E.ev rfl) rfl) rfl rfl rfl fun a E => ?_
      refine sd E (o_pickF (E.ev rfl) (E.ev rfl)) rfl rfl rfl fun a E => ?_
      refine sd E (o_mv (E.ev rfl)) rfl rfl rfl fun a E => ?_
      refine bcase (E.ev (x := .tmp 15) rfl) (fun ht => ?_) (fun ht => ?_)
      · have hc1 := cT ht hc1
        rw [ht] at E
        refine sk E rfl rfl rfl fun a E => ?_
        refine sk E rfl rfl rfl fun a E => ?_
        refine sd E (o_pickT (E.ev rfl) (E.ev rfl)) rfl rfl rfl fun a E => ?_
        refine sd E (o_mv (E.ev rfl)) rfl rfl rfl fun a E => ?_
        refine sk E rfl rfl rfl fun a E => ?_
        refine sk E rfl rfl rfl fun a E => ?_
        refine sd E (o_pickT (E.ev rfl) (E.ev rfl)) rfl rfl rfl fun a E => ?_
        obtain rfl := Option.some.inj hc1
        exact GL_nil ⟨_, rfl, (Tr.refl _ _), ((((((E.nil.ad E rfl rfl).ad E rfl rfl).ad E rfl rfl).ad E rfl rfl).ad E rfl rfl).ad E rfl rfl)⟩
      · have hc1 := cF ht hc1
        rw [ht] at E
        refine sd E (o_mv (E.ev rfl)) rfl rfl rfl fun a E => ?_
        refine sd E (o_bi (E.ev rfl) (E.ev rfl) rfl) rfl rfl rfl fun a E => ?_
        refine sd E (o_pickF (E.ev rfl) (E.ev rfl)) rfl rfl rfl fun a E => ?_
        refine sd E (o_mv (E.ev rfl)) rfl rfl rfl fun a E => ?_
        refine bcase (E.ev (x := .tmp 19) rfl) (fun ht => ?_) (fun ht => ?_)
        · have hc1 := cT ht hc1
          rw [ht] at E
          refine sk E rfl rfl rfl fun a E => ?_
          refine sk E rfl rfl rfl fun a E => ?_
          refine sd E (o_pickT (E.ev rfl) (E.ev rfl)) rfl rfl rfl fun a E => ?_
          obtain rfl := Option.some.inj hc1
          exact GL_nil ⟨_, rfl, (Tr.refl _ _), ((((((E.nil.ad E rfl rfl).ad E rfl rfl).ad E rfl rfl).ad E rfl rfl).ad E rfl rfl).ad E rfl rfl)⟩
        · have hc1 := cF ht hc1
          rw [ht] at E
          refine sd E (o_mv (E.ev rfl)) rfl rfl rfl fun a E => ?_
          refine sd E (o_bi (E.ev rfl) (E.ev rfl) rfl) rfl rfl rfl fun a E => ?_
          refine sd E (o_pickF (E.ev rfl) (E.ev rfl)) rfl rfl rfl fun a E => ?_
          obtain rfl := Option.some.inj hc1
          exact GL_nil ⟨_, rfl, (Tr.refl _ _), ((((((E.nil.ad E rfl rfl).ad E rfl rfl).ad E rfl rfl).ad E rfl rfl).ad E rfl rfl).ad E rfl rfl)⟩
  rintro a _ ⟨s1, rfl, t2, E⟩
  refine tgn ?_
  refine G_cond (E.ev rfl) (fun ht => ?_) (fun ht => ?_)
  · have hm := cT ht hm
    refine G_seq ?_
    refine G_region ?_
    refine sd E (o_as (E.ev rfl)) rfl rfl rfl fun a E => ?_
    refine sd E (o_as (E.ev rfl)) rfl rfl rfl fun a E => ?_
    refine GL_nil ?_
    refine tgn ?_
    refine G_ret ?_
    refine tgr ?_
    cases hm
    exact fin2 E rfl rfl rfl ⟨((Tr.refl No s).stepN t2), rfl⟩
  · have hm := cF ht hm
    refine G_skip ?_
    refine tgn ?_
    refine G_seq ?_
    refine G_region ?_
    refine sd E (o_mv (E.ev rfl)) rfl rfl rfl fun a E => ?_
    refine sd E (o_cv Tryz.underlying3 Tryz.underlying39 (E.ev rfl)) rfl rfl rfl fun a E => ?_
    refine sd E (o_mv (E.ev rfl)) rfl rfl rfl fun a E => ?_
    refine sd E (o_cv Tryz.underlying3 Tryz.underlying39 (E.ev rfl)) rfl rfl rfl fun a E => ?_
    refine sh E (o_bso (k, 1001) Tryz.underlying36 Tryz.sizeOf39 Tryz.zeroValue39 (qs := #[(0, .int .u64 (IntKind.wrap .u64 x0)), (1, .int .u64 (IntKind.wrap .u64 x1))]) (cells := #[.int .u64 (IntKind.wrap .u64 x0), .int .u64 (IntKind.wrap .u64 x1)]) (by simp only [List.map_toArray, List.map_cons, List.map_nil, E.ev (x := .tmp 24) rfl, E.ev (x := .tmp 26) rfl]) rfl rfl (by kernel_rfl)) rfl rfl rfl ?_
    rintro a _ s2 ⟨b1, rfl, h2, t3⟩ E
    have h3 := h2.bd (K := kU) (xs := [IntKind.wrap .u64 x0, IntKind.wrap .u64 x1]) (B := 0) (Nat.zero_le _) ⟨_, _, rfl, rfl, ⟨_, _, rfl, rfl, rfl⟩⟩ rfl rfl
    refine sd E (o_mv (E.ev rfl)) rfl rfl rfl fun a E => ?_
    obtain ⟨x4, hx1, hm⟩ := ob_some hm
    obtain ⟨hx1, hz⟩ := ap_some hx1
    refine sh E (o_app Tryz.underlying36 Tryz.type39 rfl rfl rfl rfl rfl rfl h3 ((h1.tr t2).tr t3).rd (E.ev rfl) (E.ev rfl) hx1 (Nat.zero_le _)) rfl rfl rfl ?_
    rintro a w2 s3 ⟨h4, t4⟩ E
    rw [hz] at h4
    obtain ⟨s4, e1, h5, t5⟩ := h4.fz
    rw [e1]
    obtain ⟨y1, hx2, hm⟩ := ob_some hm
    refine sh E (o_ok Tryz.call92 (E.evs rfl) (E.ev rfl) (ok_92 _ (x0 := x4) h5 hx2)) rfl rfl rfl ?_
    rintro a _ s5 ⟨t6, rfl⟩ E
    refine sd E (o_as (E.ev rfl)) rfl rfl rfl fun a E => ?_
    refine GL_nil ?_
    refine tgn ?_
    refine G_seq ?_
    refine G_region ?_
    refine sd E (o_mv (E.ev rfl)) rfl rfl rfl fun a E => ?_
    refine sd E (o_cv Tryz.underlying3 Tryz.underlying39 (E.ev rfl)) rfl rfl rfl fun a E => ?_
    refine sd E (o_shl (E.ev rfl) (E.ev rfl) rfl) rfl rfl rfl fun a E => ?_
    refine sd E (o_mv (E.ev rfl)) rfl rfl rfl fun a E => ?_
    refine sd E (o_cv Tryz.underlying3 Tryz.underlying39 (E.ev rfl)) rfl rfl rfl fun a E => ?_
    refine sd E (o_shl (E.ev rfl) (E.ev rfl) rfl) rfl rfl rfl fun a E => ?_
    refine sd E (o_bi (E.ev rfl) (E.ev rfl) rfl) rfl rfl rfl fun a E => ?_
    refine sd E (o_mv (E.ev rfl)) rfl rfl rfl fun a E => ?_
    refine sd E (o_cv Tryz.underlying126 Tryz.underlying39 (E.ev rfl)) rfl rfl rfl fun a E => ?_
    refine sd E (o_bi (E.ev rfl) (E.ev rfl) rfl) rfl rfl rfl fun a E => ?_
    refine sd E (o_as (E.ev rfl)) rfl rfl rfl fun a E => ?_
    refine sd E (o_as (E.ev rfl)) rfl rfl rfl fun a E => ?_
    refine GL_nil ?_
    refine tgn ?_
    refine G_ret ?_
    cases hm
    exact fin2 E rfl rfl rfl ⟨((((((Tr.refl No s).stepN t2).stepN t3).step hk t4 (by intro t h; subst h; exact .inr (Nat.le_refl _))).step hk t5 (by intro t h; subst h; exact .inr (Nat.le_refl _))).stepN t6), rfl⟩

-- gimmal/frames.mark

noncomputable def m_67 (x0 : Int) (x1 : Int) (x2 : Int) (x3 : List Int) : Option Int :=
  ob (ap [IntKind.wrap .u64 x0, IntKind.wrap .u64 x1] x3) fun x5 => ob (m_82 x2 (x3.length : Int) x5) fun (y1, y2) => some y1
theorem ok_67 (s : St) {x0 : Int} {x1 : Int} {x2 : Int} {x3 : List Int} {w1 : Value} (h1 : Sl kU s w1 x3) {r0y : Int} (hm : m_67 x0 x1 x2 x3 = some r0y) :
    Ok Tryz.prog 80 ([.int .i64 x0, .int .i64 x1, .int .i64 x2, w1] : List Value).toArray s fun v s' => Tr No s s' ∧ v = .int .u64 r0y := by
  unfold m_67 at hm
  obtain ⟨k, hk⟩ := s.fresh
  refine ok_of (n := 26) _ Tryz.func80 rfl _ rfl rfl fun a E => ?_
  refine G_seq ?_
  refine G_region ?_
  refine sd E (o_as (E.ev rfl)) rfl rfl rfl fun a E => ?_
  refine GL_nil ?_
  refine tgn ?_
  refine G_seq ?_
  refine G_region ?_
  refine sd E (o_mv (E.ev rfl)) rfl rfl rfl fun a E => ?_
  refine sd E (o_mv (E.ev rfl)) rfl rfl rfl fun a E => ?_
  refine sd E (o_lenS (xs := x3) Tryz.underlying36 (E.ev rfl) h1.isS) rfl rfl rfl fun a E => ?_
  refine sd E (o_mv (E.ev rfl)) rfl rfl rfl fun a E => ?_
  refine sd E (o_cv Tryz.underlying3 Tryz.underlying39 (E.ev rfl)) rfl rfl rfl fun a E => ?_
  refine sd E (o_mv (E.ev rfl)) rfl rfl rfl fun a E => ?_
  refine sd E (o_cv Tryz.underlying3 Tryz.underlying39 (E.ev rfl)) rfl rfl rfl fun a E => ?_
  refine sh E (o_bso (k, 1001) Tryz.underlying36 Tryz.sizeOf39 Tryz.zeroValue39 (qs := #[(0, .int .u64 (IntKind.wrap .u64 x0)), (1, .int .u64 (IntKind.wrap .u64 x1))]) (cells := #[.int .u64 (IntKind.wrap .u64 x0), .int .u64 (IntKind.wrap .u64 x1)]) (by simp only [List.map_toArray, List.map_cons, List.map_nil, E.ev (x := .tmp 16) rfl, E.ev (x := .tmp 18) rfl]) rfl rfl (by kernel_rfl)) rfl rfl rfl ?_
  rintro a _ s1 ⟨b1, rfl, h2, t1⟩ E
  have h3 := h2.bd (K := kU) (xs := [IntKind.wrap .u64 x0, IntKind.wrap .u64 x1]) (B := 0) (Nat.zero_le _) ⟨_, _, rfl, rfl, ⟨_, _, rfl, rfl, rfl⟩⟩ rfl rfl
  refine sd E (o_mv (E.ev rfl)) rfl rfl rfl fun a E => ?_
  obtain ⟨x5, hx1, hm⟩ := ob_some hm
  obtain ⟨hx1, hz⟩ := ap_some hx1
  refine sh E (o_app Tryz.underlying36 Tryz.type39 rfl rfl rfl rfl rfl rfl h3 (h1.tr t1).rd (E.ev rfl) (E.ev rfl) hx1 (Nat.zero_le _)) rfl rfl rfl ?_
  rintro a w2 s2 ⟨h4, t2⟩ E
  rw [hz] at h4
  obtain ⟨s3, e1, h5, t3⟩ := h4.fz
  rw [e1]
  obtain ⟨⟨y1, y2⟩, hx2, hm⟩ := ob_some hm
  refine sh E (o_ok Tryz.call83 (E.evs rfl) (E.ev rfl) (ok_82 _ (x0 := x2) (x1 := (x3.length : Int)) (x2 := x5) h5 hx2)) rfl rfl rfl ?_
  rintro a _ s4 ⟨t4, rfl⟩ E
  refine sd E (o_mv (E.ev rfl)) rfl rfl rfl fun a E => ?_
  refine sd E (o_ext (v := .int .u64 y1) (E.ev rfl) rfl) rfl rfl rfl fun a E => ?_
  refine sd E (o_ext (v := .bool y2) (E.ev rfl) rfl) rfl rfl rfl fun a E => ?_
  refine sd E (o_as (E.ev rfl)) rfl rfl rfl fun a E => ?_
  refine sd E (o_as (E.ev rfl)) rfl rfl rfl fun a E => ?_
  refine GL_nil ?_
  refine tgn ?_
  refine G_seq ?_
  refine G_region ?_
  refine sd E (o_mv (E.ev rfl)) rfl rfl rfl fun a E => ?_
  refine sd E (o_as (E.ev rfl)) rfl rfl rfl fun a E => ?_
  refine GL_nil ?_
  refine tgn ?_
  refine G_ret ?_
  cases hm
  exact fin1 E rfl rfl ⟨(((((Tr.refl No s).stepN t1).step hk t2 (by intro t h; subst h; exact .inr (Nat.le_refl _))).step hk t3 (by intro t h; subst h; exact .inr (Nat.le_refl _))).stepN t4), rfl⟩

-- gimmal/frames.number

noncomputable def m_66 (x0 : Int) : Option Bool :=
  ob (bif decide (x0 ≥ 0) then (some (decide (x0 ≤ 4294967295))) else (some false)) fun t1 => some t1
theorem ok_66 (s : St) {x0 : Int}  {r0y : Bool} (hm : m_66 x0 = some r0y) :
    Ok Tryz.prog 62 ([.int .i64 x0] : List Value).toArray s fun v s' => Tr No s s' ∧ v = .bool r0y := by
  unfold m_66 at hm
  obtain ⟨k, hk⟩ := s.fresh
  refine ok_of (n := 9) _ Tryz.func62 rfl _ rfl rfl fun a E => ?_
  refine G_seq ?_
  refine G_region ?_
  refine sd E (o_as (E.ev rfl)) rfl rfl rfl fun a E => ?_
  refine GL_nil ?_
  refine tgn ?_
  refine G_seq ?_
  obtain ⟨t1, hc1, hm⟩ := ob_some hm
  refine G_regm (fun a' w' => ∃ s', w' = s'.w ∧ Tr No s s' ∧ En [] 9 a' [(2, .bool t1), (0, .int .i64 x0)]) ?_ ?_
  · refine sd E (o_mv (E.ev rfl)) rfl rfl rfl fun a E => ?_
    refine sd E (o_bi (E.ev rfl) (E.ev rfl) rfl) rfl rfl rfl fun a E => ?_
    refine sd E (o_mv (E.ev rfl)) rfl rfl rfl fun a E => ?_
    refine bcase (E.ev (x := .tmp 5) rfl) (fun ht => ?_) (fun ht => ?_)
    · have hc1 := cT ht hc1
      rw [ht] at E
      refine sd E (o_mv (E.ev rfl)) rfl rfl rfl fun a E => ?_
      refine sd E (o_bi (E.ev rfl) (E.ev rfl) rfl) rfl rfl rfl fun a E => ?_
      refine sd E (o_pickT (E.ev rfl) (E.ev rfl)) rfl rfl rfl fun a E => ?_
      refine sd E (o_as (E.ev rfl)) rfl rfl rfl fun a E => ?_
      obtain rfl := Option.some.inj hc1
      exact GL_nil ⟨_, rfl, (Tr.refl _ _), ((E.nil.ad E rfl rfl).ad E rfl rfl)⟩
    · have hc1 := cF ht hc1
      rw [ht] at E
      refine sk E rfl rfl rfl fun a E => ?_
      refine sk E rfl rfl rfl fun a E => ?_
      refine sd E (o_pickF (E.ev rfl) (E.ev rfl)) rfl rfl rfl fun a E => ?_
      refine sd E (o_as (E.ev rfl)) rfl rfl rfl fun a E => ?_
      obtain rfl := Option.some.inj hc1
      exact GL_nil ⟨_, rfl, (Tr.refl _ _), ((E.nil.ad E rfl rfl).ad E rfl rfl)⟩
  rintro a _ ⟨s1, rfl, t2, E⟩
  refine tgn ?_
  refine G_ret ?_
  cases hm
  exact fin1 E rfl rfl ⟨((Tr.refl No s).stepN t2), rfl⟩

-- gimmal/frames.Put

noncomputable def m_38 (x0 : Int) (x1 : Int) (x2 : Frame) : Option (List Int) :=
  ob (ob (m_36 x2) fun y1 => bif !y1 then (some true) else (ob (m_66 x0) fun y2 => bif !y2 then (some true) else (ob (m_66 x1) fun y3 => some (!y3)))) fun t2 => bif t2 then (some []) else (ob (m_67 x0 x1 x2.Kind x2.Words) fun y4 => ob (ap [y4] x2.Words) fun x4 => some x4)
theorem ok_38 (s : St) {x0 : Int} {x1 : Int} {x2 : Frame} {w1 : Value} (h1 : Sl kU s w1 x2.Words) {r0y : List Int} (hm : m_38 x0 x1 x2 = some r0y) :
    Ok Tryz.prog 64 ([.int .i64 x0, .int .i64 x1, .agg #[.int .i64 x2.Kind, w1]] : List Value).toArray s fun v s' => Tr No s s' ∧ ∃ w2, v = w2 ∧ Sl kU s' w2 r0y := by
  unfold m_38 at hm
  obtain ⟨k, hk⟩ := s.fresh
  refine ok_of (n := 31) _ Tryz.func64 rfl _ rfl rfl fun a E => ?_
  refine G_seq ?_
  refine G_region ?_
  obtain ⟨a1, c1, rfl⟩ := h1.isS
  refine sh E (o_box (E.ev rfl)) rfl rfl rfl ?_
  rintro a _ s1 ⟨b1, rfl, o1, t1⟩ E
  refine sd E (o_as (E.ev rfl)) rfl rfl rfl fun a E => ?_
  refine GL_nil ?_
  refine tgn ?_
  refine G_seq ?_
  refine G_seq ?_
  obtain ⟨t2, hc1, hm⟩ := ob_some hm
  refine G_regm (fun a' w' => ∃ s', w' = s'.w ∧ Tr No s1 s' ∧ En [] 31 a' [(19, .bool t2), (0, .int .i64 x0), (1, .int .i64 x1), (2, .agg #[.int .i64 x2.Kind, (.slice a1 x2.Words.length c1)]), (5, .pointer (some ⟨b1, 0, none⟩)), (6, (.slice none 0 0))]) ?_ ?_
  · refine sd E (o_ldc (cs := #[.int .i64 x2.Kind, (.slice a1 x2.Words.length c1)]) Tryz.isAgg38 Tryz.sizeOf38 (E.ev rfl) o1.cell) rfl rfl rfl fun a E => ?_
    obtain ⟨y1, hx1, hc1⟩ := ob_some hc1
    refine sh E (o_ok Tryz.call61 (E.evs rfl) (E.ev rfl) (ok_36 _ (x0 := x2) (h1.tr t1) hx1)) rfl rfl rfl ?_
    rintro a _ s2 ⟨t3, rfl⟩ E
    refine sd E (o_not (E.ev rfl)) rfl rfl rfl fun a E => ?_
    refine sd E (o_mv (E.ev rfl)) rfl rfl rfl fun a E => ?_
    refine bcase (E.ev (x := .tmp 10) rfl) (fun ht => ?_) (fun ht => ?_)
    · have hc1 := cT ht hc1
      rw [ht] at E
      refine sk E rfl rfl rfl fun a E => ?_
      refine sk E rfl rfl rfl fun a E => ?_
      refine sk E rfl rfl rfl fun a E => ?_
      refine sd E (o_pickT (E.ev rfl) (E.ev rfl)) rfl rfl rfl fun a E => ?_
      refine sd E (o_mv (E.ev rfl)) rfl rfl rfl fun a E => ?_
      refine sk E rfl rfl rfl fun a E => ?_
      refine sk E rfl rfl rfl fun a E => ?_
      refine sk E rfl rfl rfl fun a E => ?_
      refine sd E (o_pickT (E.ev rfl) (E.ev rfl)) rfl rfl rfl fun a E => ?_
      obtain rfl := Option.some.inj hc1
      exact GL_nil ⟨_, rfl, t3, ((((((E.nil.ad E rfl rfl).ad E rfl rfl).ad E rfl rfl).ad E rfl rfl).ad E rfl rfl).ad E rfl rfl)⟩
    · have hc1 := cF ht hc1
      rw [ht] at E
      refine sd E (o_mv (E.ev rfl)) rfl rfl rfl fun a E => ?_
      obtain ⟨y2, hx2, hc1⟩ := ob_some hc1
      refine sh E (o_ok Tryz.call62 (E.evs rfl) (E.ev rfl) (ok_66 _ (x0 := x0) hx2)) rfl rfl rfl ?_
      rintro a _ s3 ⟨t4, rfl⟩ E
      refine sd E (o_not (E.ev rfl)) rfl rfl rfl fun a E => ?_
      refine sd E (o_pickF (E.ev rfl) (E.ev rfl)) rfl rfl rfl fun a E => ?_
      refine sd E (o_mv (E.ev rfl)) rfl rfl rfl fun a E => ?_
      refine bcase (E.ev (x := .tmp 15) rfl) (fun ht => ?_) (fun ht => ?_)
      · have hc1 := cT ht hc1
        rw [ht] at E
        refine sk E rfl rfl rfl fun a E => ?_
        refine sk E rfl rfl rfl fun a E => ?_
        refine sk E rfl rfl rfl fun a E => ?_
        refine sd E (o_pickT (E.ev rfl) (E.ev rfl)) rfl rfl rfl fun a E => ?_
        obtain rfl := Option.some.inj hc1
        exact GL_nil ⟨_, rfl, (t3.trans t4), ((((((E.nil.ad E rfl rfl).ad E rfl rfl).ad E rfl rfl).ad E rfl rfl).ad E rfl rfl).ad E rfl rfl)⟩
      · have hc1 := cF ht hc1
        rw [ht] at E
        refine sd E (o_mv (E.ev rfl)) rfl rfl rfl fun a E => ?_
        obtain ⟨y3, hx3, hc1⟩ := ob_some hc1
        refine sh E (o_ok Tryz.call62 (E.evs rfl) (E.ev rfl) (ok_66 _ (x0 := x1) hx3)) rfl rfl rfl ?_
        rintro a _ s4 ⟨t5, rfl⟩ E
        refine sd E (o_not (E.ev rfl)) rfl rfl rfl fun a E => ?_
        refine sd E (o_pickF (E.ev rfl) (E.ev rfl)) rfl rfl rfl fun a E => ?_
        obtain rfl := Option.some.inj hc1
        exact GL_nil ⟨_, rfl, ((t3.trans t4).trans t5), ((((((E.nil.ad E rfl rfl).ad E rfl rfl).ad E rfl rfl).ad E rfl rfl).ad E rfl rfl).ad E rfl rfl)⟩
  rintro a _ ⟨s5, rfl, t6, E⟩
  refine tgn ?_
  refine G_cond (E.ev rfl) (fun ht => ?_) (fun ht => ?_)
  · have hm := cT ht hm
    refine G_seq ?_
    refine G_region ?_
    refine sd E (o_as (E.ev rfl)) rfl rfl rfl fun a E => ?_
    refine GL_nil ?_
    refine tgn ?_
    refine G_ret ?_
    refine tgr ?_
    cases hm
    exact fin1 E rfl rfl ⟨(((Tr.refl No s).stepN t1).stepN t6), _, rfl, Sl.nil⟩
  · have hm := cF ht hm
    refine G_skip ?_
    refine tgn ?_
    refine G_seq ?_
    refine G_drw k (by rfl) [0, 1, 2, 3, 4, 5, 8, 9, 6, 7, 10, 11] (by kernel_rfl) ?_
    intro s6 t7
    refine dp E rfl (fun w => (o_mv (E.ev rfl))) rfl rfl rfl fun a E => ?_
    refine dp E rfl (fun w => (o_mv (E.ev rfl))) rfl rfl rfl fun a E => ?_
    refine dp E rfl (fun w => (o_fa Tryz.underlying38 rfl Tryz.sizeOf3 (E.ev rfl))) rfl rfl rfl fun a E => ?_
    refine dr E rfl (fun s' t => (o_ld Tryz.isAgg3 (E.ev rfl) (((((o1.tr t6).tr t7).tr t).cell _).trans rfl))) rfl rfl rfl rfl fun a E => ?_
    refine dp E rfl (fun w => (o_fa Tryz.underlying38 rfl Tryz.sizeOf36 (E.ev rfl))) rfl rfl rfl fun a E => ?_
    refine dr E rfl (fun s' t => (o_ld Tryz.isAgg36 (E.ev rfl) (((((o1.tr t6).tr t7).tr t).cell _).trans rfl))) rfl rfl rfl rfl fun a E => ?_
    refine dp E rfl (fun w => (o_fa Tryz.underlying38 rfl Tryz.sizeOf36 (E.ev rfl))) rfl rfl rfl fun a E => ?_
    refine dr E rfl (fun s' t => (o_ld Tryz.isAgg36 (E.ev rfl) (((((o1.tr t6).tr t7).tr t).cell _).trans rfl))) rfl rfl rfl rfl fun a E => ?_
    obtain ⟨y4, hx4, hm⟩ := ob_some hm
    refine dh E rfl (o_ok Tryz.call80 (E.evs rfl) (E.ev rfl) (ok_67 _ (x0 := x0) (x1 := x1) (x2 := x2.Kind) (x3 := x2.Words) (((h1.tr t1).tr t6).tr t7) hx4)) (fun _ _ h => h.1) rfl rfl rfl rfl ?_
    rintro a _ s7 ⟨t8, rfl⟩ E
    refine dh E rfl (o_bso (k, 1001) Tryz.underlying36 Tryz.sizeOf39 Tryz.zeroValue39 (qs := #[(0, .int .u64 y4)]) (cells := #[.int .u64 y4]) (by simp only [List.map_toArray, List.map_cons, List.map_nil, E.ev (x := .tmp 26) rfl]) rfl rfl (by kernel_rfl)) (fun _ _ ⟨_, _, _, t⟩ => t) rfl rfl rfl rfl ?_
    rintro a _ s8 ⟨b2, rfl, h2, t9⟩ E
    have h3 := h2.bd (K := kU) (xs := [y4]) (B := 0) (Nat.zero_le _) ⟨_, _, rfl, rfl, rfl⟩ rfl rfl
    obtain ⟨x4, hx5, hm⟩ := ob_some hm
    obtain ⟨hx5, hz⟩ := ap_some hx5
    refine dl E rfl (o_app Tryz.underlying36 Tryz.type39 rfl rfl rfl rfl rfl rfl h3 (((((h1.tr t1).tr t6).tr t7).tr t8).tr t9).rd (E.ev rfl) (E.ev rfl) hx5 (Nat.zero_le _)) rfl rfl rfl rfl ?_
    rintro a w3 s9 ⟨h4, t10⟩ E
    rw [hz] at h4
    refine dp E rfl (fun w => (o_as (E.ev rfl))) rfl rfl rfl fun a E => ?_
    refine gd_nil ?_
    refine tgn ?_
    refine G_ret ?_
    cases hm
    obtain ⟨s10, e1, h5, t11⟩ := h4.fz
    rw [e1]
    exact fin1 E rfl rfl ⟨((((((((Tr.refl No s).stepN t1).stepN t6).stepN t7).stepN t8).stepN t9).step hk t10 (by intro t h; subst h; exact .inr (Nat.le_refl _))).step hk t11 (by intro t h; subst h; exact .inr (Nat.le_refl _))), _, rfl, h5⟩

-- gimmal/frames.Get

noncomputable def m_81 (x0 : Int) (x1 : Int) (x2 : List Int) : Option (Frame × Int × Bool) :=
  ob (bif (x2.length : Int) == 0 then (some true) else (ob (m_66 x0) fun y1 => bif !y1 then (some true) else (ob (m_66 x1) fun y2 => some (!y2)))) fun t2 => bif t2 then (some ((⟨0, []⟩ : Frame), 0, false)) else (ob (gt x2 0) fun x4 => ob (m_91 x4) fun (y3, y4, y5) => bif decide (y4 > (IntKind.wrap .i64 ((x2.length : Int) - 1))) then (some ((⟨0, []⟩ : Frame), 0, false)) else (ob (sl x2 1 (IntKind.wrap .i64 (1 + y4))) fun x5 => ob (m_39 x5) fun y6 => ob (ob (m_36 (⟨y3, y6⟩ : Frame)) fun y7 => bif !y7 then (some true) else (ob (gt x2 0) fun x6 => ob (m_67 x0 x1 y3 y6) fun y8 => some (y8 != x6))) fun t12 => bif t12 then (some ((⟨0, []⟩ : Frame), 0, false)) else (some ((⟨y3, y6⟩ : Frame), IntKind.wrap .i64 (1 + y4), true))))
theorem ok_81 (s : St) {x0 : Int} {x1 : Int} {x2 : List Int} {w1 : Value} (h1 : Sl kU s w1 x2) {r0y : Frame} {r1y : Int} {r2y : Bool} (hm : m_81 x0 x1 x2 = some (r0y, r1y, r2y)) :
    Ok Tryz.prog 89 ([.int .i64 x0, .int .i64 x1, w1] : List Value).toArray s fun v s' => Tr No s s' ∧ ∃ w2, v = .tuple #[.agg #[.int .i64 r0y.Kind, w2], .int .i64 r1y, .bool r2y] ∧ Sl kU s' w2 r0y.Words := by
  unfold m_81 at hm
  obtain ⟨k, hk⟩ := s.fresh
  refine ok_of (n := 67) _ Tryz.func89 rfl _ rfl rfl fun a E => ?_
  refine G_seq ?_
  refine G_region ?_
  refine sh E (o_al (k, 1001) Tryz.zeroValue38) rfl rfl rfl ?_
  rintro a _ s1 ⟨b1, rfl, o1, t1⟩ E
  refine sd E (o_as (E.ev rfl)) rfl rfl rfl fun a E => ?_
  refine sd E (o_as (E.ev rfl)) rfl rfl rfl fun a E => ?_
  refine GL_nil ?_
  refine tgn ?_
  refine G_seq ?_
  refine G_seq ?_
  obtain ⟨t2, hc1, hm⟩ := ob_some hm
  refine G_regm (fun a' w' => ∃ s', w' = s'.w ∧ Tr No s1 s' ∧ En [] 67 a' [(25, .bool t2), (0, .int .i64 x0), (1, .int .i64 x1), (2, w1), (6, .pointer (some ⟨b1, 0, none⟩)), (7, .int .i64 0), (8, .bool false)]) ?_ ?_
  · refine sd E (o_mv (E.ev rfl)) rfl rfl rfl fun a E => ?_
    refine sd E (o_lenS (xs := x2) Tryz.underlying36 (E.ev rfl) (h1.tr t1).isS) rfl rfl rfl fun a E => ?_
    refine sd E (o_bi (E.ev rfl) (E.ev rfl) rfl) rfl rfl rfl fun a E => ?_
    refine sd E (o_mv (E.ev rfl)) rfl rfl rfl fun a E => ?_
    refine bcase (E.ev (x := .tmp 16) rfl) (fun ht => ?_) (fun ht => ?_)
    · have hc1 := cT ht hc1
      rw [ht] at E
      refine sk E rfl rfl rfl fun a E => ?_
      refine sk E rfl rfl rfl fun a E => ?_
      refine sk E rfl rfl rfl fun a E => ?_
      refine sd E (o_pickT (E.ev rfl) (E.ev rfl)) rfl rfl rfl fun a E => ?_
      refine sd E (o_mv (E.ev rfl)) rfl rfl rfl fun a E => ?_
      refine sk E rfl rfl rfl fun a E => ?_
      refine sk E rfl rfl rfl fun a E => ?_
      refine sk E rfl rfl rfl fun a E => ?_
      refine sd E (o_pickT (E.ev rfl) (E.ev rfl)) rfl rfl rfl fun a E => ?_
      obtain rfl := Option.some.inj hc1
      exact GL_nil ⟨_, rfl, (Tr.refl _ _), (((((((E.nil.ad E rfl rfl).ad E rfl rfl).ad E rfl rfl).ad E rfl rfl).ad E rfl rfl).ad E rfl rfl).ad E rfl rfl)⟩
    · have hc1 := cF ht hc1
      rw [ht] at E
      refine sd E (o_mv (E.ev rfl)) rfl rfl rfl fun a E => ?_
      obtain ⟨y1, hx1, hc1⟩ := ob_some hc1
      refine sh E (o_ok Tryz.call62 (E.evs rfl) (E.ev rfl) (ok_66 _ (x0 := x0) hx1)) rfl rfl rfl ?_
      rintro a _ s2 ⟨t3, rfl⟩ E
      refine sd E (o_not (E.ev rfl)) rfl rfl rfl fun a E => ?_
      refine sd E (o_pickF (E.ev rfl) (E.ev rfl)) rfl rfl rfl fun a E => ?_
      refine sd E (o_mv (E.ev rfl)) rfl rfl rfl fun a E => ?_
      refine bcase (E.ev (x := .tmp 21) rfl) (fun ht => ?_) (fun ht => ?_)
      · have hc1 := cT ht hc1
        rw [ht] at E
        refine sk E rfl rfl rfl fun a E => ?_
        refine sk E rfl rfl rfl fun a E => ?_
        refine sk E rfl rfl rfl fun a E => ?_
        refine sd E (o_pickT (E.ev rfl) (E.ev rfl)) rfl rfl rfl fun a E => ?_
        obtain rfl := Option.some.inj hc1
        exact GL_nil ⟨_, rfl, t3, (((((((E.nil.ad E rfl rfl).ad E rfl rfl).ad E rfl rfl).ad E rfl rfl).ad E rfl rfl).ad E rfl rfl).ad E rfl rfl)⟩
      · have hc1 := cF ht hc1
        rw [ht] at E
        refine sd E (o_mv (E.ev rfl)) rfl rfl rfl fun a E => ?_
        obtain ⟨y2, hx2, hc1⟩ := ob_some hc1
        refine sh E (o_ok Tryz.call62 (E.evs rfl) (E.ev rfl) (ok_66 _ (x0 := x1) hx2)) rfl rfl rfl ?_
        rintro a _ s3 ⟨t4, rfl⟩ E
        refine sd E (o_not (E.ev rfl)) rfl rfl rfl fun a E => ?_
        refine sd E (o_pickF (E.ev rfl) (E.ev rfl)) rfl rfl rfl fun a E => ?_
        obtain rfl := Option.some.inj hc1
        exact GL_nil ⟨_, rfl, (t3.trans t4), (((((((E.nil.ad E rfl rfl).ad E rfl rfl).ad E rfl rfl).ad E rfl rfl).ad E rfl rfl).ad E rfl rfl).ad E rfl rfl)⟩
  rintro a _ ⟨s4, rfl, t5, E⟩
  refine tgn ?_
  refine G_cond (E.ev rfl) (fun ht => ?_) (fun ht => ?_)
  · have hm := cT ht hm
    refine G_seq ?_
    refine G_region ?_
    refine sd E (o_bd (places := #[(0, 1), (1, 1)]) Tryz.zeroValue38 Tryz.underlying38 (fun w => by simp [Sem.run_bind, Result.andThen, Tryz.sizeOf3, Tryz.sizeOf36]) (qs := #[]) (by simp only [List.map_toArray, List.map_cons, List.map_nil]) rfl) rfl rfl rfl fun a E => ?_
    refine shN E (o_st (v := .agg #[.int .i64 0, (.slice none 0 0)]) Tryz.sizeOf38 (o1.trN t5) (E.ev rfl) (E.ev rfl) (Nat.le_of_ble_eq_true rfl) (by intro u hu; simp [Value.cells] at hu; (try rcases hu with hu | hu) <;> subst hu <;> rfl) rfl) rfl rfl ?_
    rintro _ s5 ⟨o2, t6⟩
    refine sd E (o_as (E.ev rfl)) rfl rfl rfl fun a E => ?_
    refine sd E (o_as (E.ev rfl)) rfl rfl rfl fun a E => ?_
    refine GL_nil ?_
    refine tgn ?_
    refine G_ret ?_
    refine tgr ?_
    cases hm
    exact fin3 E rfl (rv_cell (cs := #[.int .i64 0, (.slice none 0 0)]) rfl Tryz.isAgg38 Tryz.sizeOf38 o2.cell) rfl rfl ⟨((((Tr.refl No s).stepN t1).stepN t5).step hk t6 (by intro t h; subst h; exact .inr (Nat.le_refl _))), _, rfl, Sl.nil⟩
  · have hm := cF ht hm
    refine G_skip ?_
    refine tgn ?_
    refine G_seq ?_
    refine G_region ?_
    refine sd E (o_mv (E.ev rfl)) rfl rfl rfl fun a E => ?_
    obtain ⟨x4, hx3, hm⟩ := ob_some hm
    obtain ⟨b2, p1, g1, h2⟩ := ((h1.tr t1).tr t5).gt hx3
    refine sd E (o_ixg Tryz.underlying36 Tryz.sizeOf39 g1 (E.ev rfl) (E.ev rfl)) rfl rfl rfl fun a E => ?_
    refine sd E (o_ld Tryz.isAgg39 (E.ev rfl) h2.cell) rfl rfl rfl fun a E => ?_
    obtain ⟨⟨y3, y4, y5⟩, hx4, hm⟩ := ob_some hm
    refine sh E (o_ok Tryz.call97 (E.evs rfl) (E.ev rfl) (ok_91 _ (x0 := x4) hx4)) rfl rfl rfl ?_
    rintro a _ s6 ⟨t7, rfl⟩ E
    refine sd E (o_mv (E.ev rfl)) rfl rfl rfl fun a E => ?_
    refine sd E (o_ext (v := .int .i64 y3) (E.ev rfl) rfl) rfl rfl rfl fun a E => ?_
    refine sd E (o_ext (v := .int .i64 y4) (E.ev rfl) rfl) rfl rfl rfl fun a E => ?_
    refine sd E (o_ext (v := .int .u32 y5) (E.ev rfl) rfl) rfl rfl rfl fun a E => ?_
    refine sd E (o_as (E.ev rfl)) rfl rfl rfl fun a E => ?_
    refine sd E (o_as (E.ev rfl)) rfl rfl rfl fun a E => ?_
    refine sd E (o_as (E.ev rfl)) rfl rfl rfl fun a E => ?_
    refine GL_nil ?_
    refine tgn ?_
    refine G_seq ?_
    refine G_seq ?_
    refine G_region ?_
    refine sd E (o_mv (E.ev rfl)) rfl rfl rfl fun a E => ?_
    refine sd E (o_mv (E.ev rfl)) rfl rfl rfl fun a E => ?_
    refine sd E (o_lenS (xs := x2) Tryz.underlying36 (E.ev rfl) (((h1.tr t1).tr t5).tr t7).isS) rfl rfl rfl fun a E => ?_
    refine sd E (o_bi (E.ev rfl) (E.ev rfl) rfl) rfl rfl rfl fun a E => ?_
    refine sd E (o_bi (E.ev rfl) (E.ev rfl) rfl) rfl rfl rfl fun a E => ?_
    refine GL_nil ?_
    refine tgn ?_
    refine G_cond (E.ev rfl) (fun ht => ?_) (fun ht => ?_)
    · have hm := cT ht hm
      refine G_seq ?_
      refine G_region ?_
      refine sd E (o_bd (places := #[(0, 1), (1, 1)]) Tryz.zeroValue38 Tryz.underlying38 (fun w => by simp [Sem.run_bind, Result.andThen, Tryz.sizeOf3, Tryz.sizeOf36]) (qs := #[]) (by simp only [List.map_toArray, List.map_cons, List.map_nil]) rfl) rfl rfl rfl fun a E => ?_
      refine shN E (o_st (v := .agg #[.int .i64 0, (.slice none 0 0)]) Tryz.sizeOf38 ((o1.trN t5).trN t7) (E.ev rfl) (E.ev rfl) (Nat.le_of_ble_eq_true rfl) (by intro u hu; simp [Value.cells] at hu; (try rcases hu with hu | hu) <;> subst hu <;> rfl) rfl) rfl rfl ?_
      rintro _ s7 ⟨o3, t8⟩
      refine sd E (o_as (E.ev rfl)) rfl rfl rfl fun a E => ?_
      refine sd E (o_as (E.ev rfl)) rfl rfl rfl fun a E => ?_
      refine GL_nil ?_
      refine tgn ?_
      refine G_ret ?_
      refine tgr ?_
      cases hm
      exact fin3 E rfl (rv_cell (cs := #[.int .i64 0, (.slice none 0 0)]) rfl Tryz.isAgg38 Tryz.sizeOf38 o3.cell) rfl rfl ⟨(((((Tr.refl No s).stepN t1).stepN t5).stepN t7).step hk t8 (by intro t h; subst h; exact .inr (Nat.le_refl _))), _, rfl, Sl.nil⟩
    · have hm := cF ht hm
      refine G_skip ?_
      refine tgn ?_
      refine G_seq ?_
      refine G_region ?_
      refine sd E (o_mv (E.ev rfl)) rfl rfl rfl fun a E => ?_
      refine sd E (o_mv (E.ev rfl)) rfl rfl rfl fun a E => ?_
      refine sd E (o_mv (E.ev rfl)) rfl rfl rfl fun a E => ?_
      refine sd E (o_bi (E.ev rfl) (E.ev rfl) rfl) rfl rfl rfl fun a E => ?_
      obtain ⟨x5, hx5, hm⟩ := ob_some hm
      obtain ⟨w3, g2, h3⟩ := (((h1.tr t1).tr t5).tr t7).sl hx5
      refine sd E (o_slLH Tryz.underlying36 Tryz.sizeOf39 g2 (E.ev rfl) (E.ev rfl) (E.ev rfl)) rfl rfl rfl fun a E => ?_
      obtain ⟨y6, hx6, hm⟩ := ob_some hm
      refine sh E (o_ok Tryz.call48 (E.evs rfl) (E.ev rfl) (ok_39 _ (x0 := x5) h3 hx6)) rfl rfl rfl ?_
      rintro a _ s8 ⟨t9, w4, rfl, h4⟩ E
      obtain ⟨a1, c1, rfl⟩ := h4.isS
      refine sd E (o_bd (places := #[(0, 1), (1, 1)]) Tryz.zeroValue38 Tryz.underlying38 (fun w => by simp [Sem.run_bind, Result.andThen, Tryz.sizeOf3, Tryz.sizeOf36]) (qs := #[(0, .int .i64 y3), (1, (.slice a1 y6.length c1))]) (by simp only [List.map_toArray, List.map_cons, List.map_nil, E.ev (x := .tmp 41) rfl, E.ev (x := .tmp 46) rfl]) rfl) rfl rfl rfl fun a E => ?_
      refine sh E (o_al (k, 1002) Tryz.zeroValue38) rfl rfl rfl ?_
      rintro a _ s9 ⟨b3, rfl, o4, t10⟩ E
      refine shN E (o_st (v := .agg #[.int .i64 y3, (.slice a1 y6.length c1)]) Tryz.sizeOf38 o4 (E.ev rfl) (E.ev rfl) (Nat.le_of_ble_eq_true rfl) (by intro u hu; simp [Value.cells] at hu; (try rcases hu with hu | hu) <;> subst hu <;> rfl) rfl) rfl rfl ?_
      rintro _ s10 ⟨o5, t11⟩
      refine GL_nil ?_
      refine tgn ?_
      refine G_seq ?_
      refine G_seq ?_
      obtain ⟨t12, hc2, hm⟩ := ob_some hm
      refine G_drwm k (by rfl) [0, 1, 2, 3, 4, 5, 6, 7, 8, 10, 11, 12, 9, 13, 14] (by kernel_rfl) (fun a' w' => ∃ s', w' = s'.w ∧ Tr No s10 s' ∧ En [] 67 a' [(62, .bool t12), (0, .int .i64 x0), (1, .int .i64 x1), (2, w1), (6, .pointer (some ⟨b1, 0, none⟩)), (7, .int .i64 0), (8, .bool false), (9, .int .i64 y3), (10, .int .i64 y4), (12, .pointer (some ⟨b3, 0, none⟩)), (25, .bool t2), (39, .bool (decide (y4 > (IntKind.wrap .i64 ((x2.length : Int) - 1)))))]) ?_ ?_
      · intro s11 t13
        refine dr E rfl (fun s' t => (o_ldc (cs := #[.int .i64 y3, (.slice a1 y6.length c1)]) Tryz.isAgg38 Tryz.sizeOf38 (E.ev rfl) ((o5.trN t13).trN t).cell)) rfl rfl rfl rfl fun a E => ?_
        obtain ⟨y7, hx7, hc2⟩ := ob_some hc2
        refine dh E rfl (o_ok Tryz.call61 (E.evs rfl) (E.ev rfl) (ok_36 _ (x0 := (⟨y3, y6⟩ : Frame)) (((h4.tr t10).tr t11).tr t13) hx7)) (fun _ _ h => h.1) rfl rfl rfl rfl ?_
        rintro a _ s12 ⟨t14, rfl⟩ E
        refine dp E rfl (fun w => (o_not (E.ev rfl))) rfl rfl rfl fun a E => ?_
        refine dp E rfl (fun w => (o_mv (E.ev rfl))) rfl rfl rfl fun a E => ?_
        refine bcase (E.ev (x := .tmp 51) rfl) (fun ht => ?_) (fun ht => ?_)
        · have hc2 := cT ht hc2
          rw [ht] at E
          refine dk E rfl rfl rfl rfl fun a E => ?_
          refine dk E rfl rfl rfl rfl fun a E => ?_
          refine dk E rfl rfl rfl rfl fun a E => ?_
          refine dk E rfl rfl rfl rfl fun a E => ?_
          refine dk E rfl rfl rfl rfl fun a E => ?_
          refine dk E rfl rfl rfl rfl fun a E => ?_
          refine dk E rfl rfl rfl rfl fun a E => ?_
          refine dk E rfl rfl rfl rfl fun a E => ?_
          refine dk E rfl rfl rfl rfl fun a E => ?_
          refine dk E rfl rfl rfl rfl fun a E => ?_
          refine dp E rfl (fun w => (o_pickT (E.ev rfl) (E.ev rfl))) rfl rfl rfl fun a E => ?_
          obtain rfl := Option.some.inj hc2
          exact gd_nil ⟨_, rfl, (t13.trans t14), ((((((((((((E.nil.ad E rfl rfl).ad E rfl rfl).ad E rfl rfl).ad E rfl rfl).ad E rfl rfl).ad E rfl rfl).ad E rfl rfl).ad E rfl rfl).ad E rfl rfl).ad E rfl rfl).ad E rfl rfl).ad E rfl rfl)⟩
        · have hc2 := cF ht hc2
          rw [ht] at E
          refine dp E rfl (fun w => (o_mv (E.ev rfl))) rfl rfl rfl fun a E => ?_
          refine dp E rfl (fun w => (o_mv (E.ev rfl))) rfl rfl rfl fun a E => ?_
          refine dp E rfl (fun w => (o_mv (E.ev rfl))) rfl rfl rfl fun a E => ?_
          refine dp E rfl (fun w => (o_fa Tryz.underlying38 rfl Tryz.sizeOf36 (E.ev rfl))) rfl rfl rfl fun a E => ?_
          refine dr E rfl (fun s' t => (o_ld Tryz.isAgg36 (E.ev rfl) (((((o5.trN t13).trN t14).trN t).cell _).trans rfl))) rfl rfl rfl rfl fun a E => ?_
          refine dp E rfl (fun w => (o_mv (E.ev rfl))) rfl rfl rfl fun a E => ?_
          obtain ⟨x6, hx8, hc2⟩ := ob_some hc2
          obtain ⟨b4, p2, g3, h5⟩ := ((((((((h1.tr t1).tr t5).tr t7).tr t9).tr t10).tr t11).tr t13).tr t14).gt hx8
          refine dp E rfl (fun w => (o_ixg Tryz.underlying36 Tryz.sizeOf39 g3 (E.ev rfl) (E.ev rfl))) rfl rfl rfl fun a E => ?_
          refine dr E rfl (fun s' t => (o_ld Tryz.isAgg39 (E.ev rfl) (h5.tr t).cell)) rfl rfl rfl rfl fun a E => ?_
          obtain ⟨y8, hx9, hc2⟩ := ob_some hc2
          refine dh E rfl (o_ok Tryz.call80 (E.evs rfl) (E.ev rfl) (ok_67 _ (x0 := x0) (x1 := x1) (x2 := y3) (x3 := y6) ((((h4.tr t10).tr t11).tr t13).tr t14) hx9)) (fun _ _ h => h.1) rfl rfl rfl rfl ?_
          rintro a _ s13 ⟨t15, rfl⟩ E
          refine dp E rfl (fun w => (o_bi (E.ev rfl) (E.ev rfl) rfl)) rfl rfl rfl fun a E => ?_
          refine dp E rfl (fun w => (o_pickF (E.ev rfl) (E.ev rfl))) rfl rfl rfl fun a E => ?_
          obtain rfl := Option.some.inj hc2
          exact gd_nil ⟨_, rfl, ((t13.trans t14).trans t15), ((((((((((((E.nil.ad E rfl rfl).ad E rfl rfl).ad E rfl rfl).ad E rfl rfl).ad E rfl rfl).ad E rfl rfl).ad E rfl rfl).ad E rfl rfl).ad E rfl rfl).ad E rfl rfl).ad E rfl rfl).ad E rfl rfl)⟩
      rintro a _ ⟨s14, rfl, t16, E⟩
      refine tgn ?_
      refine G_cond (E.ev rfl) (fun ht => ?_) (fun ht => ?_)
      · have hm := cT ht hm
        refine G_seq ?_
        refine G_region ?_
        refine sd E (o_bd (places := #[(0, 1), (1, 1)]) Tryz.zeroValue38 Tryz.underlying38 (fun w => by simp [Sem.run_bind, Result.andThen, Tryz.sizeOf3, Tryz.sizeOf36]) (qs := #[]) (by simp only [List.map_toArray, List.map_cons, List.map_nil]) rfl) rfl rfl rfl fun a E => ?_
        refine shN E (o_st (v := .agg #[.int .i64 0, (.slice none 0 0)]) Tryz.sizeOf38 ((((((o1.trN t5).trN t7).trN t9).trN t10).tr t11 (nt_snd rfl)).trN t16) (E.ev rfl) (E.ev rfl) (Nat.le_of_ble_eq_true rfl) (by intro u hu; simp [Value.cells] at hu; (try rcases hu with hu | hu) <;> subst hu <;> rfl) rfl) rfl rfl ?_
        rintro _ s15 ⟨o6, t17⟩
        refine sd E (o_as (E.ev rfl)) rfl rfl rfl fun a E => ?_
        refine sd E (o_as (E.ev rfl)) rfl rfl rfl fun a E => ?_
        refine GL_nil ?_
        refine tgn ?_
        refine G_ret ?_
        refine tgr ?_
        cases hm
        exact fin3 E rfl (rv_cell (cs := #[.int .i64 0, (.slice none 0 0)]) rfl Tryz.isAgg38 Tryz.sizeOf38 o6.cell) rfl rfl ⟨(((((((((Tr.refl No s).stepN t1).stepN t5).stepN t7).stepN t9).stepN t10).step hk t11 (by intro t h; subst h; exact .inr (Nat.le_refl _))).stepN t16).step hk t17 (by intro t h; subst h; exact .inr (Nat.le_refl _))), _, rfl, Sl.nil⟩
      · have hm := cF ht hm
        refine G_skip ?_
        refine tgn ?_
        refine G_seq ?_
        refine G_region ?_
        refine sd E (o_ldc (cs := #[.int .i64 y3, (.slice a1 y6.length c1)]) Tryz.isAgg38 Tryz.sizeOf38 (E.ev rfl) (o5.trN t16).cell) rfl rfl rfl fun a E => ?_
        refine sd E (o_mv (E.ev rfl)) rfl rfl rfl fun a E => ?_
        refine sd E (o_bi (E.ev rfl) (E.ev rfl) rfl) rfl rfl rfl fun a E => ?_
        refine shN E (o_st (v := .agg #[.int .i64 y3, (.slice a1 y6.length c1)]) Tryz.sizeOf38 ((((((o1.trN t5).trN t7).trN t9).trN t10).tr t11 (nt_snd rfl)).trN t16) (E.ev rfl) (E.ev rfl) (Nat.le_of_ble_eq_true rfl) (by intro u hu; simp [Value.cells] at hu; (try rcases hu with hu | hu) <;> subst hu <;> rfl) rfl) rfl rfl ?_
        rintro _ s16 ⟨o7, t18⟩
        refine sd E (o_as (E.ev rfl)) rfl rfl rfl fun a E => ?_
        refine sd E (o_as (E.ev rfl)) rfl rfl rfl fun a E => ?_
        refine GL_nil ?_
        refine tgn ?_
        refine G_ret ?_
        cases hm
        exact fin3 E rfl (rv_cell (cs := #[.int .i64 y3, (.slice a1 y6.length c1)]) rfl Tryz.isAgg38 Tryz.sizeOf38 o7.cell) rfl rfl ⟨(((((((((Tr.refl No s).stepN t1).stepN t5).stepN t7).stepN t9).stepN t10).step hk t11 (by intro t h; subst h; exact .inr (Nat.le_refl _))).stepN t16).step hk t18 (by intro t h; subst h; exact .inr (Nat.le_refl _))), _, rfl, ((((h4.tr t10).tr t11).tr t16).tr t18)⟩

end Go.Proofs.YtdkfdmalbbfbmaaGreat
