/- Models and walks, printed by a program of ours. -/
import Derived.Test.YtdkfdmalbbfbmaaGreatMWL29
/- Models and walks, printed by a program of ours. -/
namespace Go.Proofs.YtdkfdmalbbfbmaaGreat
open Go Go.Maps
set_option maxRecDepth 4000
set_option maxHeartbeats 1000000
structure RVault where
  Area : Int
  At : Anchor
  S : List Frame
  Log : RLog
/-- At b lies such a thing, k's. -/
def RVaultAt (k l dD : Nat) (s : St) (b : Nat) (X : RVault) : Prop := ∃ w0 b1, Own (k, 0) s b #[.pointer (some ⟨dD, 0, none⟩), .int .i64 X.Area, .int .i64 X.At.Number, .int .i64 X.At.Epoch, .int .i64 X.At.Area, .int .i64 X.At.Words, w0, .pointer (some ⟨b1, 0, none⟩)] 52 ∧ Sl kFr s w0 X.S ∧ RLogAt l dD s b1 X.Log
theorem RVaultAt.tr {k l dD : Nat} {s s' : St} {b : Nat} {X : RVault} {p : Tg → Prop} (h : RVaultAt k l dD s b X) (t : Tr p s s') (hk : ∀ i, ¬ p (k, i)) (hl : ∀ i, ¬ p (l, i)) : RVaultAt k l dD s' b X := by
  obtain ⟨w0, b1, h, h0, h1⟩ := h
  exact ⟨w0, b1, h.tr t (hk 0), h0.tr t, h1.tr t hl⟩
theorem RVaultAt.trN {k l dD : Nat} {s s' : St} {b : Nat} {X : RVault} (h : RVaultAt k l dD s b X) (t : Tr No s s') : RVaultAt k l dD s' b X := h.tr t (fun _ h => h) (fun _ h => h)
theorem RVaultAt.tag {k l dD : Nat} {s : St} {b : Nat} {X : RVault} (h : RVaultAt k l dD s b X) : s.tag b = some (k, 0) := let ⟨_, _, h, _, _⟩ := h; h.1
theorem RVaultAt.lt1 {k l dD : Nat} {s : St} {b : Nat} {X : RVault} {κ : Nat} (h : RVaultAt k l dD s b X) (hκ : ∀ b t, s.tag b = some t → t.1 < κ) : l < κ := let ⟨w0, b1, h, h0, h1⟩ := h; hκ _ _ h1.tag
-- gimmal/gimmalref07.May

noncomputable def m_L77 (x0 : Anchor) : Option Bool :=
  ob (bif decide (x0.Number ≥ 1) then (bif decide (x0.Number < 4294967296) then (bif decide (x0.Epoch ≥ 0) then (bif decide (x0.Epoch < 4294967296) then (bif x0.Area == 0 then (bif decide (x0.Words ≥ 0) then (some (decide (x0.Words ≤ 1048576))) else (some false)) else (bif x0.Area == 1 then (bif decide (x0.Words ≥ 0) then (some (decide (x0.Words ≤ 1048576))) else (some false)) else (some false))) else (some false)) else (some false)) else (some false)) else (some false)) fun t2 => some t2
theorem ok_L77 (s : St) {x0 : Anchor} {r0y : Bool} (hm : m_L77 x0 = some r0y) :
    Ok Tryz.prog 77 ([.agg #[.int .i64 x0.Number, .int .i64 x0.Epoch, .int .i64 x0.Area, .int .i64 x0.Words]] : List Value).toArray s fun v s' => Tr No s s' ∧ v = .bool r0y := by
  unfold m_L77 at hm
  obtain ⟨κ, hκ⟩ := s.fresh
  refine ok_of (n := 41) _ Tryz.func77 rfl _ rfl rfl fun a E => ?_
  refine G_seq ?_
  refine G_region ?_
  refine sh E (o_box (E.ev rfl)) rfl rfl rfl ?_
  rintro a _ s1 ⟨b1, rfl, o1, t1⟩ E
  refine sd E (o_as (E.ev rfl)) rfl rfl rfl fun a E => ?_
  refine GL_nil ?_
  refine tgn ?_
  refine G_seq ?_
  obtain ⟨t2, hc1, hm⟩ := ob_some hm
  refine G_regm (fun a' w' => ∃ s', w' = s'.w ∧ Tr No s1 s' ∧ En [] 41 a' [(2, .bool t2)]) ?_ ?_
  · refine sd E (o_fa Tryz.underlying49 rfl Tryz.sizeOf3 (E.ev rfl)) rfl rfl rfl fun a E => ?_
    refine sd E (o_ld Tryz.isAgg3 (E.ev rfl) ((o1.cell _).trans rfl)) rfl rfl rfl fun a E => ?_
    refine sd E (o_bi (E.ev rfl) (E.ev rfl) rfl) rfl rfl rfl fun a E => ?_
    refine sd E (o_mv (E.ev rfl)) rfl rfl rfl fun a E => ?_
    refine bcase (E.ev (x := .tmp 6) rfl) (fun ht => ?_) (fun ht => ?_)
    · have hc1 := cT ht hc1
      rw [ht] at E
      refine sd E (o_fa Tryz.underlying49 rfl Tryz.sizeOf3 (E.ev rfl)) rfl rfl rfl fun a E => ?_
      refine sd E (o_ld Tryz.isAgg3 (E.ev rfl) ((o1.cell _).trans rfl)) rfl rfl rfl fun a E => ?_
      refine sd E (o_bi (E.ev rfl) (E.ev rfl) rfl) rfl rfl rfl fun a E => ?_
      refine sd E (o_pickT (E.ev rfl) (E.ev rfl)) rfl rfl rfl fun a E => ?_
      refine sd E (o_mv (E.ev rfl)) rfl rfl rfl fun a E => ?_
      refine bcase (E.ev (x := .tmp 11) rfl) (fun ht => ?_) (fun ht => ?_)
      · have hc1 := cT ht hc1
        rw [ht] at E
        refine sd E (o_fa Tryz.underlying49 rfl Tryz.sizeOf3 (E.ev rfl)) rfl rfl rfl fun a E => ?_
        refine sd E (o_ld Tryz.isAgg3 (E.ev rfl) ((o1.cell _).trans rfl)) rfl rfl rfl fun a E => ?_
        refine sd E (o_bi (E.ev rfl) (E.ev rfl) rfl) rfl rfl rfl fun a E => ?_
        refine sd E (o_pickT (E.ev rfl) (E.ev rfl)) rfl rfl rfl fun a E => ?_
        refine sd E (o_mv (E.ev rfl)) rfl rfl rfl fun a E => ?_
        refine bcase (E.ev (x := .tmp 16) rfl) (fun ht => ?_) (fun ht => ?_)
        · have hc1 := cT ht hc1
          rw [ht] at E
          refine sd E (o_fa Tryz.underlying49 rfl Tryz.sizeOf3 (E.ev rfl)) rfl rfl rfl fun a E => ?_
          refine sd E (o_ld Tryz.isAgg3 (E.ev rfl) ((o1.cell _).trans rfl)) rfl rfl rfl fun a E => ?_
          refine sd E (o_bi (E.ev rfl) (E.ev rfl) rfl) rfl rfl rfl fun a E => ?_
          refine sd E (o_pickT (E.ev rfl) (E.ev rfl)) rfl rfl rfl fun a E => ?_
          refine sd E (o_mv (E.ev rfl)) rfl rfl rfl fun a E => ?_
          refine bcase (E.ev (x := .tmp 21) rfl) (fun ht => ?_) (fun ht => ?_)
          · have hc1 := cT ht hc1
            rw [ht] at E
            refine sd E (o_fa Tryz.underlying49 rfl Tryz.sizeOf3 (E.ev rfl)) rfl rfl rfl fun a E => ?_
            refine sd E (o_ld Tryz.isAgg3 (E.ev rfl) ((o1.cell _).trans rfl)) rfl rfl rfl fun a E => ?_
            refine sd E (o_bi (E.ev rfl) (E.ev rfl) rfl) rfl rfl rfl fun a E => ?_
            refine sd E (o_mv (E.ev rfl)) rfl rfl rfl fun a E => ?_
            refine bcase (E.ev (x := .tmp 25) rfl) (fun ht => ?_) (fun ht => ?_)
            · have hc1 := cT ht hc1
              rw [ht] at E
              refine sk E rfl rfl rfl fun a E => ?_
              refine sk E rfl rfl rfl fun a E => ?_
              refine sk E rfl rfl rfl fun a E => ?_
              refine sd E (o_pickT (E.ev rfl) (E.ev rfl)) rfl rfl rfl fun a E => ?_
              refine sd E (o_pickT (E.ev rfl) (E.ev rfl)) rfl rfl rfl fun a E => ?_
              refine sd E (o_mv (E.ev rfl)) rfl rfl rfl fun a E => ?_
              refine sd E (o_fa Tryz.underlying49 rfl Tryz.sizeOf3 (E.ev rfl)) rfl rfl rfl fun a E => ?_
              refine sd E (o_ld Tryz.isAgg3 (E.ev rfl) ((o1.cell _).trans rfl)) rfl rfl rfl fun a E => ?_
              refine sd E (o_bi (E.ev rfl) (E.ev rfl) rfl) rfl rfl rfl fun a E => ?_
              refine sd E (o_pickT (E.ev rfl) (E.ev rfl)) rfl rfl rfl fun a E => ?_
              refine sd E (o_mv (E.ev rfl)) rfl rfl rfl fun a E => ?_
              refine bcase (E.ev (x := .tmp 36) rfl) (fun ht => ?_) (fun ht => ?_)
              · have hc1 := cT ht hc1
                rw [ht] at E
                refine sd E (o_fa Tryz.underlying49 rfl Tryz.sizeOf3 (E.ev rfl)) rfl rfl rfl fun a E => ?_
                refine sd E (o_ld Tryz.isAgg3 (E.ev rfl) ((o1.cell _).trans rfl)) rfl rfl rfl fun a E => ?_
                refine sd E (o_bi (E.ev rfl) (E.ev rfl) rfl) rfl rfl rfl fun a E => ?_
                refine sd E (o_pickT (E.ev rfl) (E.ev rfl)) rfl rfl rfl fun a E => ?_
                refine sd E (o_as (E.ev rfl)) rfl rfl rfl fun a E => ?_
                obtain rfl := Option.some.inj hc1
                exact GL_nil ⟨_, rfl, (Tr.refl _ _), (E.nil.ad E rfl rfl)⟩
              · have hc1 := cF ht hc1
                rw [ht] at E
                refine sk E rfl rfl rfl fun a E => ?_
                refine sk E rfl rfl rfl fun a E => ?_
                refine sk E rfl rfl rfl fun a E => ?_
                refine sd E (o_pickF (E.ev rfl) (E.ev rfl)) rfl rfl rfl fun a E => ?_
                refine sd E (o_as (E.ev rfl)) rfl rfl rfl fun a E => ?_
                obtain rfl := Option.some.inj hc1
                exact GL_nil ⟨_, rfl, (Tr.refl _ _), (E.nil.ad E rfl rfl)⟩
            · have hc1 := cF ht hc1
              rw [ht] at E
              refine sd E (o_fa Tryz.underlying49 rfl Tryz.sizeOf3 (E.ev rfl)) rfl rfl rfl fun a E => ?_
              refine sd E (o_ld Tryz.isAgg3 (E.ev rfl) ((o1.cell _).trans rfl)) rfl rfl rfl fun a E => ?_
              refine sd E (o_bi (E.ev rfl) (E.ev rfl) rfl) rfl rfl rfl fun a E => ?_
              refine sd E (o_pickF (E.ev rfl) (E.ev rfl)) rfl rfl rfl fun a E => ?_
              refine sd E (o_pickT (E.ev rfl) (E.ev rfl)) rfl rfl rfl fun a E => ?_
              refine sd E (o_mv (E.ev rfl)) rfl rfl rfl fun a E => ?_
              refine bcase (E.ev (x := .tmp 31) rfl) (fun ht => ?_) (fun ht => ?_)
              · have hc1 := cT ht hc1
                rw [ht] at E
                refine sd E (o_fa Tryz.underlying49 rfl Tryz.sizeOf3 (E.ev rfl)) rfl rfl rfl fun a E => ?_
                refine sd E (o_ld Tryz.isAgg3 (E.ev rfl) ((o1.cell _).trans rfl)) rfl rfl rfl fun a E => ?_
                refine sd E (o_bi (E.ev rfl) (E.ev rfl) rfl) rfl rfl rfl fun a E => ?_
                refine sd E (o_pickT (E.ev rfl) (E.ev rfl)) rfl rfl rfl fun a E => ?_
                refine sd E (o_mv (E.ev rfl)) rfl rfl rfl fun a E => ?_
                refine bcase (E.ev (x := .tmp 36) rfl) (fun ht => ?_) (fun ht => ?_)
                · have hc1 := cT ht hc1
                  rw [ht] at E
                  refine sd E (o_fa Tryz.underlying49 rfl Tryz.sizeOf3 (E.ev rfl)) rfl rfl rfl fun a E => ?_
                  refine sd E (o_ld Tryz.isAgg3 (E.ev rfl) ((o1.cell _).trans rfl)) rfl rfl rfl fun a E => ?_
                  refine sd E (o_bi (E.ev rfl) (E.ev rfl) rfl) rfl rfl rfl fun a E => ?_
                  refine sd E (o_pickT (E.ev rfl) (E.ev rfl)) rfl rfl rfl fun a E => ?_
                  refine sd E (o_as (E.ev rfl)) rfl rfl rfl fun a E => ?_
                  obtain rfl := Option.some.inj hc1
                  exact GL_nil ⟨_, rfl, (Tr.refl _ _), (E.nil.ad E rfl rfl)⟩
                · have hc1 := cF ht hc1
                  rw [ht] at E
                  refine sk E rfl rfl rfl fun a E => ?_
                  refine sk E rfl rfl rfl fun a E => ?_
                  refine sk E rfl rfl rfl fun a E => ?_
                  refine sd E (o_pickF (E.ev rfl) (E.ev rfl)) rfl rfl rfl fun a E => ?_
                  refine sd E (o_as (E.ev rfl)) rfl rfl rfl fun a E => ?_
                  obtain rfl := Option.some.inj hc1
                  exact GL_nil ⟨_, rfl, (Tr.refl _ _), (E.nil.ad E rfl rfl)⟩
              · have hc1 := cF ht hc1
                rw [ht] at E
                refine sk E rfl rfl rfl fun a E => ?_
                refine sk E rfl rfl rfl fun a E => ?_
                refine sk E rfl rfl rfl fun a E => ?_
                refine sd E (o_pickF (E.ev rfl) (E.ev rfl)) rfl rfl rfl fun a E => ?_
                refine sd E (o_mv (E.ev rfl)) rfl rfl rfl fun a E => ?_
                refine sk E rfl rfl rfl fun a E => ?_
                refine sk E rfl rfl rfl fun a E => ?_
                refine sk E rfl rfl rfl fun a E => ?_
                refine sd E (o_pickF (E.ev rfl) (E.ev rfl)) rfl rfl rfl fun a E => ?_
                refine sd E (o_as (E.ev rfl)) rfl rfl rfl fun a E => ?_
                obtain rfl := Option.some.inj hc1
                exact GL_nil ⟨_, rfl, (Tr.refl _ _), (E.nil.ad E rfl rfl)⟩
          · have hc1 := cF ht hc1
            rw [ht] at E
            refine sk E rfl rfl rfl fun a E => ?_
            refine sk E rfl rfl rfl fun a E => ?_
            refine sk E rfl rfl rfl fun a E => ?_
            refine sk E rfl rfl rfl fun a E => ?_
            refine sku E rfl rfl rfl rfl rfl fun a E => ?_
            refine sku E rfl rfl rfl rfl rfl fun a E => ?_
            refine sku E rfl rfl rfl rfl rfl fun a E => ?_
            refine sk E rfl rfl rfl fun a E => ?_
            refine sd E (o_pickF (E.ev rfl) (E.ev rfl)) rfl rfl rfl fun a E => ?_
            refine sd E (o_mv (E.ev rfl)) rfl rfl rfl fun a E => ?_
            refine sk E rfl rfl rfl fun a E => ?_
            refine sk E rfl rfl rfl fun a E => ?_
            refine sk E rfl rfl rfl fun a E => ?_
            refine sd E (o_pickF (E.ev rfl) (E.ev rfl)) rfl rfl rfl fun a E => ?_
            refine sd E (o_mv (E.ev rfl)) rfl rfl rfl fun a E => ?_
            refine sk E rfl rfl rfl fun a E => ?_
            refine sk E rfl rfl rfl fun a E => ?_
            refine sk E rfl rfl rfl fun a E => ?_
            refine sd E (o_pickF (E.ev rfl) (E.ev rfl)) rfl rfl rfl fun a E => ?_
            refine sd E (o_as (E.ev rfl)) rfl rfl rfl fun a E => ?_
            obtain rfl := Option.some.inj hc1
            exact GL_nil ⟨_, rfl, (Tr.refl _ _), (E.nil.ad E rfl rfl)⟩
        · have hc1 := cF ht hc1
          rw [ht] at E
          refine sk E rfl rfl rfl fun a E => ?_
          refine sk E rfl rfl rfl fun a E => ?_
          refine sk E rfl rfl rfl fun a E => ?_
          refine sd E (o_pickF (E.ev rfl) (E.ev rfl)) rfl rfl rfl fun a E => ?_
          refine sd E (o_mv (E.ev rfl)) rfl rfl rfl fun a E => ?_
          refine sk E rfl rfl rfl fun a E => ?_
          refine sk E rfl rfl rfl fun a E => ?_
          refine sk E rfl rfl rfl fun a E => ?_
          refine sk E rfl rfl rfl fun a E => ?_
          refine sku E rfl rfl rfl rfl rfl fun a E => ?_
          refine sku E rfl rfl rfl rfl rfl fun a E => ?_
          refine sku E rfl rfl rfl rfl rfl fun a E => ?_
          refine sk E rfl rfl rfl fun a E => ?_
          refine sd E (o_pickF (E.ev rfl) (E.ev rfl)) rfl rfl rfl fun a E => ?_
          refine sd E (o_mv (E.ev rfl)) rfl rfl rfl fun a E => ?_
          refine sk E rfl rfl rfl fun a E => ?_
          refine sk E rfl rfl rfl fun a E => ?_
          refine sk E rfl rfl rfl fun a E => ?_
          refine sd E (o_pickF (E.ev rfl) (E.ev rfl)) rfl rfl rfl fun a E => ?_
          refine sd E (o_mv (E.ev rfl)) rfl rfl rfl fun a E => ?_
          refine sk E rfl rfl rfl fun a E => ?_
          refine sk E rfl rfl rfl fun a E => ?_
          refine sk E rfl rfl rfl fun a E => ?_
          refine sd E (o_pickF (E.ev rfl) (E.ev rfl)) rfl rfl rfl fun a E => ?_
          refine sd E (o_as (E.ev rfl)) rfl rfl rfl fun a E => ?_
          obtain rfl := Option.some.inj hc1
          exact GL_nil ⟨_, rfl, (Tr.refl _ _), (E.nil.ad E rfl rfl)⟩
      · have hc1 := cF ht hc1
        rw [ht] at E
        refine sk E rfl rfl rfl fun a E => ?_
        refine sk E rfl rfl rfl fun a E => ?_
        refine sk E rfl rfl rfl fun a E => ?_
        refine sd E (o_pickF (E.ev rfl) (E.ev rfl)) rfl rfl rfl fun a E => ?_
        refine sd E (o_mv (E.ev rfl)) rfl rfl rfl fun a E => ?_
        refine sk E rfl rfl rfl fun a E => ?_
        refine sk E rfl rfl rfl fun a E => ?_
        refine sk E rfl rfl rfl fun a E => ?_
        refine sd E (o_pickF (E.ev rfl) (E.ev rfl)) rfl rfl rfl fun a E => ?_
        refine sd E (o_mv (E.ev rfl)) rfl rfl rfl fun a E => ?_
        refine sk E rfl rfl rfl fun a E => ?_
        refine sk E rfl rfl rfl fun a E => ?_
        refine sk E rfl rfl rfl fun a E => ?_
        refine sk E rfl rfl rfl fun a E => ?_
        refine sku E rfl rfl rfl rfl rfl fun a E => ?_
        refine sku E rfl rfl rfl rfl rfl fun a E => ?_
        refine sku E rfl rfl rfl rfl rfl fun a E => ?_
        refine sk E rfl rfl rfl fun a E => ?_
        refine sd E (o_pickF (E.ev rfl) (E.ev rfl)) rfl rfl rfl fun a E => ?_
        refine sd E (o_mv (E.ev rfl)) rfl rfl rfl fun a E => ?_
        refine sk E rfl rfl rfl fun a E => ?_
        refine sk E rfl rfl rfl fun a E => ?_
        refine sk E rfl rfl rfl fun a E => ?_
        refine sd E (o_pickF (E.ev rfl) (E.ev rfl)) rfl rfl rfl fun a E => ?_
        refine sd E (o_mv (E.ev rfl)) rfl rfl rfl fun a E => ?_
        refine sk E rfl rfl rfl fun a E => ?_
        refine sk E rfl rfl rfl fun a E => ?_
        refine sk E rfl rfl rfl fun a E => ?_
        refine sd E (o_pickF (E.ev rfl) (E.ev rfl)) rfl rfl rfl fun a E => ?_
        refine sd E (o_as (E.ev rfl)) rfl rfl rfl fun a E => ?_
        obtain rfl := Option.some.inj hc1
        exact GL_nil ⟨_, rfl, (Tr.refl _ _), (E.nil.ad E rfl rfl)⟩
    · have hc1 := cF ht hc1
      rw [ht] at E
      refine sk E rfl rfl rfl fun a E => ?_
      refine sk E rfl rfl rfl fun a E => ?_
      refine sk E rfl rfl rfl fun a E => ?_
      refine sd E (o_pickF (E.ev rfl) (E.ev rfl)) rfl rfl rfl fun a E => ?_
      refine sd E (o_mv (E.ev rfl)) rfl rfl rfl fun a E => ?_
      refine sk E rfl rfl rfl fun a E => ?_
      refine sk E rfl rfl rfl fun a E => ?_
      refine sk E rfl rfl rfl fun a E => ?_
      refine sd E (o_pickF (E.ev rfl) (E.ev rfl)) rfl rfl rfl fun a E => ?_
      refine sd E (o_mv (E.ev rfl)) rfl rfl rfl fun a E => ?_
      refine sk E rfl rfl rfl fun a E => ?_
      refine sk E rfl rfl rfl fun a E => ?_
      refine sk E rfl rfl rfl fun a E => ?_
      refine sd E (o_pickF (E.ev rfl) (E.ev rfl)) rfl rfl rfl fun a E => ?_
      refine sd E (o_mv (E.ev rfl)) rfl rfl rfl fun a E => ?_
      refine sk E rfl rfl rfl fun a E => ?_
      refine sk E rfl rfl rfl fun a E => ?_
      refine sk E rfl rfl rfl fun a E => ?_
      refine sk E rfl rfl rfl fun a E => ?_
      refine sku E rfl rfl rfl rfl rfl fun a E => ?_
      refine sku E rfl rfl rfl rfl rfl fun a E => ?_
      refine sku E rfl rfl rfl rfl rfl fun a E => ?_
      refine sk E rfl rfl rfl fun a E => ?_
      refine sd E (o_pickF (E.ev rfl) (E.ev rfl)) rfl rfl rfl fun a E => ?_
      refine sd E (o_mv (E.ev rfl)) rfl rfl rfl fun a E => ?_
      refine sk E rfl rfl rfl fun a E => ?_
      refine sk E rfl rfl rfl fun a E => ?_
      refine sk E rfl rfl rfl fun a E => ?_
      refine sd E (o_pickF (E.ev rfl) (E.ev rfl)) rfl rfl rfl fun a E => ?_
      refine sd E (o_mv (E.ev rfl)) rfl rfl rfl fun a E => ?_
      refine sk E rfl rfl rfl fun a E => ?_
      refine sk E rfl rfl rfl fun a E => ?_
      refine sk E rfl rfl rfl fun a E => ?_
      refine sd E (o_pickF (E.ev rfl) (E.ev rfl)) rfl rfl rfl fun a E => ?_
      refine sd E (o_as (E.ev rfl)) rfl rfl rfl fun a E => ?_
      obtain rfl := Option.some.inj hc1
      exact GL_nil ⟨_, rfl, (Tr.refl _ _), (E.nil.ad E rfl rfl)⟩
  rintro a _ ⟨s2, rfl, t3, E⟩
  refine tgn ?_
  refine G_ret ?_
  cases hm
  have T1 : Tr (Fz κ []) s s2 := (t1.no.trans t3.no)
  exact fin1 E rfl rfl ⟨(Tr.fin0 hκ T1), rfl⟩

-- gimmal/gimmalref07.Sector

noncomputable def m_L40 (x0 : Anchor) : Option (List Int) :=
  ob (m_69 9 (Int.tmod x0.Number 16777216) [IntKind.wrap .u64 x0.Number, IntKind.wrap .u64 x0.Epoch, IntKind.wrap .u64 x0.Area, IntKind.wrap .u64 x0.Words]) fun (y1, y2) => ob (gt [IntKind.wrap .u64 x0.Number, IntKind.wrap .u64 x0.Epoch, IntKind.wrap .u64 x0.Area, IntKind.wrap .u64 x0.Words] 0) fun x2 => ob (gt [IntKind.wrap .u64 x0.Number, IntKind.wrap .u64 x0.Epoch, IntKind.wrap .u64 x0.Area, IntKind.wrap .u64 x0.Words] 1) fun x3 => ob (gt [IntKind.wrap .u64 x0.Number, IntKind.wrap .u64 x0.Epoch, IntKind.wrap .u64 x0.Area, IntKind.wrap .u64 x0.Words] 2) fun x4 => ob (gt [IntKind.wrap .u64 x0.Number, IntKind.wrap .u64 x0.Epoch, IntKind.wrap .u64 x0.Area, IntKind.wrap .u64 x0.Words] 3) fun x5 => some ([y1, x2, x3, x4, x5, 0, 0, 0] : List Int)
theorem ok_L40 (s : St) {x0 : Anchor} {r0y : List Int} (hm : m_L40 x0 = some r0y) :
    Ok Tryz.prog 40 ([.agg #[.int .i64 x0.Number, .int .i64 x0.Epoch, .int .i64 x0.Area, .int .i64 x0.Words]] : List Value).toArray s fun v s' => Tr No s s' ∧ v = eA .u64 r0y ∧ r0y.length = 8 := by
  unfold m_L40 at hm
  obtain ⟨κ, hκ⟩ := s.fresh
  refine ok_of (n := 41) _ Tryz.func40 rfl _ rfl rfl fun a E => ?_
  refine G_seq ?_
  refine G_region ?_
  refine sh E (o_box (E.ev rfl)) rfl rfl rfl ?_
  rintro a _ s1 ⟨b1, rfl, o1, t1⟩ E
  refine sh E (o_ala ((κ + 0), 1001) .u64 8 Tryz.zeroValue40 (by kernel_rfl)) rfl rfl rfl ?_
  rintro a _ s2 ⟨b2, rfl, o2, t2⟩ E
  refine GL_nil ?_
  refine tgn ?_
  refine G_seq ?_
  refine G_region ?_
  refine sd E (o_fa Tryz.underlying49 rfl Tryz.sizeOf3 (E.ev rfl)) rfl rfl rfl fun a E => ?_
  have f1 := o1.tr t2
  refine sd E (o_ld Tryz.isAgg3 (E.ev rfl) ((f1.cell _).trans rfl)) rfl rfl rfl fun a E => ?_
  refine sd E (o_cv Tryz.underlying3 Tryz.underlying39 (E.ev rfl)) rfl rfl rfl fun a E => ?_
  refine sd E (o_fa Tryz.underlying49 rfl Tryz.sizeOf3 (E.ev rfl)) rfl rfl rfl fun a E => ?_
  refine sd E (o_ld Tryz.isAgg3 (E.ev rfl) ((f1.cell _).trans rfl)) rfl rfl rfl fun a E => ?_
  refine sd E (o_cv Tryz.underlying3 Tryz.underlying39 (E.ev rfl)) rfl rfl rfl fun a E => ?_
  refine sd E (o_fa Tryz.underlying49 rfl Tryz.sizeOf3 (E.ev rfl)) rfl rfl rfl fun a E => ?_
  refine sd E (o_ld Tryz.isAgg3 (E.ev rfl) ((f1.cell _).trans rfl)) rfl rfl rfl fun a E => ?_
  refine sd E (o_cv Tryz.underlying3 Tryz.underlying39 (E.ev rfl)) rfl rfl rfl fun a E => ?_
  refine sd E (o_fa Tryz.underlying49 rfl Tryz.sizeOf3 (E.ev rfl)) rfl rfl rfl fun a E => ?_
  refine sd E (o_ld Tryz.isAgg3 (E.ev rfl) ((f1.cell _).trans rfl)) rfl rfl rfl fun a E => ?_
  refine sd E (o_cv Tryz.underlying3 Tryz.underlying39 (E.ev rfl)) rfl rfl rfl fun a E => ?_
  refine sh E (o_bs Tryz.underlying36 Tryz.sizeOf39 Tryz.zeroValue39 (qs := #[(0, .int .u64 (IntKind.wrap .u64 x0.Number)), (1, .int .u64 (IntKind.wrap .u64 x0.Epoch)), (2, .int .u64 (IntKind.wrap .u64 x0.Area)), (3, .int .u64 (IntKind.wrap .u64 x0.Words))]) (cells := #[.int .u64 (IntKind.wrap .u64 x0.Number), .int .u64 (IntKind.wrap .u64 x0.Epoch), .int .u64 (IntKind.wrap .u64 x0.Area), .int .u64 (IntKind.wrap .u64 x0.Words)]) (by simp only [List.map_toArray, List.map_cons, List.map_nil, E.ev (x := .tmp 8) (v := .int .u64 (IntKind.wrap .u64 x0.Number)) rfl, E.ev (x := .tmp 11) (v := .int .u64 (IntKind.wrap .u64 x0.Epoch)) rfl, E.ev (x := .tmp 14) (v := .int .u64 (IntKind.wrap .u64 x0.Area)) rfl, E.ev (x := .tmp 17) (v := .int .u64 (IntKind.wrap .u64 x0.Words)) rfl]) rfl rfl (by kernel_rfl)) rfl rfl rfl ?_
  rintro a _ s3 ⟨b3, rfl, h1, t3⟩ E
  have h2 := h1.sl (K := kU) (xs := [IntKind.wrap .u64 x0.Number, IntKind.wrap .u64 x0.Epoch, IntKind.wrap .u64 x0.Area, IntKind.wrap .u64 x0.Words]) ⟨_, _, rfl, rfl, ⟨_, _, rfl, rfl, ⟨_, _, rfl, rfl, ⟨_, _, rfl, rfl, rfl⟩⟩⟩⟩ rfl
  refine sd E (o_as (E.ev rfl)) rfl rfl rfl fun a E => ?_
  refine GL_nil ?_
  refine tgn ?_
  refine G_seq ?_
  refine G_region ?_
  refine sd E (o_fa Tryz.underlying49 rfl Tryz.sizeOf3 (E.ev rfl)) rfl rfl rfl fun a E => ?_
  have f2 := f1.tr t3
  refine sd E (o_ld Tryz.isAgg3 (E.ev rfl) ((f2.cell _).trans rfl)) rfl rfl rfl fun a E => ?_
  refine sd E (o_rem (E.ev rfl) (E.ev rfl) rfl) rfl rfl rfl fun a E => ?_
  refine sd E (o_mv (E.ev rfl)) rfl rfl rfl fun a E => ?_
  obtain ⟨⟨y1, y2⟩, hx1, hm⟩ := ob_some hm
  refine sh E (o_ok Tryz.call68 (E.evs rfl) (E.ev rfl) (ok_69 _ (x0 := 9) (x1 := Int.tmod x0.Number 16777216) (x2 := [IntKind.wrap .u64 x0.Number, IntKind.wrap .u64 x0.Epoch, IntKind.wrap .u64 x0.Area, IntKind.wrap .u64 x0.Words]) h2 hx1)) rfl rfl rfl ?_
  rintro a _ s4 ⟨t4, rfl⟩ E
  refine sd E (o_mv (E.ev rfl)) rfl rfl rfl fun a E => ?_
  refine sd E (o_ext (v := .int .u64 y1) (E.ev rfl) rfl) rfl rfl rfl fun a E => ?_
  refine sd E (o_ext (v := .bool y2) (E.ev rfl) rfl) rfl rfl rfl fun a E => ?_
  refine sd E (o_as (E.ev rfl)) rfl rfl rfl fun a E => ?_
  refine sd E (o_as (E.ev rfl)) rfl rfl rfl fun a E => ?_
  refine GL_nil ?_
  refine tgn ?_
  refine G_seq ?_
  refine G_drw (κ + 1) (by rfl) [0, 1, 2, 3, 4, 5, 6, 7, 8, 9, 10, 11, 12, 13, 14] (by kernel_rfl) ?_
  intro s5 t5
  refine dp E rfl (fun w => (o_mv (E.ev rfl))) rfl rfl rfl fun a E => ?_
  refine dp E rfl (fun w => (o_mv (E.ev rfl))) rfl rfl rfl fun a E => ?_
  obtain ⟨x2, hx2, hm⟩ := ob_some hm
  have f3 := (h2.tr t4).tr t5
  obtain ⟨b4, p1, g1, h3⟩ := f3.gt hx2
  refine dp E rfl (fun w => (o_ixg Tryz.underlying36 Tryz.sizeOf39 g1 (E.ev rfl) (E.ev rfl))) rfl rfl rfl fun a E => ?_
  refine dq E rfl (fun s' t => (o_ld Tryz.isAgg39 (E.ev rfl) (h3.up t).cell)) rfl rfl rfl (by kernel_rfl) fun a E => ?_
  refine dp E rfl (fun w => (o_mv (E.ev rfl))) rfl rfl rfl fun a E => ?_
  obtain ⟨x3, hx3, hm⟩ := ob_some hm
  obtain ⟨b5, p2, g2, h4⟩ := f3.gt hx3
  refine dp E rfl (fun w => (o_ixg Tryz.underlying36 Tryz.sizeOf39 g2 (E.ev rfl) (E.ev rfl))) rfl rfl rfl fun a E => ?_
  refine dq E rfl (fun s' t => (o_ld Tryz.isAgg39 (E.ev rfl) (h4.up t).cell)) rfl rfl rfl (by kernel_rfl) fun a E => ?_
  refine dp E rfl (fun w => (o_mv (E.ev rfl))) rfl rfl rfl fun a E => ?_
  obtain ⟨x4, hx4, hm⟩ := ob_some hm
  obtain ⟨b6, p3, g3, h5⟩ := f3.gt hx4
  refine dp E rfl (fun w => (o_ixg Tryz.underlying36 Tryz.sizeOf39 g3 (E.ev rfl) (E.ev rfl))) rfl rfl rfl fun a E => ?_
  refine dq E rfl (fun s' t => (o_ld Tryz.isAgg39 (E.ev rfl) (h5.up t).cell)) rfl rfl rfl (by kernel_rfl) fun a E => ?_
  refine dp E rfl (fun w => (o_mv (E.ev rfl))) rfl rfl rfl fun a E => ?_
  obtain ⟨x5, hx5, hm⟩ := ob_some hm
  obtain ⟨b7, p4, g4, h6⟩ := f3.gt hx5
  refine dp E rfl (fun w => (o_ixg Tryz.underlying36 Tryz.sizeOf39 g4 (E.ev rfl) (E.ev rfl))) rfl rfl rfl fun a E => ?_
  refine dq E rfl (fun s' t => (o_ld Tryz.isAgg39 (E.ev rfl) (h6.up t).cell)) rfl rfl rfl (by kernel_rfl) fun a E => ?_
  refine dp E rfl (fun w => (o_bda (cells := #[.int .u64 y1, .int .u64 x2, .int .u64 x3, .int .u64 x4, .int .u64 x5, .int .u64 0, .int .u64 0, .int .u64 0]) Tryz.zeroValue40 Tryz.underlying40 Tryz.sizeOf39 (qs := #[(0, .int .u64 y1), (1, .int .u64 x2), (2, .int .u64 x3), (3, .int .u64 x4), (4, .int .u64 x5)]) (by simp only [List.map_toArray, List.map_cons, List.map_nil, E.ev (x := .tmp 27) (v := .int .u64 y1) rfl, E.ev (x := .tmp 30) (v := .int .u64 x2) rfl, E.ev (x := .tmp 33) (v := .int .u64 x3) rfl, E.ev (x := .tmp 36) (v := .int .u64 x4) rfl, E.ev (x := .tmp 39) (v := .int .u64 x5) rfl]) (by kernel_rfl))) rfl rfl rfl fun a E => ?_
  have f4 := ((o2.trN t3).trN t4).trN t5
  refine dlN E rfl (o_stA Tryz.sizeOf40 f4 (E.ev rfl) (E.ev rfl) (List.length_replicate ..) (show ([y1, x2, x3, x4, x5, 0, 0, 0] : List Int).length = 8 from rfl)) rfl rfl (by kernel_rfl) ?_
  rintro _ s6 ⟨o3, t6⟩
  refine gd_nil ?_
  refine tgn ?_
  refine G_ret ?_
  cases hm
  have T1 : Tr (Fz κ []) s s6 := (((((t1.no.trans t2.no).trans t3.no).trans t4.no).trans t5.no).trans (Tr.ft Fz.f t6))
  exact fin1 E rfl (rv_cellA rfl Tryz.isAgg40 Tryz.sizeOf40 (show ([y1, x2, x3, x4, x5, 0, 0, 0] : List Int).length = 8 from rfl) o3.cell) ⟨(Tr.fin0 hκ T1), rfl, (show ([y1, x2, x3, x4, x5, 0, 0, 0] : List Int).length = 8 from rfl)⟩

-- gimmal/gimmalref07.Read
noncomputable def m_L57_1b (x0 : List Int) : (Bool × Int × Int × Int × Int × Int) → Option (Lo (Bool × Int × Int × Int × Int × Int) (Sum (Bool × Int × Int × Int × Int × Int) (Anchor × Bool))) := fun (x8, x9, x10, x11, x12, x13) => bif decide (x9 < 5) then (ob (gd (decide (0 ≤ x9) && decide (x9 < 8)) (some ())) fun x14 => ob (gt x0 x9) fun x15 => bif decide (x15 ≥ 4294967296) then (some (.inr (.inr ((⟨0, 0, 0, 0⟩ : Anchor), false)))) else (some (.inl (x8, IntKind.wrap .i64 (x9 + 1), x10, x11, x12, x13)))) else (some (.inr (.inl (x8, x9, x10, x11, x12, x13))))
noncomputable def m_L57_1k (x0 : List Int) : Sum (Bool × Int × Int × Int × Int × Int) (Anchor × Bool) → Option (Anchor × Bool)
  | .inl (x16, x17, x18, x19, x20, x21) => ob (gt x0 1) fun x22 => ob (gt x0 2) fun x23 => ob (gt x0 3) fun x24 => ob (gt x0 4) fun x25 => ob (ob (m_L77 (⟨IntKind.wrap .i64 x22, IntKind.wrap .i64 x23, IntKind.wrap .i64 x24, IntKind.wrap .i64 x25⟩ : Anchor)) fun y1 => bif !y1 then (some true) else (ob (m_L40 (⟨IntKind.wrap .i64 x22, IntKind.wrap .i64 x23, IntKind.wrap .i64 x24, IntKind.wrap .i64 x25⟩ : Anchor)) fun y2 => some (!decide (y2 = x0)))) fun t8 => bif t8 then (some ((⟨0, 0, 0, 0⟩ : Anchor), false)) else (some ((⟨IntKind.wrap .i64 x22, IntKind.wrap .i64 x23, IntKind.wrap .i64 x24, IntKind.wrap .i64 x25⟩ : Anchor), true))
  | .inr y => some y
noncomputable def m_L57 (x0 : List Int) : Option (Anchor × Bool) :=
  ob (loopO (m_L57_1b x0) (false, 1, 0, 0, 0, 0)) (m_L57_1k x0)
theorem ok_L57 (s : St) {x0 : List Int} (len_x0 : x0.length = 8) {r0y : Anchor} {r1y : Bool} (hm : m_L57 x0 = some (r0y, r1y)) :
    Ok Tryz.prog 57 ([eA .u64 x0] : List Value).toArray s fun v s' => Tr No s s' ∧ v = .tuple #[.agg #[.int .i64 r0y.Number, .int .i64 r0y.Epoch, .int .i64 r0y.Area, .int .i64 r0y.Words], .bool r1y] := by
  unfold m_L57 at hm
  obtain ⟨κ, hκ⟩ := s.fresh
  refine ok_of (n := 39) _ Tryz.func57 rfl _ rfl rfl fun a E => ?_
  refine G_seq ?_
  refine G_region ?_
  refine sh E (o_box (E.ev rfl)) rfl rfl rfl ?_
  rintro a _ s1 ⟨b1, rfl, o1, t1⟩ E
  refine sh E (o_al ((κ + 0), 1001) Tryz.zeroValue49) rfl rfl rfl ?_
  rintro a _ s2 ⟨b2, rfl, o2, t2⟩ E
  refine sd E (o_as (E.ev rfl)) rfl rfl rfl fun a E => ?_
  refine GL_nil ?_
  refine tgn ?_
  refine G_seq ?_
  refine G_seq ?_
  refine G_region ?_
  refine sd E (o_as (E.ev rfl)) rfl rfl rfl fun a E => ?_
  refine GL_nil ?_
  refine tgn ?_
  obtain ⟨r1, hl1, hm⟩ := ob_some hm
  refine G_mid1 (fun a' w' => ∃ x2 x3 x4 x5 x6 x7 s', m_L57_1k x0 (.inl (x2, x3, x4, x5, x6, x7)) = some (r0y, r1y) ∧ w' = s'.w ∧ Tr (Fz κ []) s2 s' ∧ Own ((κ + 0), 1001) s' b2 #[.int .i64 x4, .int .i64 x5, .int .i64 x6, .int .i64 x7] 49 ∧ En [] 39 a' [(3, .bool x2), (4, .int .i64 x3), (1, .pointer (some ⟨b1, 0, none⟩)), (2, .pointer (some ⟨b2, 0, none⟩))]) ?_ ?_
  · refine G_block ?_
    refine G_lp hl1 (fun st a' w' => ∃ x2 x3 x4 x5 x6 x7 s', st = (x2, x3, x4, x5, x6, x7) ∧ w' = s'.w ∧ Tr (Fz κ []) s2 s' ∧ Own ((κ + 0), 1001) s' b2 #[.int .i64 x4, .int .i64 x5, .int .i64 x6, .int .i64 x7] 49 ∧ En [] 39 a' [(3, .bool x2), (4, .int .i64 x3), (1, .pointer (some ⟨b1, 0, none⟩)), (2, .pointer (some ⟨b2, 0, none⟩))]) ⟨_, _, _, _, _, _, _, rfl, rfl, (Tr.refl _ _), o2, ((((E.nil.ad E rfl rfl).ad E rfl rfl).ad E rfl rfl).ad E rfl rfl)⟩ ?_
    rintro _ a _ x ⟨x8, x9, x10, x11, x12, x13, s3, rfl, rfl, t3, o3, E⟩ hf1
    dsimp only [m_L57_1b] at hf1
    refine G_seq ?_
    refine G_seq ?_
    refine G_region ?_
    refine sd E (o_mv (E.ev rfl)) rfl rfl rfl fun a E => ?_
    refine sd E (o_bi (E.ev rfl) (E.ev rfl) rfl) rfl rfl rfl fun a E => ?_
    refine GL_nil ?_
    refine tgn ?_
    refine G_cond (E.ev rfl) (fun ht => ?_) (fun ht => ?_)
    · have hf1 := cT ht hf1
      refine G_skip ?_
      refine tgn ?_
      refine G_seq ?_
      refine G_block ?_
      refine G_seq ?_
      refine G_region ?_
      refine sd E (o_mv (E.ev rfl)) rfl rfl rfl fun a E => ?_
      obtain ⟨x14, hx1, hf1⟩ := ob_some hf1
      refine sd E (o_ixa Tryz.underlying40 Tryz.sizeOf39 (E.ev rfl) (E.ev rfl) (ix_some hx1).1 (ix_some hx1).2) rfl rfl rfl fun a E => ?_
      have f1 := (o1.tr t2).tr t3
      obtain ⟨x15, hx2, hf1⟩ := ob_some hf1
      refine sd E (o_ld Tryz.isAgg39 (E.ev rfl) ((f1.cell _).trans (cA_get (gt_get hx2)))) rfl rfl rfl fun a E => ?_
      refine sd E (o_bi (E.ev rfl) (E.ev rfl) rfl) rfl rfl rfl fun a E => ?_
      refine GL_nil ?_
      refine tgn ?_
      refine G_cond (E.ev rfl) (fun ht => ?_) (fun ht => ?_)
      · have hf1 := cT ht hf1
        refine G_seq ?_
        refine G_region ?_
        refine sd E (o_bd (cells := #[.int .i64 0, .int .i64 0, .int .i64 0, .int .i64 0]) (places := #[(0, 1), (1, 1), (2, 1), (3, 1)]) Tryz.zeroValue49 Tryz.underlying49 (fun w => by simp [Sem.run_bind, Result.andThen, Tryz.sizeOf3]) (qs := #[]) (by simp only [List.map_toArray, List.map_cons, List.map_nil]) (by kernel_rfl)) rfl rfl rfl fun a E => ?_
        refine shN E (o_st (o := 0) (cs' := #[.int .i64 0, .int .i64 0, .int .i64 0, .int .i64 0]) (v := .agg #[.int .i64 0, .int .i64 0, .int .i64 0, .int .i64 0]) Tryz.sizeOf49 o3 (E.ev rfl) (E.ev rfl) (Nat.le_of_ble_eq_true rfl) (one_cells rfl) rfl) rfl rfl ?_
        rintro _ s4 ⟨o4, t4⟩
        refine sd E (o_as (E.ev rfl)) rfl rfl rfl fun a E => ?_
        refine GL_nil ?_
        refine tgn ?_
        refine G_ret ?_
        refine ebr ?_
        refine tgr ?_
        obtain rfl := Option.some.inj hf1
        refine lpr fun hr => ?_
        subst hr
        dsimp only [m_L57_1k] at hm
        refine ebr ?_
        refine ctr ?_
        refine tgr ?_
        cases hm
        have T1 : Tr (Fz κ []) s s4 := (((t1.no.trans t2.no).trans t3).trans (Tr.ft Fz.f t4))
        exact fin2 E rfl (rv_cell (cs := #[.int .i64 0, .int .i64 0, .int .i64 0, .int .i64 0]) rfl Tryz.isAgg49 Tryz.sizeOf49 o4.cell) rfl ⟨(Tr.fin0 hκ T1), rfl⟩
      · have hf1 := cF ht hf1
        refine G_skip ?_
        refine ebn ?_
        refine tgn ?_
        refine G_region ?_
        refine sd E (o_mv (E.ev rfl)) rfl rfl rfl fun a E => ?_
        refine sd E (o_bi (E.ev rfl) (E.ev rfl) rfl) rfl rfl rfl fun a E => ?_
        refine sd E (o_as (E.ev rfl)) rfl rfl rfl fun a E => ?_
        refine GL_nil ?_
        obtain rfl := Option.some.inj hf1
        exact lpn ⟨_, _, _, _, _, _, _, rfl, rfl, t3, o3, ((((E.nil.ad E rfl rfl).ad E rfl rfl).ad E rfl rfl).ad E rfl rfl)⟩
    · have hf1 := cF ht hf1
      refine G_exit ?_
      refine tge ?_
      obtain rfl := Option.some.inj hf1
      refine lpe fun hr => ?_
      subst hr
      refine ebk ?_
      refine ctn ?_
      exact ⟨_, _, _, _, _, _, _, hm, rfl, t3, o3, ((((E.nil.ad E rfl rfl).ad E rfl rfl).ad E rfl rfl).ad E rfl rfl)⟩
  · rintro a _ ⟨x16, x17, x18, x19, x20, x21, s5, hm, rfl, t5, o5, E⟩
    dsimp only [m_L57_1k] at hm
    refine tgn ?_
    refine G_seq ?_
    refine G_region ?_
    refine sd E (o_ixa Tryz.underlying40 Tryz.sizeOf39 (E.ev rfl) (E.ev rfl) (by decide) (by decide)) rfl rfl rfl fun a E => ?_
    have f2 := (o1.tr t2).tr t5
    obtain ⟨x22, hx3, hm⟩ := ob_some hm
    refine sd E (o_ld Tryz.isAgg39 (E.ev rfl) ((f2.cell _).trans (cA_get (gt_get hx3)))) rfl rfl rfl fun a E => ?_
    refine sd E (o_cv Tryz.underlying39 Tryz.underlying3 (E.ev rfl)) rfl rfl rfl fun a E => ?_
    refine sd E (o_ixa Tryz.underlying40 Tryz.sizeOf39 (E.ev rfl) (E.ev rfl) (by decide) (by decide)) rfl rfl rfl fun a E => ?_
    obtain ⟨x23, hx4, hm⟩ := ob_some hm
    refine sd E (o_ld Tryz.isAgg39 (E.ev rfl) ((f2.cell _).trans (cA_get (gt_get hx4)))) rfl rfl rfl fun a E => ?_
    refine sd E (o_cv Tryz.underlying39 Tryz.underlying3 (E.ev rfl)) rfl rfl rfl fun a E => ?_
    refine sd E (o_ixa Tryz.underlying40 Tryz.sizeOf39 (E.ev rfl) (E.ev rfl) (by decide) (by decide)) rfl rfl rfl fun a E => ?_
    obtain ⟨x24, hx5, hm⟩ := ob_some hm
    refine sd E (o_ld Tryz.isAgg39 (E.ev rfl) ((f2.cell _).trans (cA_get (gt_get hx5)))) rfl rfl rfl fun a E => ?_
    refine sd E (o_cv Tryz.underlying39 Tryz.underlying3 (E.ev rfl)) rfl rfl rfl fun a E => ?_
    refine sd E (o_ixa Tryz.underlying40 Tryz.sizeOf39 (E.ev rfl) (E.ev rfl) (by decide) (by decide)) rfl rfl rfl fun a E => ?_
    obtain ⟨x25, hx6, hm⟩ := ob_some hm
    refine sd E (o_ld Tryz.isAgg39 (E.ev rfl) ((f2.cell _).trans (cA_get (gt_get hx6)))) rfl rfl rfl fun a E => ?_
    refine sd E (o_cv Tryz.underlying39 Tryz.underlying3 (E.ev rfl)) rfl rfl rfl fun a E => ?_
    refine sd E (o_bd (cells := #[.int .i64 (IntKind.wrap .i64 x22), .int .i64 (IntKind.wrap .i64 x23), .int .i64 (IntKind.wrap .i64 x24), .int .i64 (IntKind.wrap .i64 x25)]) (places := #[(0, 1), (1, 1), (2, 1), (3, 1)]) Tryz.zeroValue49 Tryz.underlying49 (fun w => by simp [Sem.run_bind, Result.andThen, Tryz.sizeOf3]) (qs := #[(0, .int .i64 (IntKind.wrap .i64 x22)), (1, .int .i64 (IntKind.wrap .i64 x23)), (2, .int .i64 (IntKind.wrap .i64 x24)), (3, .int .i64 (IntKind.wrap .i64 x25))]) (by simp only [List.map_toArray, List.map_cons, List.map_nil, E.ev (x := .tmp 17) (v := .int .i64 (IntKind.wrap .i64 x22)) rfl, E.ev (x := .tmp 20) (v := .int .i64 (IntKind.wrap .i64 x23)) rfl, E.ev (x := .tmp 23) (v := .int .i64 (IntKind.wrap .i64 x24)) rfl, E.ev (x := .tmp 26) (v := .int .i64 (IntKind.wrap .i64 x25)) rfl]) (by kernel_rfl)) rfl rfl rfl fun a E => ?_
    refine sh E (o_al ((κ + 0), 1002) Tryz.zeroValue49) rfl rfl rfl ?_
    rintro a _ s6 ⟨b3, rfl, o6, t6⟩ E
    refine shN E (o_st (o := 0) (cs' := #[.int .i64 (IntKind.wrap .i64 x22), .int .i64 (IntKind.wrap .i64 x23), .int .i64 (IntKind.wrap .i64 x24), .int .i64 (IntKind.wrap .i64 x25)]) (v := .agg #[.int .i64 (IntKind.wrap .i64 x22), .int .i64 (IntKind.wrap .i64 x23), .int .i64 (IntKind.wrap .i64 x24), .int .i64 (IntKind.wrap .i64 x25)]) Tryz.sizeOf49 o6 (E.ev rfl) (E.ev rfl) (Nat.le_of_ble_eq_true rfl) (one_cells rfl) rfl) rfl rfl ?_
    rintro _ s7 ⟨o7, t7⟩
    refine GL_nil ?_
    refine tgn ?_
    refine G_seq ?_
    refine G_seq ?_
    obtain ⟨t8, hc1, hm⟩ := ob_some hm
    refine G_drwm (κ + 1) (by rfl) [0, 1, 2, 3, 4, 6, 5, 7, 8] (by kernel_rfl) (fun a' w' => ∃ s', w' = s'.w ∧ Tr No s7 s' ∧ En [] 39 a' [(36, .bool t8), (2, .pointer (some ⟨b2, 0, none⟩)), (3, .bool x16), (5, .pointer (some ⟨b3, 0, none⟩))]) ?_ ?_
    · intro s8 t9
      have f3 := o7.trN t9
      refine dr E rfl (fun s' t => (o_ldc (cs := #[.int .i64 (IntKind.wrap .i64 x22), .int .i64 (IntKind.wrap .i64 x23), .int .i64 (IntKind.wrap .i64 x24), .int .i64 (IntKind.wrap .i64 x25)]) Tryz.isAgg49 Tryz.sizeOf49 (E.ev rfl) (f3.trN t).cell)) rfl rfl rfl (by kernel_rfl) fun a E => ?_
      obtain ⟨y1, hx7, hc1⟩ := ob_some hc1
      refine dh E rfl (o_ok Tryz.call77 (E.evs rfl) (E.ev rfl) (ok_L77 _ (x0 := (⟨IntKind.wrap .i64 x22, IntKind.wrap .i64 x23, IntKind.wrap .i64 x24, IntKind.wrap .i64 x25⟩ : Anchor)) hx7)) (fun _ _ h => h.1) rfl rfl rfl (by kernel_rfl) ?_
      rintro a _ s9 ⟨t10, rfl⟩ E
      refine dp E rfl (fun w => (o_not (E.ev rfl))) rfl rfl rfl fun a E => ?_
      refine dp E rfl (fun w => (o_mv (E.ev rfl))) rfl rfl rfl fun a E => ?_
      refine bcase (E.ev (x := .tmp 31) rfl) (fun ht => ?_) (fun ht => ?_)
      · have hc1 := cT ht hc1
        rw [ht] at E
        refine dk E rfl rfl rfl rfl fun a E => ?_
        refine dk E rfl rfl rfl rfl fun a E => ?_
        refine dk E rfl rfl rfl rfl fun a E => ?_
        refine dk E rfl rfl rfl rfl fun a E => ?_
        refine dp E rfl (fun w => (o_pickT (E.ev rfl) (E.ev rfl))) rfl rfl rfl fun a E => ?_
        obtain rfl := Option.some.inj hc1
        exact gd_nil ⟨_, rfl, (t9.trans t10), ((((E.nil.ad E rfl rfl).ad E rfl rfl).ad E rfl rfl).ad E rfl rfl)⟩
      · have hc1 := cF ht hc1
        rw [ht] at E
        have f4 := f3.trN t10
        refine dr E rfl (fun s' t => (o_ldc (cs := #[.int .i64 (IntKind.wrap .i64 x22), .int .i64 (IntKind.wrap .i64 x23), .int .i64 (IntKind.wrap .i64 x24), .int .i64 (IntKind.wrap .i64 x25)]) Tryz.isAgg49 Tryz.sizeOf49 (E.ev rfl) (f4.trN t).cell)) rfl rfl rfl (by kernel_rfl) fun a E => ?_
        have f5 := (((f2.tr t6).tr t7).tr t9).tr t10
        refine dq E rfl (fun s' t => (o_ldA Tryz.isAgg40 Tryz.sizeOf40 (E.ev rfl) len_x0 (f5.up t).cell)) rfl rfl rfl (by kernel_rfl) fun a E => ?_
        obtain ⟨y2, hx8, hc1⟩ := ob_some hc1
        refine dh E rfl (o_ok Tryz.call40 (E.evs rfl) (E.ev rfl) (ok_L40 _ (x0 := (⟨IntKind.wrap .i64 x22, IntKind.wrap .i64 x23, IntKind.wrap .i64 x24, IntKind.wrap .i64 x25⟩ : Anchor)) hx8)) (fun _ _ h => h.1) rfl rfl rfl (by kernel_rfl) ?_
        rintro a _ s10 ⟨t11, rfl, len_y2⟩ E
        refine dp E rfl (fun w => (o_neA Tryz.underlying40 Tryz.type39 Tryz.underlying39 (by kernel_rfl) (by kernel_rfl) (by kernel_rfl) (E.ev rfl) (E.ev rfl) len_y2 len_x0)) rfl rfl rfl fun a E => ?_
        refine dp E rfl (fun w => (o_pickF (E.ev rfl) (E.ev rfl))) rfl rfl rfl fun a E => ?_
        obtain rfl := Option.some.inj hc1
        exact gd_nil ⟨_, rfl, ((t9.trans t10).trans t11), ((((E.nil.ad E rfl rfl).ad E rfl rfl).ad E rfl rfl).ad E rfl rfl)⟩
    rintro a _ ⟨s11, rfl, t12, E⟩
    refine tgn ?_
    refine G_cond (E.ev rfl) (fun ht => ?_) (fun ht => ?_)
    · have hm := cT ht hm
      refine G_seq ?_
      refine G_region ?_
      refine sd E (o_bd (cells := #[.int .i64 0, .int .i64 0, .int .i64 0, .int .i64 0]) (places := #[(0, 1), (1, 1), (2, 1), (3, 1)]) Tryz.zeroValue49 Tryz.underlying49 (fun w => by simp [Sem.run_bind, Result.andThen, Tryz.sizeOf3]) (qs := #[]) (by simp only [List.map_toArray, List.map_cons, List.map_nil]) (by kernel_rfl)) rfl rfl rfl fun a E => ?_
      have f6 := ((o5.trN t6).tr t7 (nt_snd rfl)).trN t12
      refine shN E (o_st (o := 0) (cs' := #[.int .i64 0, .int .i64 0, .int .i64 0, .int .i64 0]) (v := .agg #[.int .i64 0, .int .i64 0, .int .i64 0, .int .i64 0]) Tryz.sizeOf49 f6 (E.ev rfl) (E.ev rfl) (Nat.le_of_ble_eq_true rfl) (one_cells rfl) rfl) rfl rfl ?_
      rintro _ s12 ⟨o8, t13⟩
      refine sd E (o_as (E.ev rfl)) rfl rfl rfl fun a E => ?_
      refine GL_nil ?_
      refine tgn ?_
      refine G_ret ?_
      refine tgr ?_
      cases hm
      have T2 : Tr (Fz κ []) s s12 := ((((((t1.no.trans t2.no).trans t5).trans t6.no).trans (Tr.ft Fz.f t7)).trans t12.no).trans (Tr.ft Fz.f t13))
      exact fin2 E rfl (rv_cell (cs := #[.int .i64 0, .int .i64 0, .int .i64 0, .int .i64 0]) rfl Tryz.isAgg49 Tryz.sizeOf49 o8.cell) rfl ⟨(Tr.fin0 hκ T2), rfl⟩
    · have hm := cF ht hm
      refine G_skip ?_
      refine tgn ?_
      refine G_seq ?_
      refine G_region ?_
      have f7 := o7.trN t12
      refine sd E (o_ldc (cs := #[.int .i64 (IntKind.wrap .i64 x22), .int .i64 (IntKind.wrap .i64 x23), .int .i64 (IntKind.wrap .i64 x24), .int .i64 (IntKind.wrap .i64 x25)]) Tryz.isAgg49 Tryz.sizeOf49 (E.ev rfl) f7.cell) rfl rfl rfl fun a E => ?_
      have f8 := ((o5.trN t6).tr t7 (nt_snd rfl)).trN t12
      refine shN E (o_st (o := 0) (cs' := #[.int .i64 (IntKind.wrap .i64 x22), .int .i64 (IntKind.wrap .i64 x23), .int .i64 (IntKind.wrap .i64 x24), .int .i64 (IntKind.wrap .i64 x25)]) (v := .agg #[.int .i64 (IntKind.wrap .i64 x22), .int .i64 (IntKind.wrap .i64 x23), .int .i64 (IntKind.wrap .i64 x24), .int .i64 (IntKind.wrap .i64 x25)]) Tryz.sizeOf49 f8 (E.ev rfl) (E.ev rfl) (Nat.le_of_ble_eq_true rfl) (one_cells rfl) rfl) rfl rfl ?_
      rintro _ s13 ⟨o9, t14⟩
      refine sd E (o_as (E.ev rfl)) rfl rfl rfl fun a E => ?_
      refine GL_nil ?_
      refine tgn ?_
      refine G_ret ?_
      cases hm
      have T3 : Tr (Fz κ []) s s13 := ((((((t1.no.trans t2.no).trans t5).trans t6.no).trans (Tr.ft Fz.f t7)).trans t12.no).trans (Tr.ft Fz.f t14))
      exact fin2 E rfl (rv_cell (cs := #[.int .i64 (IntKind.wrap .i64 x22), .int .i64 (IntKind.wrap .i64 x23), .int .i64 (IntKind.wrap .i64 x24), .int .i64 (IntKind.wrap .i64 x25)]) rfl Tryz.isAgg49 Tryz.sizeOf49 o9.cell) rfl ⟨(Tr.fin0 hκ T3), rfl⟩

-- gimmal/gimmalref07.Find

noncomputable def m_L27 (x0 : List Int) (x1 : List Int) : Option (Anchor × Bool) :=
  ob (m_L57 x0) fun (y1, y2) => ob (m_L57 x1) fun (y3, y4) => ob (bif y2 then (some ((Int.tmod y1.Number 2) == 0)) else (some false)) fun t10 => ob (bif y4 then (some ((Int.tmod y3.Number 2) == 1)) else (some false)) fun t12 => ob (bif t10 then (bif !t12 then (some true) else (some (decide (y1.Number > y3.Number)))) else (some false)) fun t14 => bif t14 then (some (y1, true)) else (bif t12 then (some (y3, true)) else (some ((⟨0, 0, 0, 0⟩ : Anchor), false)))
theorem ok_L27 (s : St) {x0 : List Int} {x1 : List Int} (len_x0 : x0.length = 8) (len_x1 : x1.length = 8) {r0y : Anchor} {r1y : Bool} (hm : m_L27 x0 x1 = some (r0y, r1y)) :
    Ok Tryz.prog 27 ([eA .u64 x0, eA .u64 x1] : List Value).toArray s fun v s' => Tr No s s' ∧ v = .tuple #[.agg #[.int .i64 r0y.Number, .int .i64 r0y.Epoch, .int .i64 r0y.Area, .int .i64 r0y.Words], .bool r1y] := by
  unfold m_L27 at hm
  obtain ⟨κ, hκ⟩ := s.fresh
  refine ok_of (n := 50) _ Tryz.func27 rfl _ rfl rfl fun a E => ?_
  refine G_seq ?_
  refine G_region ?_
  refine sh E (o_box (E.ev rfl)) rfl rfl rfl ?_
  rintro a _ s1 ⟨b1, rfl, o1, t1⟩ E
  refine sh E (o_box (E.ev rfl)) rfl rfl rfl ?_
  rintro a _ s2 ⟨b2, rfl, o2, t2⟩ E
  refine sh E (o_al ((κ + 0), 1001) Tryz.zeroValue49) rfl rfl rfl ?_
  rintro a _ s3 ⟨b3, rfl, o3, t3⟩ E
  refine sd E (o_as (E.ev rfl)) rfl rfl rfl fun a E => ?_
  refine GL_nil ?_
  refine tgn ?_
  refine G_seq ?_
  refine G_region ?_
  have f1 := (o1.tr t2).tr t3
  refine sd E (o_ldA Tryz.isAgg40 Tryz.sizeOf40 (E.ev rfl) len_x0 f1.cell) rfl rfl rfl fun a E => ?_
  obtain ⟨⟨y1, y2⟩, hx1, hm⟩ := ob_some hm
  refine sh E (o_ok Tryz.call57 (E.evs rfl) (E.ev rfl) (ok_L57 _ (x0 := x0) len_x0 hx1)) rfl rfl rfl ?_
  rintro a _ s4 ⟨t4, rfl⟩ E
  refine sd E (o_mv (E.ev rfl)) rfl rfl rfl fun a E => ?_
  refine sd E (o_ext (v := .agg #[.int .i64 y1.Number, .int .i64 y1.Epoch, .int .i64 y1.Area, .int .i64 y1.Words]) (E.ev rfl) rfl) rfl rfl rfl fun a E => ?_
  refine sd E (o_ext (v := .bool y2) (E.ev rfl) rfl) rfl rfl rfl fun a E => ?_
  refine sh E (o_al ((κ + 0), 1002) Tryz.zeroValue49) rfl rfl rfl ?_
  rintro a _ s5 ⟨b4, rfl, o4, t5⟩ E
  refine shN E (o_st (o := 0) (cs' := #[.int .i64 y1.Number, .int .i64 y1.Epoch, .int .i64 y1.Area, .int .i64 y1.Words]) (v := .agg #[.int .i64 y1.Number, .int .i64 y1.Epoch, .int .i64 y1.Area, .int .i64 y1.Words]) Tryz.sizeOf49 o4 (E.ev rfl) (E.ev rfl) (Nat.le_of_ble_eq_true rfl) (one_cells rfl) rfl) rfl rfl ?_
  rintro _ s6 ⟨o5, t6⟩
  refine sd E (o_as (E.ev rfl)) rfl rfl rfl fun a E => ?_
  refine GL_nil ?_
  refine tgn ?_
  refine G_seq ?_
  refine G_region ?_
  have f2 := (((o2.tr t3).tr t4).tr t5).tr t6
  refine sd E (o_ldA Tryz.isAgg40 Tryz.sizeOf40 (E.ev rfl) len_x1 f2.cell) rfl rfl rfl fun a E => ?_
  obtain ⟨⟨y3, y4⟩, hx2, hm⟩ := ob_some hm
  refine sh E (o_ok Tryz.call57 (E.evs rfl) (E.ev rfl) (ok_L57 _ (x0 := x1) len_x1 hx2)) rfl rfl rfl ?_
  rintro a _ s7 ⟨t7, rfl⟩ E
  refine sd E (o_mv (E.ev rfl)) rfl rfl rfl fun a E => ?_
  refine sd E (o_ext (v := .agg #[.int .i64 y3.Number, .int .i64 y3.Epoch, .int .i64 y3.Area, .int .i64 y3.Words]) (E.ev rfl) rfl) rfl rfl rfl fun a E => ?_
  refine sd E (o_ext (v := .bool y4) (E.ev rfl) rfl) rfl rfl rfl fun a E => ?_
  refine sh E (o_al ((κ + 0), 1003) Tryz.zeroValue49) rfl rfl rfl ?_
  rintro a _ s8 ⟨b5, rfl, o6, t8⟩ E
  refine shN E (o_st (o := 0) (cs' := #[.int .i64 y3.Number, .int .i64 y3.Epoch, .int .i64 y3.Area, .int .i64 y3.Words]) (v := .agg #[.int .i64 y3.Number, .int .i64 y3.Epoch, .int .i64 y3.Area, .int .i64 y3.Words]) Tryz.sizeOf49 o6 (E.ev rfl) (E.ev rfl) (Nat.le_of_ble_eq_true rfl) (one_cells rfl) rfl) rfl rfl ?_
  rintro _ s9 ⟨o7, t9⟩
  refine sd E (o_as (E.ev rfl)) rfl rfl rfl fun a E => ?_
  refine GL_nil ?_
  refine tgn ?_
  refine G_seq ?_
  obtain ⟨t10, hc1, hm⟩ := ob_some hm
  refine G_regm (fun a' w' => ∃ s', w' = s'.w ∧ Tr No s9 s' ∧ En [] 50 a' [(7, .bool t10), (4, .pointer (some ⟨b3, 0, none⟩)), (5, .bool false), (6, .pointer (some ⟨b4, 0, none⟩)), (8, .pointer (some ⟨b5, 0, none⟩)), (9, .bool y4)]) ?_ ?_
  · refine sd E (o_mv (E.ev rfl)) rfl rfl rfl fun a E => ?_
    refine sd E (o_mv (E.ev rfl)) rfl rfl rfl fun a E => ?_
    refine bcase (E.ev (x := .tmp 21) rfl) (fun ht => ?_) (fun ht => ?_)
    · have hc1 := cT ht hc1
      rw [ht] at E
      refine sd E (o_fa Tryz.underlying49 rfl Tryz.sizeOf3 (E.ev rfl)) rfl rfl rfl fun a E => ?_
      have f3 := ((o5.trN t7).trN t8).tr t9 (nt_snd rfl)
      refine sd E (o_ld Tryz.isAgg3 (E.ev rfl) ((f3.cell _).trans rfl)) rfl rfl rfl fun a E => ?_
      refine sd E (o_rem (E.ev rfl) (E.ev rfl) rfl) rfl rfl rfl fun a E => ?_
      refine sd E (o_bi (E.ev rfl) (E.ev rfl) rfl) rfl rfl rfl fun a E => ?_
      refine sd E (o_pickT (E.ev rfl) (E.ev rfl)) rfl rfl rfl fun a E => ?_
      refine sd E (o_as (E.ev rfl)) rfl rfl rfl fun a E => ?_
      obtain rfl := Option.some.inj hc1
      exact GL_nil ⟨_, rfl, (Tr.refl _ _), ((((((E.nil.ad E rfl rfl).ad E rfl rfl).ad E rfl rfl).ad E rfl rfl).ad E rfl rfl).ad E rfl rfl)⟩
    · have hc1 := cF ht hc1
      rw [ht] at E
      refine sk E rfl rfl rfl fun a E => ?_
      refine sk E rfl rfl rfl fun a E => ?_
      refine sk E rfl rfl rfl fun a E => ?_
      refine sk E rfl rfl rfl fun a E => ?_
      refine sd E (o_pickF (E.ev rfl) (E.ev rfl)) rfl rfl rfl fun a E => ?_
      refine sd E (o_as (E.ev rfl)) rfl rfl rfl fun a E => ?_
      obtain rfl := Option.some.inj hc1
      exact GL_nil ⟨_, rfl, (Tr.refl _ _), ((((((E.nil.ad E rfl rfl).ad E rfl rfl).ad E rfl rfl).ad E rfl rfl).ad E rfl rfl).ad E rfl rfl)⟩
  rintro a _ ⟨s10, rfl, t11, E⟩
  refine tgn ?_
  refine G_seq ?_
  obtain ⟨t12, hc2, hm⟩ := ob_some hm
  refine G_regm (fun a' w' => ∃ s', w' = s'.w ∧ Tr No s10 s' ∧ En [] 50 a' [(9, .bool t12), (4, .pointer (some ⟨b3, 0, none⟩)), (5, .bool false), (6, .pointer (some ⟨b4, 0, none⟩)), (7, .bool t10), (8, .pointer (some ⟨b5, 0, none⟩))]) ?_ ?_
  · refine sd E (o_mv (E.ev rfl)) rfl rfl rfl fun a E => ?_
    refine sd E (o_mv (E.ev rfl)) rfl rfl rfl fun a E => ?_
    refine bcase (E.ev (x := .tmp 28) rfl) (fun ht => ?_) (fun ht => ?_)
    · have hc2 := cT ht hc2
      rw [ht] at E
      refine sd E (o_fa Tryz.underlying49 rfl Tryz.sizeOf3 (E.ev rfl)) rfl rfl rfl fun a E => ?_
      have f4 := o7.trN t11
      refine sd E (o_ld Tryz.isAgg3 (E.ev rfl) ((f4.cell _).trans rfl)) rfl rfl rfl fun a E => ?_
      refine sd E (o_rem (E.ev rfl) (E.ev rfl) rfl) rfl rfl rfl fun a E => ?_
      refine sd E (o_bi (E.ev rfl) (E.ev rfl) rfl) rfl rfl rfl fun a E => ?_
      refine sd E (o_pickT (E.ev rfl) (E.ev rfl)) rfl rfl rfl fun a E => ?_
      refine sd E (o_as (E.ev rfl)) rfl rfl rfl fun a E => ?_
      obtain rfl := Option.some.inj hc2
      exact GL_nil ⟨_, rfl, (Tr.refl _ _), ((((((E.nil.ad E rfl rfl).ad E rfl rfl).ad E rfl rfl).ad E rfl rfl).ad E rfl rfl).ad E rfl rfl)⟩
    · have hc2 := cF ht hc2
      rw [ht] at E
      refine sk E rfl rfl rfl fun a E => ?_
      refine sk E rfl rfl rfl fun a E => ?_
      refine sk E rfl rfl rfl fun a E => ?_
      refine sk E rfl rfl rfl fun a E => ?_
      refine sd E (o_pickF (E.ev rfl) (E.ev rfl)) rfl rfl rfl fun a E => ?_
      refine sd E (o_as (E.ev rfl)) rfl rfl rfl fun a E => ?_
      obtain rfl := Option.some.inj hc2
      exact GL_nil ⟨_, rfl, (Tr.refl _ _), ((((((E.nil.ad E rfl rfl).ad E rfl rfl).ad E rfl rfl).ad E rfl rfl).ad E rfl rfl).ad E rfl rfl)⟩
  rintro a _ ⟨s11, rfl, t13, E⟩
  refine tgn ?_
  refine G_seq ?_
  refine G_seq ?_
  obtain ⟨t14, hc3, hm⟩ := ob_some hm
  refine G_regm (fun a' w' => ∃ s', w' = s'.w ∧ Tr No s11 s' ∧ En [] 50 a' [(45, .bool t14), (4, .pointer (some ⟨b3, 0, none⟩)), (5, .bool false), (6, .pointer (some ⟨b4, 0, none⟩)), (8, .pointer (some ⟨b5, 0, none⟩)), (9, .bool t12)]) ?_ ?_
  · refine sd E (o_mv (E.ev rfl)) rfl rfl rfl fun a E => ?_
    refine sd E (o_mv (E.ev rfl)) rfl rfl rfl fun a E => ?_
    refine bcase (E.ev (x := .tmp 35) rfl) (fun ht => ?_) (fun ht => ?_)
    · have hc3 := cT ht hc3
      rw [ht] at E
      refine sd E (o_mv (E.ev rfl)) rfl rfl rfl fun a E => ?_
      refine sd E (o_not (E.ev rfl)) rfl rfl rfl fun a E => ?_
      refine sd E (o_mv (E.ev rfl)) rfl rfl rfl fun a E => ?_
      refine bcase (E.ev (x := .tmp 38) rfl) (fun ht => ?_) (fun ht => ?_)
      · have hc3 := cT ht hc3
        rw [ht] at E
        refine sk E rfl rfl rfl fun a E => ?_
        refine sk E rfl rfl rfl fun a E => ?_
        refine sk E rfl rfl rfl fun a E => ?_
        refine sk E rfl rfl rfl fun a E => ?_
        refine sk E rfl rfl rfl fun a E => ?_
        refine sd E (o_pickT (E.ev rfl) (E.ev rfl)) rfl rfl rfl fun a E => ?_
        refine sd E (o_pickT (E.ev rfl) (E.ev rfl)) rfl rfl rfl fun a E => ?_
        obtain rfl := Option.some.inj hc3
        exact GL_nil ⟨_, rfl, (Tr.refl _ _), ((((((E.nil.ad E rfl rfl).ad E rfl rfl).ad E rfl rfl).ad E rfl rfl).ad E rfl rfl).ad E rfl rfl)⟩
      · have hc3 := cF ht hc3
        rw [ht] at E
        refine sd E (o_fa Tryz.underlying49 rfl Tryz.sizeOf3 (E.ev rfl)) rfl rfl rfl fun a E => ?_
        have f5 := ((((o5.trN t7).trN t8).tr t9 (nt_snd rfl)).trN t11).trN t13
        refine sd E (o_ld Tryz.isAgg3 (E.ev rfl) ((f5.cell _).trans rfl)) rfl rfl rfl fun a E => ?_
        refine sd E (o_fa Tryz.underlying49 rfl Tryz.sizeOf3 (E.ev rfl)) rfl rfl rfl fun a E => ?_
        have f6 := (o7.trN t11).trN t13
        refine sd E (o_ld Tryz.isAgg3 (E.ev rfl) ((f6.cell _).trans rfl)) rfl rfl rfl fun a E => ?_
        refine sd E (o_bi (E.ev rfl) (E.ev rfl) rfl) rfl rfl rfl fun a E => ?_
        refine sd E (o_pickF (E.ev rfl) (E.ev rfl)) rfl rfl rfl fun a E => ?_
        refine sd E (o_pickT (E.ev rfl) (E.ev rfl)) rfl rfl rfl fun a E => ?_
        obtain rfl := Option.some.inj hc3
        exact GL_nil ⟨_, rfl, (Tr.refl _ _), ((((((E.nil.ad E rfl rfl).ad E rfl rfl).ad E rfl rfl).ad E rfl rfl).ad E rfl rfl).ad E rfl rfl)⟩
    · have hc3 := cF ht hc3
      rw [ht] at E
      refine sk E rfl rfl rfl fun a E => ?_
      refine sk E rfl rfl rfl fun a E => ?_
      refine sk E rfl rfl rfl fun a E => ?_
      refine sku E rfl rfl rfl rfl rfl fun a E => ?_
      refine sku E rfl rfl rfl rfl rfl fun a E => ?_
      refine sku E rfl rfl rfl rfl rfl fun a E => ?_
      refine sku E rfl rfl rfl rfl rfl fun a E => ?_
      refine sku E rfl rfl rfl rfl rfl fun a E => ?_
      refine sk E rfl rfl rfl fun a E => ?_
      refine sd E (o_pickF (E.ev rfl) (E.ev rfl)) rfl rfl rfl fun a E => ?_
      obtain rfl := Option.some.inj hc3
      exact GL_nil ⟨_, rfl, (Tr.refl _ _), ((((((E.nil.ad E rfl rfl).ad E rfl rfl).ad E rfl rfl).ad E rfl rfl).ad E rfl rfl).ad E rfl rfl)⟩
  rintro a _ ⟨s12, rfl, t15, E⟩
  refine tgn ?_
  refine G_cond (E.ev rfl) (fun ht => ?_) (fun ht => ?_)
  · have hm := cT ht hm
    refine G_seq ?_
    refine G_region ?_
    have f7 := (((((o5.trN t7).trN t8).tr t9 (nt_snd rfl)).trN t11).trN t13).trN t15
    refine sd E (o_ldc (cs := #[.int .i64 y1.Number, .int .i64 y1.Epoch, .int .i64 y1.Area, .int .i64 y1.Words]) Tryz.isAgg49 Tryz.sizeOf49 (E.ev rfl) f7.cell) rfl rfl rfl fun a E => ?_
    have f8 := ((((((((o3.trN t4).trN t5).tr t6 (nt_snd rfl)).trN t7).trN t8).tr t9 (nt_snd rfl)).trN t11).trN t13).trN t15
    refine shN E (o_st (o := 0) (cs' := #[.int .i64 y1.Number, .int .i64 y1.Epoch, .int .i64 y1.Area, .int .i64 y1.Words]) (v := .agg #[.int .i64 y1.Number, .int .i64 y1.Epoch, .int .i64 y1.Area, .int .i64 y1.Words]) Tryz.sizeOf49 f8 (E.ev rfl) (E.ev rfl) (Nat.le_of_ble_eq_true rfl) (one_cells rfl) rfl) rfl rfl ?_
    rintro _ s13 ⟨o8, t16⟩
    refine sd E (o_as (E.ev rfl)) rfl rfl rfl fun a E => ?_
    refine GL_nil ?_
    refine tgn ?_
    refine G_ret ?_
    refine tgr ?_
    cases hm
    have T1 : Tr (Fz κ []) s s13 := ((((((((((((t1.no.trans t2.no).trans t3.no).trans t4.no).trans t5.no).trans (Tr.ft Fz.f t6)).trans t7.no).trans t8.no).trans (Tr.ft Fz.f t9)).trans t11.no).trans t13.no).trans t15.no).trans (Tr.ft Fz.f t16))
    exact fin2 E rfl (rv_cell (cs := #[.int .i64 r0y.Number, .int .i64 r0y.Epoch, .int .i64 r0y.Area, .int .i64 r0y.Words]) rfl Tryz.isAgg49 Tryz.sizeOf49 o8.cell) rfl ⟨(Tr.fin0 hκ T1), rfl⟩
  · have hm := cF ht hm
    refine G_skip ?_
    refine tgn ?_
    refine G_seq ?_
    refine G_seq ?_
    refine G_region ?_
    refine sd E (o_mv (E.ev rfl)) rfl rfl rfl fun a E => ?_
    refine GL_nil ?_
    refine tgn ?_
    refine G_cond (E.ev rfl) (fun ht => ?_) (fun ht => ?_)
    · have hm := cT ht hm
      refine G_seq ?_
      refine G_region ?_
      have f9 := ((o7.trN t11).trN t13).trN t15
      refine sd E (o_ldc (cs := #[.int .i64 y3.Number, .int .i64 y3.Epoch, .int .i64 y3.Area, .int .i64 y3.Words]) Tryz.isAgg49 Tryz.sizeOf49 (E.ev rfl) f9.cell) rfl rfl rfl fun a E => ?_
      have f10 := ((((((((o3.trN t4).trN t5).tr t6 (nt_snd rfl)).trN t7).trN t8).tr t9 (nt_snd rfl)).trN t11).trN t13).trN t15
      refine shN E (o_st (o := 0) (cs' := #[.int .i64 y3.Number, .int .i64 y3.Epoch, .int .i64 y3.Area, .int .i64 y3.Words]) (v := .agg #[.int .i64 y3.Number, .int .i64 y3.Epoch, .int .i64 y3.Area, .int .i64 y3.Words]) Tryz.sizeOf49 f10 (E.ev rfl) (E.ev rfl) (Nat.le_of_ble_eq_true rfl) (one_cells rfl) rfl) rfl rfl ?_
      rintro _ s14 ⟨o9, t17⟩
      refine sd E (o_as (E.ev rfl)) rfl rfl rfl fun a E => ?_
      refine GL_nil ?_
      refine tgn ?_
      refine G_ret ?_
      refine tgr ?_
      cases hm
      have T2 : Tr (Fz κ []) s s14 := ((((((((((((t1.no.trans t2.no).trans t3.no).trans t4.no).trans t5.no).trans (Tr.ft Fz.f t6)).trans t7.no).trans t8.no).trans (Tr.ft Fz.f t9)).trans t11.no).trans t13.no).trans t15.no).trans (Tr.ft Fz.f t17))
      exact fin2 E rfl (rv_cell (cs := #[.int .i64 r0y.Number, .int .i64 r0y.Epoch, .int .i64 r0y.Area, .int .i64 r0y.Words]) rfl Tryz.isAgg49 Tryz.sizeOf49 o9.cell) rfl ⟨(Tr.fin0 hκ T2), rfl⟩
    · have hm := cF ht hm
      refine G_skip ?_
      refine tgn ?_
      refine G_seq ?_
      refine G_region ?_
      refine sd E (o_bd (cells := #[.int .i64 0, .int .i64 0, .int .i64 0, .int .i64 0]) (places := #[(0, 1), (1, 1), (2, 1), (3, 1)]) Tryz.zeroValue49 Tryz.underlying49 (fun w => by simp [Sem.run_bind, Result.andThen, Tryz.sizeOf3]) (qs := #[]) (by simp only [List.map_toArray, List.map_cons, List.map_nil]) (by kernel_rfl)) rfl rfl rfl fun a E => ?_
      have f11 := ((((((((o3.trN t4).trN t5).tr t6 (nt_snd rfl)).trN t7).trN t8).tr t9 (nt_snd rfl)).trN t11).trN t13).trN t15
      refine shN E (o_st (o := 0) (cs' := #[.int .i64 0, .int .i64 0, .int .i64 0, .int .i64 0]) (v := .agg #[.int .i64 0, .int .i64 0, .int .i64 0, .int .i64 0]) Tryz.sizeOf49 f11 (E.ev rfl) (E.ev rfl) (Nat.le_of_ble_eq_true rfl) (one_cells rfl) rfl) rfl rfl ?_
      rintro _ s15 ⟨o10, t18⟩
      refine sd E (o_as (E.ev rfl)) rfl rfl rfl fun a E => ?_
      refine GL_nil ?_
      refine tgn ?_
      refine G_ret ?_
      cases hm
      have T3 : Tr (Fz κ []) s s15 := ((((((((((((t1.no.trans t2.no).trans t3.no).trans t4.no).trans t5.no).trans (Tr.ft Fz.f t6)).trans t7.no).trans t8.no).trans (Tr.ft Fz.f t9)).trans t11.no).trans t13.no).trans t15.no).trans (Tr.ft Fz.f t18))
      exact fin2 E rfl (rv_cell (cs := #[.int .i64 0, .int .i64 0, .int .i64 0, .int .i64 0]) rfl Tryz.isAgg49 Tryz.sizeOf49 o10.cell) rfl ⟨(Tr.fin0 hκ T3), rfl⟩

-- gimmal/gimmalref22.Open

noncomputable def m_L8 (X1 : RDisk) (x1 : Int) : Option (RVault × Int × RDisk) :=
  ob (bif decide (x1 < 1) then (some true) else (bif decide (x1 > (X1.Read.length : Int)) then (some true) else (some (decide ((IntKind.wrap .i64 (2 + (IntKind.wrap .i64 (2 * x1)))) ≥ (X1.Read.length : Int)))))) fun t1 => bif t1 then (none) else (ob (gt X1.Read 0) fun x3 => ob (gt X1.Read 1) fun x4 => ob (m_L27 x3 x4) fun (y1, y2) => bif y2 then (bif decide (y1.Words > (IntKind.wrap .i64 (8 * x1))) then (none) else (ob (m_43 X1 (IntKind.wrap .i64 (2 + (IntKind.wrap .i64 (y1.Area * x1)))) x1) fun y3 => ob (sl y3 0 y1.Words) fun x5 => ob (m_15 y1.Epoch x5) fun (y4, y5) => bif y5 != y1.Words then (none) else (ob (m_17 X1 (IntKind.wrap .i64 (2 + (IntKind.wrap .i64 (2 * x1)))) (IntKind.wrap .i64 ((IntKind.wrap .i64 ((X1.Read.length : Int) - 2)) - (IntKind.wrap .i64 (2 * x1)))) y1.Epoch) fun (y6, X2) => some ((⟨x1, (⟨y1.Number, y1.Epoch, y1.Area, y1.Words⟩ : Anchor), y4, y6⟩ : RVault), 0, X2)))) else (ob (m_17 X1 (IntKind.wrap .i64 (2 + (IntKind.wrap .i64 (2 * x1)))) (IntKind.wrap .i64 ((IntKind.wrap .i64 ((X1.Read.length : Int) - 2)) - (IntKind.wrap .i64 (2 * x1)))) 0) fun (y7, X3) => some ((⟨x1, (⟨0, 0, 0, 0⟩ : Anchor), [], y7⟩ : RVault), 0, X3)))
theorem ok_L8 (s : St) (q0 q0a : Nat) {k1 b1 : Nat} {X1 : RDisk} {x1 : Int} (ho1 : RDiskAt k1 s b1 X1) {r0y : RVault} {r1y : Int} {Y1 : RDisk} (hm : m_L8 X1 x1 = some (r0y, r1y, Y1)) :
    Ok Tryz.prog 8 ([.pointer (some ⟨b1, 0, none⟩), .int .i64 x1] : List Value).toArray s fun v s' => Tr (Ws [k1]) s s' ∧ ∃ nb0, v = .tuple #[.pointer (some ⟨nb0, 0, none⟩), .int .i64 r1y] ∧ RDiskAt k1 s' b1 Y1 ∧ RVaultAt q0 q0a b1 s' nb0 r0y := by
  unfold m_L8 at hm
  obtain ⟨κ, hκ, hq0, hq0a⟩ := s.fresh2 q0 q0a
  have lt1 : k1 < κ := hκ _ _ ho1.tag
  refine ok_of (n := 105) _ Tryz.func8 rfl _ rfl rfl fun a E => ?_
  refine G_seq ?_
  refine G_region ?_
  refine sd E (o_as (E.ev rfl)) rfl rfl rfl fun a E => ?_
  refine sd E (o_as (E.ev rfl)) rfl rfl rfl fun a E => ?_
  refine GL_nil ?_
  refine tgn ?_
  refine G_seq ?_
  refine G_region ?_
  refine sd E (o_mv (E.ev rfl)) rfl rfl rfl fun a E => ?_
  refine sd E (o_nc (E.ev rfl)) rfl rfl rfl fun a E => ?_
  obtain ⟨w1, w2, w3, o1, h1, h2, h3⟩ := ho1
  refine sd E (o_fa Tryz.underlying65 rfl Tryz.sizeOf60 (E.ev rfl)) rfl rfl rfl fun a E => ?_
  refine sd E (o_ld Tryz.isAgg60 (E.ev rfl) ((o1.cell _).trans rfl)) rfl rfl rfl fun a E => ?_
  refine sd E (o_lenS (xs := X1.Read) Tryz.underlying60 (E.ev rfl) h2.isS) rfl rfl rfl fun a E => ?_
  refine sd E (o_as (E.ev rfl)) rfl rfl rfl fun a E => ?_
  refine GL_nil ?_
  refine tgn ?_
  refine G_seq ?_
  refine G_seq ?_
  obtain ⟨t1, hc1, hm⟩ := ob_some hm
  refine G_regm (fun a' w' => ∃ s', w' = s'.w ∧ Tr No s s' ∧ En [] 105 a' [(30, .bool t1), (0, .pointer (some ⟨b1, 0, none⟩)), (1, .int .i64 x1), (4, .pointer none), (5, .int .i64 0), (6, .int .i64 (X1.Read.length : Int))]) ?_ ?_
  · refine sd E (o_mv (E.ev rfl)) rfl rfl rfl fun a E => ?_
    refine sd E (o_bi (E.ev rfl) (E.ev rfl) rfl) rfl rfl rfl fun a E => ?_
    refine sd E (o_mv (E.ev rfl)) rfl rfl rfl fun a E => ?_
    refine bcase (E.ev (x := .tmp 19) rfl) (fun ht => ?_) (fun ht => ?_)
    · have hc1 := cT ht hc1
      rw [ht] at E
      refine sk E rfl rfl rfl fun a E => ?_
      refine sk E rfl rfl rfl fun a E => ?_
      refine sk E rfl rfl rfl fun a E => ?_
      refine sd E (o_pickT (E.ev rfl) (E.ev rfl)) rfl rfl rfl fun a E => ?_
      refine sd E (o_mv (E.ev rfl)) rfl rfl rfl fun a E => ?_
      refine sk E rfl rfl rfl fun a E => ?_
      refine sk E rfl rfl rfl fun a E => ?_
      refine sk E rfl rfl rfl fun a E => ?_
      refine sk E rfl rfl rfl fun a E => ?_
      refine sk E rfl rfl rfl fun a E => ?_
      refine sd E (o_pickT (E.ev rfl) (E.ev rfl)) rfl rfl rfl fun a E => ?_
      obtain rfl := Option.some.inj hc1
      exact GL_nil ⟨_, rfl, (Tr.refl _ _), ((((((E.nil.ad E rfl rfl).ad E rfl rfl).ad E rfl rfl).ad E rfl rfl).ad E rfl rfl).ad E rfl rfl)⟩
    · have hc1 := cF ht hc1
      rw [ht] at E
      refine sd E (o_mv (E.ev rfl)) rfl rfl rfl fun a E => ?_
      refine sd E (o_mv (E.ev rfl)) rfl rfl rfl fun a E => ?_
      refine sd E (o_bi (E.ev rfl) (E.ev rfl) rfl) rfl rfl rfl fun a E => ?_
      refine sd E (o_pickF (E.ev rfl) (E.ev rfl)) rfl rfl rfl fun a E => ?_
      refine sd E (o_mv (E.ev rfl)) rfl rfl rfl fun a E => ?_
      refine bcase (E.ev (x := .tmp 24) rfl) (fun ht => ?_) (fun ht => ?_)
      · have hc1 := cT ht hc1
        rw [ht] at E
        refine sk E rfl rfl rfl fun a E => ?_
        refine sk E rfl rfl rfl fun a E => ?_
        refine sk E rfl rfl rfl fun a E => ?_
        refine sk E rfl rfl rfl fun a E => ?_
        refine sk E rfl rfl rfl fun a E => ?_
        refine sd E (o_pickT (E.ev rfl) (E.ev rfl)) rfl rfl rfl fun a E => ?_
        obtain rfl := Option.some.inj hc1
        exact GL_nil ⟨_, rfl, (Tr.refl _ _), ((((((E.nil.ad E rfl rfl).ad E rfl rfl).ad E rfl rfl).ad E rfl rfl).ad E rfl rfl).ad E rfl rfl)⟩
      · have hc1 := cF ht hc1
        rw [ht] at E
        refine sd E (o_mv (E.ev rfl)) rfl rfl rfl fun a E => ?_
        refine sd E (o_bi (E.ev rfl) (E.ev rfl) rfl) rfl rfl rfl fun a E => ?_
        refine sd E (o_bi (E.ev rfl) (E.ev rfl) rfl) rfl rfl rfl fun a E => ?_
        refine sd E (o_mv (E.ev rfl)) rfl rfl rfl fun a E => ?_
        refine sd E (o_bi (E.ev rfl) (E.ev rfl) rfl) rfl rfl rfl fun a E => ?_
        refine sd E (o_pickF (E.ev rfl) (E.ev rfl)) rfl rfl rfl fun a E => ?_
        obtain rfl := Option.some.inj hc1
        exact GL_nil ⟨_, rfl, (Tr.refl _ _), ((((((E.nil.ad E rfl rfl).ad E rfl rfl).ad E rfl rfl).ad E rfl rfl).ad E rfl rfl).ad E rfl rfl)⟩
  rintro a _ ⟨s1, rfl, t2, E⟩
  refine tgn ?_
  refine G_cond (E.ev rfl) (fun ht => ?_) (fun ht => ?_)
  · have hm := cT ht hm
    refine G_seq ?_
    refine G_region ?_
    refine sd E (o_as (E.ev rfl)) rfl rfl rfl fun a E => ?_
    refine sd E (o_as (E.ev rfl)) rfl rfl rfl fun a E => ?_
    refine GL_nil ?_
    refine tgn ?_
    refine G_ret ?_
    refine tgr ?_
    cases hm
  · have hm := cF ht hm
    refine G_skip ?_
    refine tgn ?_
    refine G_seq ?_
    refine G_region ?_
    refine sd E (o_mv (E.ev rfl)) rfl rfl rfl fun a E => ?_
    refine sd E (o_mv (E.ev rfl)) rfl rfl rfl fun a E => ?_
    refine sd E (o_bd (cells := #[.pointer (some ⟨b1, 0, none⟩), .int .i64 x1, .int .i64 0, .int .i64 0, .int .i64 0, .int .i64 0, (.slice none 0 0), .pointer none]) (places := #[(0, 1), (1, 1), (2, 4), (6, 1), (7, 1)]) Tryz.zeroValue52 Tryz.underlying52 (fun w => by simp [Sem.run_bind, Result.andThen, Tryz.sizeOf3, Tryz.sizeOf27, Tryz.sizeOf43, Tryz.sizeOf49, Tryz.sizeOf50]) (qs := #[(0, .pointer (some ⟨b1, 0, none⟩)), (1, .int .i64 x1)]) (by simp only [List.map_toArray, List.map_cons, List.map_nil, E.ev (x := .tmp 31) (v := .pointer (some ⟨b1, 0, none⟩)) rfl, E.ev (x := .tmp 32) (v := .int .i64 x1) rfl]) (by kernel_rfl)) rfl rfl rfl fun a E => ?_
    refine sh E (o_boxo ((κ + 1), 0) (E.ev rfl)) rfl rfl rfl ?_
    rintro a _ s2 ⟨b2, rfl, o2, t3⟩ E
    refine sd E (o_as (E.ev rfl)) rfl rfl rfl fun a E => ?_
    refine GL_nil ?_
    refine tgn ?_
    refine G_seq ?_
    refine G_drw (κ + 3) (by rfl) [0, 1, 2, 3, 4, 5, 6, 7, 8, 9, 10, 11, 12, 13, 14, 15, 16, 17, 18] (by kernel_rfl) ?_
    intro s3 t4
    refine dp E rfl (fun w => (o_mv (E.ev rfl))) rfl rfl rfl fun a E => ?_
    refine dp E rfl (fun w => (o_nc (E.ev rfl))) rfl rfl rfl fun a E => ?_
    refine dp E rfl (fun w => (o_fa Tryz.underlying65 rfl Tryz.sizeOf60 (E.ev rfl))) rfl rfl rfl fun a E => ?_
    have f1 := ((o1.trN t2).trN t3).trN t4
    refine dr E rfl (fun s' t => (o_ld Tryz.isAgg60 (E.ev rfl) (((f1.trN t).cell _).trans rfl))) rfl rfl rfl (by kernel_rfl) fun a E => ?_
    obtain ⟨x3, hx1, hm⟩ := ob_some hm
    have f2 := ((h2.trN t2).trN t3).trN t4
    obtain ⟨b3, p1, g1⟩ := bd_ix f2 hx1
    refine dp E rfl (fun w => (o_ixg Tryz.underlying60 Tryz.sizeOf40 g1 (E.ev rfl) (E.ev rfl))) rfl rfl rfl fun a E => ?_
    refine dr E rfl (fun s' t => (o_ldB Tryz.isAgg40 Tryz.sizeOf40 (E.ev rfl) (f2.trN t) g1 hx1)) rfl rfl rfl (by kernel_rfl) fun a E => ?_
    refine dp E rfl (fun w => (o_mv (E.ev rfl))) rfl rfl rfl fun a E => ?_
    refine dp E rfl (fun w => (o_nc (E.ev rfl))) rfl rfl rfl fun a E => ?_
    refine dp E rfl (fun w => (o_fa Tryz.underlying65 rfl Tryz.sizeOf60 (E.ev rfl))) rfl rfl rfl fun a E => ?_
    refine dr E rfl (fun s' t => (o_ld Tryz.isAgg60 (E.ev rfl) (((f1.trN t).cell _).trans rfl))) rfl rfl rfl (by kernel_rfl) fun a E => ?_
    obtain ⟨x4, hx2, hm⟩ := ob_some hm
    obtain ⟨b4, p2, g2⟩ := bd_ix f2 hx2
    refine dp E rfl (fun w => (o_ixg Tryz.underlying60 Tryz.sizeOf40 g2 (E.ev rfl) (E.ev rfl))) rfl rfl rfl fun a E => ?_
    refine dr E rfl (fun s' t => (o_ldB Tryz.isAgg40 Tryz.sizeOf40 (E.ev rfl) (f2.trN t) g2 hx2)) rfl rfl rfl (by kernel_rfl) fun a E => ?_
    obtain ⟨⟨y1, y2⟩, hx3, hm⟩ := ob_some hm
    refine df E rfl (fun s' t => hv_swapq (o_ok Tryz.call27 (E.evs rfl) (E.ev rfl) (ok_L27 _ (x0 := x3) (x1 := x4) (bd_len8 f2 hx1) (bd_len8 f2 hx2) hx3))) rfl rfl rfl (by kernel_rfl) ?_
    rintro a _ s4 rfl t5 E
    refine dp E rfl (fun w => (o_mv (E.ev rfl))) rfl rfl rfl fun a E => ?_
    refine dp E rfl (fun w => (o_ext (v := .agg #[.int .i64 y1.Number, .int .i64 y1.Epoch, .int .i64 y1.Area, .int .i64 y1.Words]) (E.ev rfl) rfl)) rfl rfl rfl fun a E => ?_
    refine dp E rfl (fun w => (o_ext (v := .bool y2) (E.ev rfl) rfl)) rfl rfl rfl fun a E => ?_
    refine da E rfl rfl Tryz.zeroValue49 rfl rfl rfl (by kernel_rfl) ?_
    rintro a _ s5 ⟨b5, rfl, o3⟩ t6 E
    refine dlN E rfl (o_st (o := 0) (cs' := #[.int .i64 y1.Number, .int .i64 y1.Epoch, .int .i64 y1.Area, .int .i64 y1.Words]) (v := .agg #[.int .i64 y1.Number, .int .i64 y1.Epoch, .int .i64 y1.Area, .int .i64 y1.Words]) Tryz.sizeOf49 o3 (E.ev rfl) (E.ev rfl) (Nat.le_of_ble_eq_true rfl) (one_cells rfl) rfl) rfl rfl (by kernel_rfl) ?_
    rintro _ s6 ⟨o4, t7⟩
    refine dp E rfl (fun w => (o_as (E.ev rfl))) rfl rfl rfl fun a E => ?_
    refine gd_nil ?_
    refine tgn ?_
    refine G_seq ?_
    refine G_seq ?_
    refine G_region ?_
    refine sd E (o_mv (E.ev rfl)) rfl rfl rfl fun a E => ?_
    refine GL_nil ?_
    refine tgn ?_
    refine G_cond (E.ev rfl) (fun ht => ?_) (fun ht => ?_)
    · have hm := cT ht hm
      refine G_seq ?_
      refine G_region ?_
      refine sd E (o_mv (E.ev rfl)) rfl rfl rfl fun a E => ?_
      refine sd E (o_ldc (cs := #[.int .i64 y1.Number, .int .i64 y1.Epoch, .int .i64 y1.Area, .int .i64 y1.Words]) Tryz.isAgg49 Tryz.sizeOf49 (E.ev rfl) o4.cell) rfl rfl rfl fun a E => ?_
      refine sd E (o_nc (E.ev rfl)) rfl rfl rfl fun a E => ?_
      refine sd E (o_fa Tryz.underlying52 rfl Tryz.sizeOf49 (E.ev rfl)) rfl rfl rfl fun a E => ?_
      have f3 := (((o2.trN t4).trN t5).trN t6).tr t7 (nt_fst (ra rfl))
      refine shN E (o_st (o := 2) (cs' := #[.pointer (some ⟨b1, 0, none⟩), .int .i64 x1, .int .i64 y1.Number, .int .i64 y1.Epoch, .int .i64 y1.Area, .int .i64 y1.Words, (.slice none 0 0), .pointer none]) (v := .agg #[.int .i64 y1.Number, .int .i64 y1.Epoch, .int .i64 y1.Area, .int .i64 y1.Words]) Tryz.sizeOf49 f3 (E.ev rfl) (E.ev rfl) (Nat.le_of_ble_eq_true rfl) (one_cells rfl) rfl) rfl rfl ?_
      rintro _ s7 ⟨o5, t8⟩
      refine GL_nil ?_
      refine tgn ?_
      refine G_seq ?_
      refine G_seq ?_
      refine G_region ?_
      refine sd E (o_fa Tryz.underlying49 rfl Tryz.sizeOf3 (E.ev rfl)) rfl rfl rfl fun a E => ?_
      have f4 := o4.tr t8 (nt_fst (ra rfl))
      refine sd E (o_ld Tryz.isAgg3 (E.ev rfl) ((f4.cell _).trans rfl)) rfl rfl rfl fun a E => ?_
      refine sd E (o_mv (E.ev rfl)) rfl rfl rfl fun a E => ?_
      refine sd E (o_bi (E.ev rfl) (E.ev rfl) rfl) rfl rfl rfl fun a E => ?_
      refine sd E (o_bi (E.ev rfl) (E.ev rfl) rfl) rfl rfl rfl fun a E => ?_
      refine GL_nil ?_
      refine tgn ?_
      refine G_cond (E.ev rfl) (fun ht => ?_) (fun ht => ?_)
      · have hm := cT ht hm
        refine G_seq ?_
        refine G_region ?_
        refine sd E (o_as (E.ev rfl)) rfl rfl rfl fun a E => ?_
        refine sd E (o_as (E.ev rfl)) rfl rfl rfl fun a E => ?_
        refine GL_nil ?_
        refine tgn ?_
        refine G_ret ?_
        refine tgr ?_
        refine tgr ?_
        cases hm
      · have hm := cF ht hm
        refine G_skip ?_
        refine tgn ?_
        refine G_seq ?_
        refine G_drw (κ + 4) (by rfl) [0, 1, 2, 3, 4, 5, 6, 7, 8, 10, 11, 9, 12, 13, 14, 15, 16, 17, 18] (by kernel_rfl) ?_
        intro s8 t9
        refine dp E rfl (fun w => (o_fa Tryz.underlying49 rfl Tryz.sizeOf3 (E.ev rfl))) rfl rfl rfl fun a E => ?_
        have f5 := f4.trN t9
        refine dr E rfl (fun s' t => (o_ld Tryz.isAgg3 (E.ev rfl) (((f5.trN t).cell _).trans rfl))) rfl rfl rfl (by kernel_rfl) fun a E => ?_
        refine dp E rfl (fun w => (o_mv (E.ev rfl))) rfl rfl rfl fun a E => ?_
        refine dp E rfl (fun w => (o_fa Tryz.underlying49 rfl Tryz.sizeOf3 (E.ev rfl))) rfl rfl rfl fun a E => ?_
        refine dr E rfl (fun s' t => (o_ld Tryz.isAgg3 (E.ev rfl) (((f5.trN t).cell _).trans rfl))) rfl rfl rfl (by kernel_rfl) fun a E => ?_
        refine dp E rfl (fun w => (o_mv (E.ev rfl))) rfl rfl rfl fun a E => ?_
        refine dp E rfl (fun w => (o_bi (E.ev rfl) (E.ev rfl) rfl)) rfl rfl rfl fun a E => ?_
        refine dp E rfl (fun w => (o_bi (E.ev rfl) (E.ev rfl) rfl)) rfl rfl rfl fun a E => ?_
        refine dp E rfl (fun w => (o_mv (E.ev rfl))) rfl rfl rfl fun a E => ?_
        refine dp E rfl (fun w => (o_fa Tryz.underlying49 rfl Tryz.sizeOf3 (E.ev rfl))) rfl rfl rfl fun a E => ?_
        refine dr E rfl (fun s' t => (o_ld Tryz.isAgg3 (E.ev rfl) (((f5.trN t).cell _).trans rfl))) rfl rfl rfl (by kernel_rfl) fun a E => ?_
        have f6 := (((((((h1.trN t2).trN t3).trN t4).trN t5).trN t6).tr t7 (nt_fst (rb lt1))).tr t8 (nt_fst (rb lt1))).trN t9
        have f7 := ((((f2.trN t5).trN t6).tr t7 (nt_fst (rb lt1))).tr t8 (nt_fst (rb lt1))).trN t9
        have f8 := (((((((h3.trN t2).trN t3).trN t4).trN t5).trN t6).tr t7 (nt_fst (rb lt1))).tr t8 (nt_fst (rb lt1))).trN t9
        have f9 := ((((f1.trN t5).trN t6).tr t7 (nt_fst (rb lt1))).tr t8 (nt_fst (rb lt1))).trN t9
        have h6 : RDiskAt k1 s8 b1 X1 := ⟨_, _, _, f9, f6, f7, f8⟩
        obtain ⟨y3, hx4, hm⟩ := ob_some hm
        refine dh E rfl (o_ok Tryz.call29 (E.evs rfl) (E.ev rfl) (ok_43 _ (x1 := IntKind.wrap .i64 (2 + (IntKind.wrap .i64 (y1.Area * x1)))) (x2 := x1) h6 hx4)) (fun _ _ h => h.1) rfl rfl rfl (by kernel_rfl) ?_
        rintro a w4 s9 ⟨t10, _, rfl, h7⟩ E
        obtain ⟨x5, hx5, hm⟩ := ob_some hm
        obtain ⟨w5, g3, h8⟩ := h7.sl hx5
        refine dp E rfl (fun w => (o_slH Tryz.underlying36 Tryz.sizeOf39 g3 (E.ev rfl) (E.ev rfl))) rfl rfl rfl fun a E => ?_
        obtain ⟨⟨y4, y5⟩, hx6, hm⟩ := ob_some hm
        refine dh E rfl (o_ok Tryz.call28 (E.evs rfl) (E.ev rfl) (ok_15 _ (x0 := y1.Epoch) (x1 := x5) h8 hx6)) (fun _ _ h => h.1) rfl rfl rfl (by kernel_rfl) ?_
        rintro a _ s10 ⟨t11, w6, rfl, h9⟩ E
        refine dp E rfl (fun w => (o_mv (E.ev rfl))) rfl rfl rfl fun a E => ?_
        refine dp E rfl (fun w => (o_ext (v := w6) (E.ev rfl) rfl)) rfl rfl rfl fun a E => ?_
        refine dp E rfl (fun w => (o_ext (v := .int .i64 y5) (E.ev rfl) rfl)) rfl rfl rfl fun a E => ?_
        refine dp E rfl (fun w => (o_as (E.ev rfl))) rfl rfl rfl fun a E => ?_
        refine dp E rfl (fun w => (o_as (E.ev rfl))) rfl rfl rfl fun a E => ?_
        refine gd_nil ?_
        refine tgn ?_
        refine G_seq ?_
        refine G_seq ?_
        refine G_region ?_
        refine sd E (o_mv (E.ev rfl)) rfl rfl rfl fun a E => ?_
        refine sd E (o_fa Tryz.underlying49 rfl Tryz.sizeOf3 (E.ev rfl)) rfl rfl rfl fun a E => ?_
        have f10 := (f5.trN t10).trN t11
        refine sd E (o_ld Tryz.isAgg3 (E.ev rfl) ((f10.cell _).trans rfl)) rfl rfl rfl fun a E => ?_
        refine sd E (o_bi (E.ev rfl) (E.ev rfl) rfl) rfl rfl rfl fun a E => ?_
        refine GL_nil ?_
        refine tgn ?_
        refine G_cond (E.ev rfl) (fun ht => ?_) (fun ht => ?_)
        · have hm := cT ht hm
          refine G_seq ?_
          refine G_region ?_
          refine sd E (o_as (E.ev rfl)) rfl rfl rfl fun a E => ?_
          refine sd E (o_as (E.ev rfl)) rfl rfl rfl fun a E => ?_
          refine GL_nil ?_
          refine tgn ?_
          refine G_ret ?_
          refine tgr ?_
          refine tgr ?_
          cases hm
        · have hm := cF ht hm
          refine G_skip ?_
          refine tgn ?_
          refine G_region ?_
          refine sd E (o_mv (E.ev rfl)) rfl rfl rfl fun a E => ?_
          refine sd E (o_mv (E.ev rfl)) rfl rfl rfl fun a E => ?_
          refine sd E (o_nc (E.ev rfl)) rfl rfl rfl fun a E => ?_
          refine sd E (o_fa Tryz.underlying52 rfl Tryz.sizeOf43 (E.ev rfl)) rfl rfl rfl fun a E => ?_
          obtain ⟨a1, c1, rfl⟩ := h9.isS
          have f11 := ((o5.trN t9).trN t10).trN t11
          refine shN E (o_st (o := 6) (cs' := #[.pointer (some ⟨b1, 0, none⟩), .int .i64 x1, .int .i64 y1.Number, .int .i64 y1.Epoch, .int .i64 y1.Area, .int .i64 y1.Words, (.slice a1 y4.length c1), .pointer none]) (v := (.slice a1 y4.length c1)) Tryz.sizeOf43 f11 (E.ev rfl) (E.ev rfl) (Nat.le_of_ble_eq_true rfl) (one_cells rfl) rfl) rfl rfl ?_
          rintro _ s11 ⟨o6, t12⟩
          refine GL_nil ?_
          refine tgn ?_
          refine G_seq ?_
          refine G_region ?_
          refine sd E (o_mv (E.ev rfl)) rfl rfl rfl fun a E => ?_
          refine sd E (o_mv (E.ev rfl)) rfl rfl rfl fun a E => ?_
          refine sd E (o_mv (E.ev rfl)) rfl rfl rfl fun a E => ?_
          refine sd E (o_bi (E.ev rfl) (E.ev rfl) rfl) rfl rfl rfl fun a E => ?_
          refine sd E (o_bi (E.ev rfl) (E.ev rfl) rfl) rfl rfl rfl fun a E => ?_
          refine sd E (o_mv (E.ev rfl)) rfl rfl rfl fun a E => ?_
          refine sd E (o_bi (E.ev rfl) (E.ev rfl) rfl) rfl rfl rfl fun a E => ?_
          refine sd E (o_mv (E.ev rfl)) rfl rfl rfl fun a E => ?_
          refine sd E (o_bi (E.ev rfl) (E.ev rfl) rfl) rfl rfl rfl fun a E => ?_
          refine sd E (o_bi (E.ev rfl) (E.ev rfl) rfl) rfl rfl rfl fun a E => ?_
          refine sd E (o_mv (E.ev rfl)) rfl rfl rfl fun a E => ?_
          refine sd E (o_nc (E.ev rfl)) rfl rfl rfl fun a E => ?_
          refine sd E (o_fa Tryz.underlying52 rfl Tryz.sizeOf49 (E.ev rfl)) rfl rfl rfl fun a E => ?_
          refine sd E (o_fa Tryz.underlying49 rfl Tryz.sizeOf3 (E.ev rfl)) rfl rfl rfl fun a E => ?_
          refine sd E (o_ld Tryz.isAgg3 (E.ev rfl) ((o6.cell _).trans rfl)) rfl rfl rfl fun a E => ?_
          have f12 := ((h6.trN t10).trN t11).tr t12 (fun i => (nt_fst (rb lt1)))
          obtain ⟨⟨y6, X2⟩, hx7, hm⟩ := ob_some hm
          refine sh E (o_ok Tryz.call30 (E.evs rfl) (E.ev rfl) (ok_17 _ (κ + 5) (x1 := IntKind.wrap .i64 (2 + (IntKind.wrap .i64 (2 * x1)))) (x2 := IntKind.wrap .i64 ((IntKind.wrap .i64 ((X1.Read.length : Int) - 2)) - (IntKind.wrap .i64 (2 * x1)))) (x3 := y1.Epoch) f12 hx7)) rfl rfl rfl ?_
          rintro a _ s12 ⟨t13, b6, rfl, h11, h10⟩ E
          refine sd E (o_nc (E.ev rfl)) rfl rfl rfl fun a E => ?_
          refine sd E (o_fa Tryz.underlying52 rfl Tryz.sizeOf50 (E.ev rfl)) rfl rfl rfl fun a E => ?_
          have f13 := o6.tr t13 (nW1 (rb lt1).symm)
          refine shN E (o_st (o := 7) (cs' := #[.pointer (some ⟨b1, 0, none⟩), .int .i64 x1, .int .i64 y1.Number, .int .i64 y1.Epoch, .int .i64 y1.Area, .int .i64 y1.Words, (.slice a1 y4.length c1), .pointer (some ⟨b6, 0, none⟩)]) (v := .pointer (some ⟨b6, 0, none⟩)) Tryz.sizeOf50 f13 (E.ev rfl) (E.ev rfl) (Nat.le_of_ble_eq_true rfl) (one_cells rfl) rfl) rfl rfl ?_
          rintro _ s13 ⟨o7, t14⟩
          refine GL_nil ?_
          refine tgn ?_
          refine G_seq ?_
          refine G_region ?_
          refine sd E (o_mv (E.ev rfl)) rfl rfl rfl fun a E => ?_
          refine sd E (o_as (E.ev rfl)) rfl rfl rfl fun a E => ?_
          refine sd E (o_as (E.ev rfl)) rfl rfl rfl fun a E => ?_
          refine GL_nil ?_
          refine tgn ?_
          refine G_ret ?_
          cases hm
          obtain ⟨s14, e1, h12, t15⟩ := o7.rt (q0, 0)
          rw [e1]
          have f14 := (h10.tr t14 (fun i => (nt_fst (ra rfl)))).tr t15 (fun i => (nt_fst (ra rfl)))
          obtain ⟨s15, e2, h13, t16⟩ := f14.rt q0a
          rw [e2]
          have t16 := Tr.w1 t16
          have f15 := ((((h9.tr t12).tr t13).tr t14).tr t15).tr t16
          have f16 := h12.tr t16 (nW1 (rb hq0))
          have h14 : RVaultAt q0 q0a b1 s15 b2 (⟨x1, (⟨y1.Number, y1.Epoch, y1.Area, y1.Words⟩ : Anchor), y4, y6⟩ : RVault) := ⟨_, _, f16, f15, h13⟩
          have f17 := ((h11.tr t14 (fun i => (nt_fst (rb lt1)))).tr t15 (fun i => (nt_fst (rb lt1)))).tr t16 (fun i => (nW1 (rb lt1)))
          have T1 : Tr (Fz κ [k1]) s s15 := ((((((((((((((t2.no.trans t3.no).trans t4.no).trans t5.no).trans t6.no).trans (Tr.ft Fz.f t7)).trans (Tr.ft Fz.f t8)).trans t9.no).trans t10.no).trans t11.no).trans (Tr.ft Fz.f t12)).trans (Tr.fw1 Fz.w0 t13)).trans (Tr.ft Fz.f t14)).trans (Tr.ft Fz.f t15)).trans (Tr.fw1 Fz.f t16))
          exact fin2 E rfl rfl rfl ⟨(Tr.fin hκ T1), _, rfl, f17, h14⟩
    · have hm := cF ht hm
      refine G_skip ?_
      refine tgn ?_
      refine G_seq ?_
      refine G_region ?_
      refine sd E (o_mv (E.ev rfl)) rfl rfl rfl fun a E => ?_
      refine sd E (o_mv (E.ev rfl)) rfl rfl rfl fun a E => ?_
      refine sd E (o_mv (E.ev rfl)) rfl rfl rfl fun a E => ?_
      refine sd E (o_bi (E.ev rfl) (E.ev rfl) rfl) rfl rfl rfl fun a E => ?_
      refine sd E (o_bi (E.ev rfl) (E.ev rfl) rfl) rfl rfl rfl fun a E => ?_
      refine sd E (o_mv (E.ev rfl)) rfl rfl rfl fun a E => ?_
      refine sd E (o_bi (E.ev rfl) (E.ev rfl) rfl) rfl rfl rfl fun a E => ?_
      refine sd E (o_mv (E.ev rfl)) rfl rfl rfl fun a E => ?_
      refine sd E (o_bi (E.ev rfl) (E.ev rfl) rfl) rfl rfl rfl fun a E => ?_
      refine sd E (o_bi (E.ev rfl) (E.ev rfl) rfl) rfl rfl rfl fun a E => ?_
      refine sd E (o_mv (E.ev rfl)) rfl rfl rfl fun a E => ?_
      refine sd E (o_nc (E.ev rfl)) rfl rfl rfl fun a E => ?_
      refine sd E (o_fa Tryz.underlying52 rfl Tryz.sizeOf49 (E.ev rfl)) rfl rfl rfl fun a E => ?_
      refine sd E (o_fa Tryz.underlying49 rfl Tryz.sizeOf3 (E.ev rfl)) rfl rfl rfl fun a E => ?_
      have f18 := (((o2.trN t4).trN t5).trN t6).tr t7 (nt_fst (ra rfl))
      refine sd E (o_ld Tryz.isAgg3 (E.ev rfl) ((f18.cell _).trans rfl)) rfl rfl rfl fun a E => ?_
      have f19 := (((((h1.trN t2).trN t3).trN t4).trN t5).trN t6).tr t7 (nt_fst (rb lt1))
      have f20 := ((f2.trN t5).trN t6).tr t7 (nt_fst (rb lt1))
      have f21 := (((((h3.trN t2).trN t3).trN t4).trN t5).trN t6).tr t7 (nt_fst (rb lt1))
      have f22 := ((f1.trN t5).trN t6).tr t7 (nt_fst (rb lt1))
      have h15 : RDiskAt k1 s6 b1 X1 := ⟨_, _, _, f22, f19, f20, f21⟩
      obtain ⟨⟨y7, X3⟩, hx8, hm⟩ := ob_some hm
      refine sh E (o_ok Tryz.call30 (E.evs rfl) (E.ev rfl) (ok_17 _ (κ + 6) (x1 := IntKind.wrap .i64 (2 + (IntKind.wrap .i64 (2 * x1)))) (x2 := IntKind.wrap .i64 ((IntKind.wrap .i64 ((X1.Read.length : Int) - 2)) - (IntKind.wrap .i64 (2 * x1)))) (x3 := 0) h15 hx8)) rfl rfl rfl ?_
      rintro a _ s16 ⟨t17, b7, rfl, h17, h16⟩ E
      refine sd E (o_nc (E.ev rfl)) rfl rfl rfl fun a E => ?_
      refine sd E (o_fa Tryz.underlying52 rfl Tryz.sizeOf50 (E.ev rfl)) rfl rfl rfl fun a E => ?_
      have f23 := f18.tr t17 (nW1 (rb lt1).symm)
      refine shN E (o_st (o := 7) (cs' := #[.pointer (some ⟨b1, 0, none⟩), .int .i64 x1, .int .i64 0, .int .i64 0, .int .i64 0, .int .i64 0, (.slice none 0 0), .pointer (some ⟨b7, 0, none⟩)]) (v := .pointer (some ⟨b7, 0, none⟩)) Tryz.sizeOf50 f23 (E.ev rfl) (E.ev rfl) (Nat.le_of_ble_eq_true rfl) (one_cells rfl) rfl) rfl rfl ?_
      rintro _ s17 ⟨o8, t18⟩
      refine GL_nil ?_
      refine tgn ?_
      refine G_seq ?_
      refine G_region ?_
      refine sd E (o_mv (E.ev rfl)) rfl rfl rfl fun a E => ?_
      refine sd E (o_as (E.ev rfl)) rfl rfl rfl fun a E => ?_
      refine sd E (o_as (E.ev rfl)) rfl rfl rfl fun a E => ?_
      refine GL_nil ?_
      refine tgn ?_
      refine G_ret ?_
      cases hm
      obtain ⟨s18, e3, h18, t19⟩ := o8.rt (q0, 0)
      rw [e3]
      have f24 := (h16.tr t18 (fun i => (nt_fst (ra rfl)))).tr t19 (fun i => (nt_fst (ra rfl)))
      obtain ⟨s19, e4, h19, t20⟩ := f24.rt q0a
      rw [e4]
      have t20 := Tr.w1 t20
      have f25 := h18.tr t20 (nW1 (rb hq0))
      have h20 : RVaultAt q0 q0a b1 s19 b2 (⟨x1, (⟨0, 0, 0, 0⟩ : Anchor), [], y7⟩ : RVault) := ⟨_, _, f25, Sl.nil, h19⟩
      have f26 := ((h17.tr t18 (fun i => (nt_fst (rb lt1)))).tr t19 (fun i => (nt_fst (rb lt1)))).tr t20 (fun i => (nW1 (rb lt1)))
      have T2 : Tr (Fz κ [k1]) s s19 := (((((((((t2.no.trans t3.no).trans t4.no).trans t5.no).trans t6.no).trans (Tr.ft Fz.f t7)).trans (Tr.fw1 Fz.w0 t17)).trans (Tr.ft Fz.f t18)).trans (Tr.ft Fz.f t19)).trans (Tr.fw1 Fz.f t20))
      exact fin2 E rfl rfl rfl ⟨(Tr.fin hκ T2), _, rfl, f26, h20⟩

-- (*gimmal/gimmalref22.Vault).Frames

noncomputable def m_L11 (X1 : RVault) : Option (List Frame) :=
  ob (ap [] X1.S) fun x2 => ob (ap x2 X1.Log.L) fun x3 => some x3
theorem ok_L11 (s : St) (tr0 : Tg) {k1 k1a b1 : Nat} {X1 : RVault} {d1D : Nat} (ho1 : RVaultAt k1 k1a d1D s b1 X1) (ne01 : k1 ≠ k1a) {r0y : List Frame} (hm : m_L11 X1 = some r0y) :
    Ok Tryz.prog 11 ([.pointer (some ⟨b1, 0, none⟩)] : List Value).toArray s fun v s' => Tr No s s' ∧ ∃ w1, v = w1 ∧ Bd tr0 kFr 38 0 s' w1 r0y := by
  unfold m_L11 at hm
  obtain ⟨κ, hκ⟩ := s.fresh
  have lt1 : k1 < κ := hκ _ _ ho1.tag
  have lt2 : k1a < κ := ho1.lt1 hκ
  refine ok_of (n := 17) _ Tryz.func11 rfl _ rfl rfl fun a E => ?_
  refine G_seq ?_
  refine G_region ?_
  refine sd E (o_as (E.ev rfl)) rfl rfl rfl fun a E => ?_
  refine GL_nil ?_
  refine tgn ?_
  refine G_seq ?_
  refine G_drw (κ + 1) (by rfl) [1, 2, 3, 4, 6, 7, 8, 9, 10, 11, 12, 0, 5, 13, 14] (by kernel_rfl) ?_
  intro s1 t1
  refine dp E rfl (fun w => (o_mv (E.ev rfl))) rfl rfl rfl fun a E => ?_
  refine dp E rfl (fun w => (o_nc (E.ev rfl))) rfl rfl rfl fun a E => ?_
  have f1 := ho1.trN t1
  obtain ⟨w2, b2, o1, h1, h2⟩ := f1
  refine dp E rfl (fun w => (o_fa Tryz.underlying52 rfl Tryz.sizeOf43 (E.ev rfl))) rfl rfl rfl fun a E => ?_
  refine dr E rfl (fun s' t => (o_ld Tryz.isAgg43 (E.ev rfl) (((o1.trN t).cell _).trans rfl))) rfl rfl rfl (by kernel_rfl) fun a E => ?_
  refine dp E rfl (fun w => (o_mv (E.ev rfl))) rfl rfl rfl fun a E => ?_
  refine dp E rfl (fun w => (o_nc (E.ev rfl))) rfl rfl rfl fun a E => ?_
  refine dp E rfl (fun w => (o_fa Tryz.underlying52 rfl Tryz.sizeOf50 (E.ev rfl))) rfl rfl rfl fun a E => ?_
  refine dr E rfl (fun s' t => (o_ld Tryz.isAgg50 (E.ev rfl) (((o1.trN t).cell _).trans rfl))) rfl rfl rfl (by kernel_rfl) fun a E => ?_
  refine dp E rfl (fun w => (o_nc (E.ev rfl))) rfl rfl rfl fun a E => ?_
  obtain ⟨w3, o2, h3⟩ := h2
  refine dp E rfl (fun w => (o_fa Tryz.underlying79 rfl Tryz.sizeOf43 (E.ev rfl))) rfl rfl rfl fun a E => ?_
  refine dr E rfl (fun s' t => (o_ld Tryz.isAgg43 (E.ev rfl) (((o2.trN t).cell _).trans rfl))) rfl rfl rfl (by kernel_rfl) fun a E => ?_
  refine dbs0x (K := kFr) E rfl Tryz.underlying43 Tryz.sizeOf38 rfl rfl (by kernel_rfl) ?_
  rintro a s2 b3 h4 t2 E
  obtain ⟨x2, hx1, hm⟩ := ob_some hm
  obtain ⟨hx1, hz1⟩ := ap_some hx1
  have f2 := h1.tr t2
  refine df E rfl (fun s' t => o_app0 ((κ + 1), 0) Tryz.underlying43 Tryz.type38 rfl rfl rfl rfl rfl rfl (h4.trN t) ((f2.tr t).rd) (E.ev rfl) (E.ev rfl) (by simpa using hx1)) rfl rfl rfl (by kernel_rfl) ?_
  rintro a w4 s3 h5 t3 E
  have hz1 : X1.S = x2 := hz1
  rw [hz1] at h5
  obtain ⟨x3, hx2, hm⟩ := ob_some hm
  obtain ⟨hx2, hz2⟩ := ap_some hx2
  have f3 := (h3.tr t2).tr t3
  refine dw E rfl (fun s' t => o_app Tryz.underlying43 Tryz.type38 rfl rfl rfl rfl rfl rfl (h5.trN t) (f3.tr t).rd (E.ev rfl) (E.ev rfl) hx2 (Nat.zero_le _)) (nq rfl) rfl rfl rfl (by kernel_rfl) ?_
  rintro a w5 s4 h6 t4 E
  rw [hz2] at h6
  refine dp E rfl (fun w => (o_as (E.ev rfl))) rfl rfl rfl fun a E => ?_
  refine gd_nil ?_
  refine tgn ?_
  refine G_ret ?_
  cases hm
  have f4 := f3.tr t4
  have f5 := ((o2.trN t2).trN t3).tr t4 (nt_fst (rb lt2))
  have h7 : RLogAt k1a d1D s4 b2 X1.Log := ⟨_, f5, f4⟩
  have f6 := (f2.tr t3).tr t4
  have f7 := ((o1.trN t2).trN t3).tr t4 (nt_fst (rb lt1))
  have h8 : RVaultAt k1 k1a d1D s4 b1 X1 := ⟨_, _, f7, f6, h7⟩
  obtain ⟨s5, e1, h9, t5⟩ := h6.rt tr0
  rw [e1]
  have T1 : Tr (Fz κ []) s s5 := ((((t1.no.trans t2.no).trans t3.no).trans (Tr.ft Fz.f t4)).trans (Tr.ft Fz.f t5))
  exact fin1 E rfl rfl ⟨(Tr.fin0 hκ T1), _, rfl, h9⟩

-- (*gimmal/gimmalref22.Vault).Checkpoint
noncomputable def m_L13_4b (x8 : List Int) (x20 : Int) : (Int × (List Int)) → Option (Lo (Int × (List Int)) (Int × (List Int))) := fun (x24, x25) => ob (bif decide (x24 < 8) then (some (decide ((IntKind.wrap .i64 ((IntKind.wrap .i64 (8 * x20)) + x24)) < (x8.length : Int)))) else (some false)) fun t17 => bif t17 then (ob (gt x8 (IntKind.wrap .i64 ((IntKind.wrap .i64 (8 * x20)) + x24))) fun x26 => ob (gd (decide (0 ≤ x24) && decide (x24 < 8)) (some ())) fun x27 => ob (st x25 x24 x26) fun x28 => some (.inl (IntKind.wrap .i64 (x24 + 1), x28))) else (some (.inr (x24, x25)))
noncomputable def m_L13_4k (X1 : RVault) (x16 : Int) (x20 : Int) (x21 : RDisk) : (Int × (List Int)) → Option (Lo (Int × RDisk) (Int × RDisk)) := fun (x29, x30) => ob (m_44 x21 (IntKind.wrap .i64 ((IntKind.wrap .i64 (2 + (IntKind.wrap .i64 (x16 * X1.Area)))) + x20)) x30) fun X3 => some (.inl (IntKind.wrap .i64 (x20 + 1), X3))
noncomputable def m_L13_3b (X1 : RVault) (x8 : List Int) (x16 : Int) : (Int × RDisk) → Option (Lo (Int × RDisk) (Int × RDisk)) := fun (x20, x21) => bif decide ((IntKind.wrap .i64 (x20 * 8)) < (x8.length : Int)) then (ob (loopO (m_L13_4b x8 x20) (0, (List.replicate 8 (0 : Int)))) (m_L13_4k X1 x16 x20 x21)) else (some (.inr (x20, x21)))
noncomputable def m_L13_3k (X1 : RVault) (y1 : List Frame) (x14 : Int) (x15 : Int) (x16 : Int) (x17 : Int) : (Int × RDisk) → Option (Int × RVault × RDisk) := fun (x31, x32) => ob (m_45 x32) fun X4 => ob (m_L40 (⟨x14, x15, x16, x17⟩ : Anchor)) fun y3 => ob (m_44 X4 (Int.tmod x14 2) y3) fun X5 => ob (m_45 X5) fun X6 => ob (m_17 X6 (IntKind.wrap .i64 (2 + (IntKind.wrap .i64 (2 * X1.Area)))) (IntKind.wrap .i64 ((IntKind.wrap .i64 ((X6.Read.length : Int) - 2)) - (IntKind.wrap .i64 (2 * X1.Area)))) x15) fun (y4, X7) => some (0, (⟨X1.Area, (⟨x14, x15, x16, x17⟩ : Anchor), y1, y4⟩ : RVault), X7)
noncomputable def m_L13_2k (X1 : RVault) (X2 : RDisk) (y1 : List Frame) (x8 : List Int) : (Int × Int × Int × Int) → Option (Int × RVault × RDisk) := fun (x14, x15, x16, x17) => ob (loopO (m_L13_3b X1 x8 x16) (0, X2)) (m_L13_3k X1 y1 x14 x15 x16 x17)
noncomputable def m_L13_1b (X1 : RVault) (y1 : List Frame) : ((List Int) × Int) → Option (Lo ((List Int) × Int) ((List Int) × Int)) := fun (x4, x5) => bif decide (x5 < (y1.length : Int)) then (ob (gt y1 x5) fun x6 => ob (m_48 (IntKind.wrap .i64 (X1.At.Epoch + 1)) x5 x6) fun y2 => ob (ap x4 y2) fun x7 => some (.inl (x7, IntKind.wrap .i64 (x5 + 1)))) else (some (.inr (x4, x5)))
noncomputable def m_L13_1k (X1 : RVault) (X2 : RDisk) (y1 : List Frame) : ((List Int) × Int) → Option (Int × RVault × RDisk) := fun (x8, x9) => bif decide ((x8.length : Int) > (IntKind.wrap .i64 (8 * X1.Area))) then (some (4, X1, X2)) else (ob (bif decide (X1.At.Number > 0) then (some (X1.At.Area == 0)) else (some false)) fun t10 => ob (bif t10 then (some (IntKind.wrap .i64 (X1.At.Number + 1), IntKind.wrap .i64 (X1.At.Epoch + 1), 1, (x8.length : Int))) else (some (IntKind.wrap .i64 (X1.At.Number + 1), IntKind.wrap .i64 (X1.At.Epoch + 1), 0, (x8.length : Int)))) (m_L13_2k X1 X2 y1 x8))
noncomputable def m_L13 (X1 : RVault) (X2 : RDisk) : Option (Int × RVault × RDisk) :=
  ob (m_L11 X1) fun y1 => ob (loopO (m_L13_1b X1 y1) ([], 0)) (m_L13_1k X1 X2 y1)
theorem ok_L13 (s : St) {k1 k1a b1 : Nat} {X1 : RVault} {k2 b2 : Nat} {X2 : RDisk} (ho1 : RVaultAt k1 k1a b2 s b1 X1) (ho2 : RDiskAt k2 s b2 X2) (ne01 : k1 ≠ k1a) (ne02 : k1 ≠ k2) (ne12 : k1a ≠ k2) {r0y : Int} {Y1 : RVault} {Y2 : RDisk} (hm : m_L13 X1 X2 = some (r0y, Y1, Y2)) :
    Ok Tryz.prog 13 ([.pointer (some ⟨b1, 0, none⟩)] : List Value).toArray s fun v s' => Tr (Ws [k1, k1a, k2]) s s' ∧ v = .int .i64 r0y ∧ RVaultAt k1 k1a b2 s' b1 Y1 ∧ RDiskAt k2 s' b2 Y2 := by
  unfold m_L13 at hm
  obtain ⟨κ, hκ⟩ := s.fresh
  have lt1 : k1 < κ := hκ _ _ ho1.tag
  have lt2 : k1a < κ := ho1.lt1 hκ
  have lt3 : k2 < κ := hκ _ _ ho2.tag
  refine ok_of (n := 176) _ Tryz.func13 rfl _ rfl rfl fun a E => ?_
  refine G_seq ?_
  refine G_region ?_
  refine sd E (o_as (E.ev rfl)) rfl rfl rfl fun a E => ?_
  refine GL_nil ?_
  refine tgn ?_
  refine G_seq ?_
  refine G_region ?_
  refine sd E (o_mv (E.ev rfl)) rfl rfl rfl fun a E => ?_
  obtain ⟨y1, hx1, hm⟩ := ob_some hm
  refine sh E (o_ok Tryz.call11 (E.evs rfl) (E.ev rfl) (bd_frozen id fun tr => ok_L11 _ tr ho1 ne01 hx1)) rfl rfl rfl ?_
  rintro a w1 s1 ⟨t1, _, rfl, h1⟩ E
  refine sd E (o_as (E.ev rfl)) rfl rfl rfl fun a E => ?_
  refine GL_nil ?_
  refine tgn ?_
  refine G_seq ?_
  refine G_region ?_
  refine sd E (o_as (E.ev rfl)) rfl rfl rfl fun a E => ?_
  refine GL_nil ?_
  refine tgn ?_
  refine G_seq ?_
  refine G_seq ?_
  refine G_region ?_
  refine sd E (o_as (E.ev rfl)) rfl rfl rfl fun a E => ?_
  refine GL_nil ?_
  refine tgn ?_
  obtain ⟨r1, hl1, hm⟩ := ob_some hm
  refine G_mid1 (fun a' w' => ∃ x2 x3 s' w2, m_L13_1k X1 X2 y1 (x2, x3) = some (r0y, Y1, Y2) ∧ w' = s'.w ∧ Tr (Fz κ [k1, k1a, k2]) s1 s' ∧ Bd ((κ + 0), 1001) kU 39 0 s' w2 x2 ∧ RVaultAt k1 k1a b2 s' b1 X1 ∧ RDiskAt k2 s' b2 X2 ∧ En [] 176 a' [(4, w2), (5, .int .i64 x3), (0, .pointer (some ⟨b1, 0, none⟩)), (2, .int .i64 0), (3, w1)]) ?_ ?_
  · refine G_block ?_
    have f1 := ho1.trN t1
    have f2 := ho2.trN t1
    refine G_lp hl1 (fun st a' w' => ∃ x2 x3 s' w2, st = (x2, x3) ∧ w' = s'.w ∧ Tr (Fz κ [k1, k1a, k2]) s1 s' ∧ Bd ((κ + 0), 1001) kU 39 0 s' w2 x2 ∧ RVaultAt k1 k1a b2 s' b1 X1 ∧ RDiskAt k2 s' b2 X2 ∧ En [] 176 a' [(4, w2), (5, .int .i64 x3), (0, .pointer (some ⟨b1, 0, none⟩)), (2, .int .i64 0), (3, w1)]) ⟨_, _, _, _, rfl, rfl, (Tr.refl _ _), Bd.nil, f1, f2, (((((E.nil.ad E rfl rfl).ad E rfl rfl).ad E rfl rfl).ad E rfl rfl).ad E rfl rfl)⟩ ?_
    rintro _ a _ x ⟨x4, x5, s2, w3, rfl, rfl, t2, h2, h3, h4, E⟩ hf1
    dsimp only [m_L13_1b] at hf1
    refine G_seq ?_
    refine G_seq ?_
    refine G_region ?_
    refine sd E (o_mv (E.ev rfl)) rfl rfl rfl fun a E => ?_
    refine sd E (o_mv (E.ev rfl)) rfl rfl rfl fun a E => ?_
    have f3 := h1.tr t2
    refine sd E (o_lenS (xs := y1) Tryz.underlying43 (E.ev rfl) f3.isS) rfl rfl rfl fun a E => ?_
    refine sd E (o_bi (E.ev rfl) (E.ev rfl) rfl) rfl rfl rfl fun a E => ?_
    refine GL_nil ?_
    refine tgn ?_
    refine G_cond (E.ev rfl) (fun ht => ?_) (fun ht => ?_)
    · have hf1 := cT ht hf1
      refine G_skip ?_
      refine tgn ?_
      refine G_seq ?_
      refine G_block ?_
      refine G_drw (κ + 1) (by rfl) [0, 1, 2, 3, 4, 5, 6, 7, 8, 9, 10, 11, 12, 13, 14] (by kernel_rfl) ?_
      intro s3 t3
      refine dp E rfl (fun w => (o_mv (E.ev rfl))) rfl rfl rfl fun a E => ?_
      refine dp E rfl (fun w => (o_mv (E.ev rfl))) rfl rfl rfl fun a E => ?_
      refine dp E rfl (fun w => (o_nc (E.ev rfl))) rfl rfl rfl fun a E => ?_
      have f4 := h3.trN t3
      obtain ⟨w4, b3, o1, h5, h6⟩ := f4
      refine dp E rfl (fun w => (o_fa Tryz.underlying52 rfl Tryz.sizeOf49 (E.ev rfl))) rfl rfl rfl fun a E => ?_
      refine dp E rfl (fun w => (o_fa Tryz.underlying49 rfl Tryz.sizeOf3 (E.ev rfl))) rfl rfl rfl fun a E => ?_
      refine dr E rfl (fun s' t => (o_ld Tryz.isAgg3 (E.ev rfl) (((o1.trN t).cell _).trans rfl))) rfl rfl rfl (by kernel_rfl) fun a E => ?_
      refine dp E rfl (fun w => (o_bi (E.ev rfl) (E.ev rfl) rfl)) rfl rfl rfl fun a E => ?_
      refine dp E rfl (fun w => (o_mv (E.ev rfl))) rfl rfl rfl fun a E => ?_
      refine dp E rfl (fun w => (o_mv (E.ev rfl))) rfl rfl rfl fun a E => ?_
      refine dp E rfl (fun w => (o_mv (E.ev rfl))) rfl rfl rfl fun a E => ?_
      obtain ⟨x6, hx2, hf1⟩ := ob_some hf1
      have f5 := f3.tr t3
      obtain ⟨b4, p1, g1, h7⟩ := f5.gt hx2
      refine dp E rfl (fun w => (o_ixg Tryz.underlying43 Tryz.sizeOf38 g1 (E.ev rfl) (E.ev rfl))) rfl rfl rfl fun a E => ?_
      obtain ⟨w5, e1, e2, h8⟩ := h7.fr
      refine dq E rfl (fun s' t => (o_ld2 Tryz.isAgg38 Tryz.sizeOf38 (E.ev rfl) (h7.ckl t e1) (h7.ckl t e2))) rfl rfl rfl (by kernel_rfl) fun a E => ?_
      obtain ⟨a1, c1, rfl⟩ := h8.isS
      obtain ⟨y2, hx3, hf1⟩ := ob_some hf1
      refine dh E rfl (o_ok Tryz.call38 (E.evs rfl) (E.ev rfl) (ok_48 _ (x0 := IntKind.wrap .i64 (X1.At.Epoch + 1)) (x1 := x5) (x2 := x6) h8 hx3)) (fun _ _ h => h.1) rfl rfl rfl (by kernel_rfl) ?_
      rintro a w6 s4 ⟨t4, _, rfl, h9⟩ E
      obtain ⟨x7, hx4, hf1⟩ := ob_some hf1
      obtain ⟨hx4, hz1⟩ := ap_some hx4
      have f6 := (h2.trN t3).trN t4
      refine dl E rfl (o_app Tryz.underlying36 Tryz.type39 rfl rfl rfl rfl rfl rfl f6 h9.rd (E.ev rfl) (E.ev rfl) hx4 (Nat.zero_le _)) rfl rfl rfl (by kernel_rfl) ?_
      rintro a w7 s5 ⟨h10, t5⟩ E
      rw [hz1] at h10
      refine dp E rfl (fun w => (o_as (E.ev rfl))) rfl rfl rfl fun a E => ?_
      refine gd_nil ?_
      refine ebn ?_
      refine tgn ?_
      refine G_region ?_
      refine sd E (o_mv (E.ev rfl)) rfl rfl rfl fun a E => ?_
      refine sd E (o_bi (E.ev rfl) (E.ev rfl) rfl) rfl rfl rfl fun a E => ?_
      refine sd E (o_as (E.ev rfl)) rfl rfl rfl fun a E => ?_
      refine GL_nil ?_
      have f7 := (h5.tr t4).tr t5
      have f8 := (h6.trN t4).tr t5 (fun i => (nt_fst (rb lt2)))
      have f9 := (o1.trN t4).tr t5 (nt_fst (rb lt1))
      have h11 : RVaultAt k1 k1a b2 s5 b1 X1 := ⟨_, _, f9, f7, f8⟩
      obtain rfl := Option.some.inj hf1
      have f10 := ((h4.trN t3).trN t4).tr t5 (fun i => (nt_fst (rb lt3)))
      have T1 : Tr (Fz κ [k1, k1a, k2]) s1 s5 := (((t2.trans t3.no).trans t4.no).trans (Tr.ft Fz.f t5))
      exact lpn ⟨_, _, _, _, rfl, rfl, T1, h10, h11, f10, (((((E.nil.ad E rfl rfl).ad E rfl rfl).ad E rfl rfl).ad E rfl rfl).ad E rfl rfl)⟩
    · have hf1 := cF ht hf1
      refine G_exit ?_
      refine tge ?_
      obtain rfl := Option.some.inj hf1
      refine lpe fun hr => ?_
      subst hr
      refine ebk ?_
      refine ctn ?_
      exact ⟨_, _, _, _, hm, rfl, t2, h2, h3, h4, (((((E.nil.ad E rfl rfl).ad E rfl rfl).ad E rfl rfl).ad E rfl rfl).ad E rfl rfl)⟩
  · rintro a _ ⟨x8, x9, s6, w8, hm, rfl, t6, h12, h13, h14, E⟩
    dsimp only [m_L13_1k] at hm
    refine tgn ?_
    refine G_seq ?_
    refine G_seq ?_
    refine G_region ?_
    refine sd E (o_mv (E.ev rfl)) rfl rfl rfl fun a E => ?_
    refine sd E (o_lenS (xs := x8) Tryz.underlying36 (E.ev rfl) h12.isS) rfl rfl rfl fun a E => ?_
    refine sd E (o_mv (E.ev rfl)) rfl rfl rfl fun a E => ?_
    refine sd E (o_nc (E.ev rfl)) rfl rfl rfl fun a E => ?_
    obtain ⟨w9, b5, o2, h15, h16⟩ := h13
    refine sd E (o_fa Tryz.underlying52 rfl Tryz.sizeOf3 (E.ev rfl)) rfl rfl rfl fun a E => ?_
    refine sd E (o_ld Tryz.isAgg3 (E.ev rfl) ((o2.cell _).trans rfl)) rfl rfl rfl fun a E => ?_
    refine sd E (o_bi (E.ev rfl) (E.ev rfl) rfl) rfl rfl rfl fun a E => ?_
    refine sd E (o_bi (E.ev rfl) (E.ev rfl) rfl) rfl rfl rfl fun a E => ?_
    refine GL_nil ?_
    refine tgn ?_
    refine G_cond (E.ev rfl) (fun ht => ?_) (fun ht => ?_)
    · have hm := cT ht hm
      refine G_seq ?_
      refine G_region ?_
      refine sd E (o_as (E.ev rfl)) rfl rfl rfl fun a E => ?_
      refine GL_nil ?_
      refine tgn ?_
      refine G_ret ?_
      refine tgr ?_
      cases hm
      have h17 : RVaultAt k1 k1a b2 s6 b1 X1 := ⟨_, _, o2, h15, h16⟩
      have T2 : Tr (Fz κ [k1, k1a, k2]) s s6 := (t1.no.trans t6)
      exact fin1 E rfl rfl ⟨(Tr.fin hκ T2), rfl, h17, h14⟩
    · have hm := cF ht hm
      refine G_skip ?_
      refine tgn ?_
      refine G_seq ?_
      refine G_drw (κ + 2) (by rfl) [0, 1, 2, 3, 4, 5, 6, 7, 8, 9, 10, 11, 12, 13, 14, 15, 16] (by kernel_rfl) ?_
      intro s7 t7
      refine dp E rfl (fun w => (o_mv (E.ev rfl))) rfl rfl rfl fun a E => ?_
      refine dp E rfl (fun w => (o_nc (E.ev rfl))) rfl rfl rfl fun a E => ?_
      refine dp E rfl (fun w => (o_fa Tryz.underlying52 rfl Tryz.sizeOf49 (E.ev rfl))) rfl rfl rfl fun a E => ?_
      refine dp E rfl (fun w => (o_fa Tryz.underlying49 rfl Tryz.sizeOf3 (E.ev rfl))) rfl rfl rfl fun a E => ?_
      have f11 := o2.trN t7
      refine dr E rfl (fun s' t => (o_ld Tryz.isAgg3 (E.ev rfl) (((f11.trN t).cell _).trans rfl))) rfl rfl rfl (by kernel_rfl) fun a E => ?_
      refine dp E rfl (fun w => (o_bi (E.ev rfl) (E.ev rfl) rfl)) rfl rfl rfl fun a E => ?_
      refine dp E rfl (fun w => (o_mv (E.ev rfl))) rfl rfl rfl fun a E => ?_
      refine dp E rfl (fun w => (o_nc (E.ev rfl))) rfl rfl rfl fun a E => ?_
      refine dp E rfl (fun w => (o_fa Tryz.underlying52 rfl Tryz.sizeOf49 (E.ev rfl))) rfl rfl rfl fun a E => ?_
      refine dp E rfl (fun w => (o_fa Tryz.underlying49 rfl Tryz.sizeOf3 (E.ev rfl))) rfl rfl rfl fun a E => ?_
      refine dr E rfl (fun s' t => (o_ld Tryz.isAgg3 (E.ev rfl) (((f11.trN t).cell _).trans rfl))) rfl rfl rfl (by kernel_rfl) fun a E => ?_
      refine dp E rfl (fun w => (o_bi (E.ev rfl) (E.ev rfl) rfl)) rfl rfl rfl fun a E => ?_
      refine dp E rfl (fun w => (o_mv (E.ev rfl))) rfl rfl rfl fun a E => ?_
      have f12 := h12.trN t7
      refine dp E rfl (fun w => (o_lenS (xs := x8) Tryz.underlying36 (E.ev rfl) f12.isS)) rfl rfl rfl fun a E => ?_
      refine dp E rfl (fun w => (o_bd (cells := #[.int .i64 (IntKind.wrap .i64 (X1.At.Number + 1)), .int .i64 (IntKind.wrap .i64 (X1.At.Epoch + 1)), .int .i64 0, .int .i64 (x8.length : Int)]) (places := #[(0, 1), (1, 1), (2, 1), (3, 1)]) Tryz.zeroValue49 Tryz.underlying49 (fun w => by simp [Sem.run_bind, Result.andThen, Tryz.sizeOf3]) (qs := #[(0, .int .i64 (IntKind.wrap .i64 (X1.At.Number + 1))), (1, .int .i64 (IntKind.wrap .i64 (X1.At.Epoch + 1))), (3, .int .i64 (x8.length : Int))]) (by simp only [List.map_toArray, List.map_cons, List.map_nil, E.ev (x := .tmp 46) (v := .int .i64 (IntKind.wrap .i64 (X1.At.Number + 1))) rfl, E.ev (x := .tmp 52) (v := .int .i64 (IntKind.wrap .i64 (X1.At.Epoch + 1))) rfl, E.ev (x := .tmp 54) (v := .int .i64 (x8.length : Int)) rfl]) (by kernel_rfl))) rfl rfl rfl fun a E => ?_
      refine da E rfl rfl Tryz.zeroValue49 rfl rfl rfl (by kernel_rfl) ?_
      rintro a _ s8 ⟨b6, rfl, o3⟩ t8 E
      refine dlN E rfl (o_st (o := 0) (cs' := #[.int .i64 (IntKind.wrap .i64 (X1.At.Number + 1)), .int .i64 (IntKind.wrap .i64 (X1.At.Epoch + 1)), .int .i64 0, .int .i64 (x8.length : Int)]) (v := .agg #[.int .i64 (IntKind.wrap .i64 (X1.At.Number + 1)), .int .i64 (IntKind.wrap .i64 (X1.At.Epoch + 1)), .int .i64 0, .int .i64 (x8.length : Int)]) Tryz.sizeOf49 o3 (E.ev rfl) (E.ev rfl) (Nat.le_of_ble_eq_true rfl) (one_cells rfl) rfl) rfl rfl (by kernel_rfl) ?_
      rintro _ s9 ⟨o4, t9⟩
      refine gd_nil ?_
      refine tgn ?_
      refine G_seq ?_
      refine G_seq ?_
      obtain ⟨t10, hc1, hm⟩ := ob_some hm
      refine G_regm (fun a' w' => ∃ s', w' = s'.w ∧ Tr No s9 s' ∧ En [] 176 a' [(69, .bool t10), (0, .pointer (some ⟨b1, 0, none⟩)), (2, .int .i64 0), (3, w1), (4, w8), (6, .pointer (some ⟨b6, 0, none⟩))]) ?_ ?_
      · refine sd E (o_mv (E.ev rfl)) rfl rfl rfl fun a E => ?_
        refine sd E (o_nc (E.ev rfl)) rfl rfl rfl fun a E => ?_
        refine sd E (o_fa Tryz.underlying52 rfl Tryz.sizeOf49 (E.ev rfl)) rfl rfl rfl fun a E => ?_
        refine sd E (o_fa Tryz.underlying49 rfl Tryz.sizeOf3 (E.ev rfl)) rfl rfl rfl fun a E => ?_
        have f13 := (f11.trN t8).tr t9 (nt_fst (rb lt1))
        refine sd E (o_ld Tryz.isAgg3 (E.ev rfl) ((f13.cell _).trans rfl)) rfl rfl rfl fun a E => ?_
        refine sd E (o_bi (E.ev rfl) (E.ev rfl) rfl) rfl rfl rfl fun a E => ?_
        refine sd E (o_mv (E.ev rfl)) rfl rfl rfl fun a E => ?_
        refine bcase (E.ev (x := .tmp 62) rfl) (fun ht => ?_) (fun ht => ?_)
        · have hc1 := cT ht hc1
          rw [ht] at E
          refine sd E (o_mv (E.ev rfl)) rfl rfl rfl fun a E => ?_
          refine sd E (o_nc (E.ev rfl)) rfl rfl rfl fun a E => ?_
          refine sd E (o_fa Tryz.underlying52 rfl Tryz.sizeOf49 (E.ev rfl)) rfl rfl rfl fun a E => ?_
          refine sd E (o_fa Tryz.underlying49 rfl Tryz.sizeOf3 (E.ev rfl)) rfl rfl rfl fun a E => ?_
          refine sd E (o_ld Tryz.isAgg3 (E.ev rfl) ((f13.cell _).trans rfl)) rfl rfl rfl fun a E => ?_
          refine sd E (o_bi (E.ev rfl) (E.ev rfl) rfl) rfl rfl rfl fun a E => ?_
          refine sd E (o_pickT (E.ev rfl) (E.ev rfl)) rfl rfl rfl fun a E => ?_
          obtain rfl := Option.some.inj hc1
          exact GL_nil ⟨_, rfl, (Tr.refl _ _), ((((((E.nil.ad E rfl rfl).ad E rfl rfl).ad E rfl rfl).ad E rfl rfl).ad E rfl rfl).ad E rfl rfl)⟩
        · have hc1 := cF ht hc1
          rw [ht] at E
          refine sk E rfl rfl rfl fun a E => ?_
          refine sk E rfl rfl rfl fun a E => ?_
          refine sk E rfl rfl rfl fun a E => ?_
          refine sk E rfl rfl rfl fun a E => ?_
          refine sk E rfl rfl rfl fun a E => ?_
          refine sk E rfl rfl rfl fun a E => ?_
          refine sd E (o_pickF (E.ev rfl) (E.ev rfl)) rfl rfl rfl fun a E => ?_
          obtain rfl := Option.some.inj hc1
          exact GL_nil ⟨_, rfl, (Tr.refl _ _), ((((((E.nil.ad E rfl rfl).ad E rfl rfl).ad E rfl rfl).ad E rfl rfl).ad E rfl rfl).ad E rfl rfl)⟩
      rintro a _ ⟨s10, rfl, t11, E⟩
      refine tgn ?_
      have f14 := (((h15.tr t7).tr t8).tr t9).tr t11
      have f15 := (((h16.trN t7).trN t8).tr t9 (fun i => (nt_fst (rb lt2)))).trN t11
      have f16 := ((f11.trN t8).tr t9 (nt_fst (rb lt1))).trN t11
      have h18 : RVaultAt k1 k1a b2 s10 b1 X1 := ⟨_, _, f16, f14, f15⟩
      obtain ⟨r2, hl2, hm⟩ := ob_some hm
      refine G_mid1 (fun a' w' => ∃ x10 x11 x12 x13 s', m_L13_2k X1 X2 y1 x8 (x10, x11, x12, x13) = some (r0y, Y1, Y2) ∧ w' = s'.w ∧ Tr (Fz κ [k1, k1a, k2]) s10 s' ∧ Own ((κ + 2), 15) s' b6 #[.int .i64 x10, .int .i64 x11, .int .i64 x12, .int .i64 x13] 49 ∧ RVaultAt k1 k1a b2 s' b1 X1 ∧ RDiskAt k2 s' b2 X2 ∧ Bd ((κ + 0), 1001) kU 39 0 s' w8 x8 ∧ En [] 176 a' [(0, .pointer (some ⟨b1, 0, none⟩)), (2, .int .i64 0), (3, w1), (4, w8), (6, .pointer (some ⟨b6, 0, none⟩))]) ?_ ?_
      · refine G_cond (E.ev rfl) (fun ht => ?_) (fun ht => ?_)
        · have hl2 := cT ht hl2
          refine G_region ?_
          refine sd E (o_fa Tryz.underlying49 rfl Tryz.sizeOf3 (E.ev rfl)) rfl rfl rfl fun a E => ?_
          have f17 := o4.trN t11
          refine shN E (o_st (o := 2) (cs' := #[.int .i64 (IntKind.wrap .i64 (X1.At.Number + 1)), .int .i64 (IntKind.wrap .i64 (X1.At.Epoch + 1)), .int .i64 1, .int .i64 (x8.length : Int)]) (v := .int .i64 1) Tryz.sizeOf3 f17 (E.ev rfl) (E.ev rfl) (Nat.le_of_ble_eq_true rfl) (one_cells rfl) rfl) rfl rfl ?_
          rintro _ s11 ⟨o5, t12⟩
          refine GL_nil ?_
          refine ctn ?_
          cases hl2
          have f18 := h18.tr t12 (fun i => (nt_fst (rb lt1))) (fun i => (nt_fst (rb lt2)))
          have f19 := ((((h14.trN t7).trN t8).tr t9 (fun i => (nt_fst (rb lt3)))).trN t11).tr t12 (fun i => (nt_fst (rb lt3)))
          have f20 := (((f12.trN t8).tr t9 (nt_fst (ra rfl))).trN t11).tr t12 (nt_fst (ra rfl))
          have T3 : Tr (Fz κ [k1, k1a, k2]) s10 s11 := (Tr.ft Fz.f t12)
          exact ⟨_, _, _, _, _, hm, rfl, T3, o5, f18, f19, f20, (((((E.nil.ad E rfl rfl).ad E rfl rfl).ad E rfl rfl).ad E rfl rfl).ad E rfl rfl)⟩
        · have hl2 := cF ht hl2
          refine G_skip ?_
          refine ctn ?_
          cases hl2
          have f21 := o4.trN t11
          have f22 := (((h14.trN t7).trN t8).tr t9 (fun i => (nt_fst (rb lt3)))).trN t11
          have f23 := ((f12.trN t8).tr t9 (nt_fst (ra rfl))).trN t11
          exact ⟨_, _, _, _, _, hm, rfl, (Tr.refl _ _), f21, h18, f22, f23, (((((E.nil.ad E rfl rfl).ad E rfl rfl).ad E rfl rfl).ad E rfl rfl).ad E rfl rfl)⟩
      · rintro a _ ⟨x14, x15, x16, x17, s12, hm, rfl, t13, o6, h19, h20, h21, E⟩
        dsimp only [m_L13_2k] at hm
        refine tgn ?_
        refine G_seq ?_
        refine G_seq ?_
        refine G_region ?_
        refine sd E (o_as (E.ev rfl)) rfl rfl rfl fun a E => ?_
        refine GL_nil ?_
        refine tgn ?_
        obtain ⟨r3, hl3, hm⟩ := ob_some hm
        refine G_mid1 (fun a' w' => ∃ x18 x19 s', m_L13_3k X1 y1 x14 x15 x16 x17 (x18, x19) = some (r0y, Y1, Y2) ∧ w' = s'.w ∧ Tr (Fz κ [k1, k1a, k2]) s12 s' ∧ RDiskAt k2 s' b2 x19 ∧ Own ((κ + 2), 15) s' b6 #[.int .i64 x14, .int .i64 x15, .int .i64 x16, .int .i64 x17] 49 ∧ RVaultAt k1 k1a b2 s' b1 X1 ∧ Bd ((κ + 0), 1001) kU 39 0 s' w8 x8 ∧ En [] 176 a' [(7, .int .i64 x18), (0, .pointer (some ⟨b1, 0, none⟩)), (2, .int .i64 0), (3, w1), (4, w8), (6, .pointer (some ⟨b6, 0, none⟩))]) ?_ ?_
        · refine G_block ?_
          refine G_lp hl3 (fun st a' w' => ∃ x18 x19 s', st = (x18, x19) ∧ w' = s'.w ∧ Tr (Fz κ [k1, k1a, k2]) s12 s' ∧ RDiskAt k2 s' b2 x19 ∧ Own ((κ + 2), 15) s' b6 #[.int .i64 x14, .int .i64 x15, .int .i64 x16, .int .i64 x17] 49 ∧ RVaultAt k1 k1a b2 s' b1 X1 ∧ Bd ((κ + 0), 1001) kU 39 0 s' w8 x8 ∧ En [] 176 a' [(7, .int .i64 x18), (0, .pointer (some ⟨b1, 0, none⟩)), (2, .int .i64 0), (3, w1), (4, w8), (6, .pointer (some ⟨b6, 0, none⟩))]) ⟨_, _, _, rfl, rfl, (Tr.refl _ _), h20, o6, h19, h21, ((((((E.nil.ad E rfl rfl).ad E rfl rfl).ad E rfl rfl).ad E rfl rfl).ad E rfl rfl).ad E rfl rfl)⟩ ?_
          rintro _ a _ x ⟨x20, x21, s13, rfl, rfl, t14, h22, o7, h23, h24, E⟩ hf3
          dsimp only [m_L13_3b] at hf3
          refine G_seq ?_
          refine G_seq ?_
          refine G_region ?_
          refine sd E (o_mv (E.ev rfl)) rfl rfl rfl fun a E => ?_
          refine sd E (o_bi (E.ev rfl) (E.ev rfl) rfl) rfl rfl rfl fun a E => ?_
          refine sd E (o_mv (E.ev rfl)) rfl rfl rfl fun a E => ?_
          refine sd E (o_lenS (xs := x8) Tryz.underlying36 (E.ev rfl) h24.isS) rfl rfl rfl fun a E => ?_
          refine sd E (o_bi (E.ev rfl) (E.ev rfl) rfl) rfl rfl rfl fun a E => ?_
          refine GL_nil ?_
          refine tgn ?_
          refine G_cond (E.ev rfl) (fun ht => ?_) (fun ht => ?_)
          · have hf3 := cT ht hf3
            refine G_skip ?_
            refine tgn ?_
            refine G_seq ?_
            refine G_block ?_
            refine G_seq ?_
            refine G_region ?_
            refine sh E (o_ala ((κ + 0), 1003) .u64 8 Tryz.zeroValue40 (by kernel_rfl)) rfl rfl rfl ?_
            rintro a _ s14 ⟨b7, rfl, o8, t15⟩ E
            refine GL_nil ?_
            refine tgn ?_
            refine G_seq ?_
            refine G_seq ?_
            refine G_region ?_
            refine sd E (o_as (E.ev rfl)) rfl rfl rfl fun a E => ?_
            refine GL_nil ?_
            refine tgn ?_
            obtain ⟨r4, hl4, hf3⟩ := ob_some hf3
            refine G_mid1 (fun a' w' => ∃ x22 x23 s', m_L13_4k X1 x16 x20 x21 (x22, x23) = some x ∧ w' = s'.w ∧ Tr (Fz κ [k1, k1a, k2]) s14 s' ∧ Own ((κ + 0), 1003) s' b7 (cA .u64 x23) 40 ∧ x23.length = 8 ∧ Own ((κ + 2), 15) s' b6 #[.int .i64 x14, .int .i64 x15, .int .i64 x16, .int .i64 x17] 49 ∧ RVaultAt k1 k1a b2 s' b1 X1 ∧ RDiskAt k2 s' b2 x21 ∧ Bd ((κ + 0), 1001) kU 39 0 s' w8 x8 ∧ En [] 176 a' [(9, .int .i64 x22), (0, .pointer (some ⟨b1, 0, none⟩)), (2, .int .i64 0), (3, w1), (4, w8), (6, .pointer (some ⟨b6, 0, none⟩)), (7, .int .i64 x20), (8, .pointer (some ⟨b7, 0, none⟩))]) ?_ ?_
            · refine G_block ?_
              have f24 := o7.trN t15
              have f25 := h23.trN t15
              have f26 := h22.trN t15
              have f27 := h24.trN t15
              refine G_lp hl4 (fun st a' w' => ∃ x22 x23 s', st = (x22, x23) ∧ w' = s'.w ∧ Tr (Fz κ [k1, k1a, k2]) s14 s' ∧ Own ((κ + 0), 1003) s' b7 (cA .u64 x23) 40 ∧ x23.length = 8 ∧ Own ((κ + 2), 15) s' b6 #[.int .i64 x14, .int .i64 x15, .int .i64 x16, .int .i64 x17] 49 ∧ RVaultAt k1 k1a b2 s' b1 X1 ∧ RDiskAt k2 s' b2 x21 ∧ Bd ((κ + 0), 1001) kU 39 0 s' w8 x8 ∧ En [] 176 a' [(9, .int .i64 x22), (0, .pointer (some ⟨b1, 0, none⟩)), (2, .int .i64 0), (3, w1), (4, w8), (6, .pointer (some ⟨b6, 0, none⟩)), (7, .int .i64 x20), (8, .pointer (some ⟨b7, 0, none⟩))]) ⟨_, _, _, rfl, rfl, (Tr.refl _ _), o8, (List.length_replicate ..), f24, f25, f26, f27, ((((((((E.nil.ad E rfl rfl).ad E rfl rfl).ad E rfl rfl).ad E rfl rfl).ad E rfl rfl).ad E rfl rfl).ad E rfl rfl).ad E rfl rfl)⟩ ?_
              rintro _ a _ x ⟨x24, x25, s15, rfl, rfl, t16, o9, ln1, o10, h25, h26, h27, E⟩ hf4
              dsimp only [m_L13_4b] at hf4
              refine G_seq ?_
              refine G_seq ?_
              obtain ⟨t17, hc2, hf4⟩ := ob_some hf4
              refine G_regm (fun a' w' => ∃ s', w' = s'.w ∧ Tr No s15 s' ∧ En [] 176 a' [(88, .bool t17), (0, .pointer (some ⟨b1, 0, none⟩)), (2, .int .i64 0), (3, w1), (4, w8), (6, .pointer (some ⟨b6, 0, none⟩)), (7, .int .i64 x20), (8, .pointer (some ⟨b7, 0, none⟩)), (9, .int .i64 x24)]) ?_ ?_
              · refine sd E (o_mv (E.ev rfl)) rfl rfl rfl fun a E => ?_
                refine sd E (o_bi (E.ev rfl) (E.ev rfl) rfl) rfl rfl rfl fun a E => ?_
                refine sd E (o_mv (E.ev rfl)) rfl rfl rfl fun a E => ?_
                refine bcase (E.ev (x := .tmp 80) rfl) (fun ht => ?_) (fun ht => ?_)
                · have hc2 := cT ht hc2
                  rw [ht] at E
                  refine sd E (o_mv (E.ev rfl)) rfl rfl rfl fun a E => ?_
                  refine sd E (o_bi (E.ev rfl) (E.ev rfl) rfl) rfl rfl rfl fun a E => ?_
                  refine sd E (o_mv (E.ev rfl)) rfl rfl rfl fun a E => ?_
                  refine sd E (o_bi (E.ev rfl) (E.ev rfl) rfl) rfl rfl rfl fun a E => ?_
                  refine sd E (o_mv (E.ev rfl)) rfl rfl rfl fun a E => ?_
                  refine sd E (o_lenS (xs := x8) Tryz.underlying36 (E.ev rfl) h27.isS) rfl rfl rfl fun a E => ?_
                  refine sd E (o_bi (E.ev rfl) (E.ev rfl) rfl) rfl rfl rfl fun a E => ?_
                  refine sd E (o_pickT (E.ev rfl) (E.ev rfl)) rfl rfl rfl fun a E => ?_
                  obtain rfl := Option.some.inj hc2
                  exact GL_nil ⟨_, rfl, (Tr.refl _ _), (((((((((E.nil.ad E rfl rfl).ad E rfl rfl).ad E rfl rfl).ad E rfl rfl).ad E rfl rfl).ad E rfl rfl).ad E rfl rfl).ad E rfl rfl).ad E rfl rfl)⟩
                · have hc2 := cF ht hc2
                  rw [ht] at E
                  refine sk E rfl rfl rfl fun a E => ?_
                  refine sk E rfl rfl rfl fun a E => ?_
                  refine sk E rfl rfl rfl fun a E => ?_
                  refine sk E rfl rfl rfl fun a E => ?_
                  refine sk E rfl rfl rfl fun a E => ?_
                  refine sk E rfl rfl rfl fun a E => ?_
                  refine sk E rfl rfl rfl fun a E => ?_
                  refine sd E (o_pickF (E.ev rfl) (E.ev rfl)) rfl rfl rfl fun a E => ?_
                  obtain rfl := Option.some.inj hc2
                  exact GL_nil ⟨_, rfl, (Tr.refl _ _), (((((((((E.nil.ad E rfl rfl).ad E rfl rfl).ad E rfl rfl).ad E rfl rfl).ad E rfl rfl).ad E rfl rfl).ad E rfl rfl).ad E rfl rfl).ad E rfl rfl)⟩
              rintro a _ ⟨s16, rfl, t18, E⟩
              refine tgn ?_
              refine G_cond (E.ev rfl) (fun ht => ?_) (fun ht => ?_)
              · have hf4 := cT ht hf4
                refine G_skip ?_
                refine tgn ?_
                refine G_seq ?_
                refine G_block ?_
                refine G_region ?_
                refine sd E (o_mv (E.ev rfl)) rfl rfl rfl fun a E => ?_
                refine sd E (o_mv (E.ev rfl)) rfl rfl rfl fun a E => ?_
                refine sd E (o_mv (E.ev rfl)) rfl rfl rfl fun a E => ?_
                refine sd E (o_bi (E.ev rfl) (E.ev rfl) rfl) rfl rfl rfl fun a E => ?_
                refine sd E (o_mv (E.ev rfl)) rfl rfl rfl fun a E => ?_
                refine sd E (o_bi (E.ev rfl) (E.ev rfl) rfl) rfl rfl rfl fun a E => ?_
                obtain ⟨x26, hx5, hf4⟩ := ob_some hf4
                have f28 := h27.trN t18
                obtain ⟨b8, p2, g2⟩ := bd_ix f28 hx5
                refine sd E (o_ixg Tryz.underlying36 Tryz.sizeOf39 g2 (E.ev rfl) (E.ev rfl)) rfl rfl rfl fun a E => ?_
                refine sd E (o_ld Tryz.isAgg39 (E.ev rfl) (bd_ci f28 g2 hx5)) rfl rfl rfl fun a E => ?_
                obtain ⟨x27, hx6, hf4⟩ := ob_some hf4
                refine sd E (o_ixa Tryz.underlying40 Tryz.sizeOf39 (E.ev rfl) (E.ev rfl) (ix_some hx6).1 (ix_some hx6).2) rfl rfl rfl fun a E => ?_
                obtain ⟨x28, hx7, hf4⟩ := ob_some hf4
                have f29 := o9.trN t18
                refine shN E (o_sta Tryz.sizeOf39 f29 (E.ev rfl) (E.ev rfl) hx7) rfl rfl ?_
                rintro _ s17 ⟨o11, t19⟩
                refine GL_nil ?_
                refine ebn ?_
                refine tgn ?_
                refine G_region ?_
                refine sd E (o_mv (E.ev rfl)) rfl rfl rfl fun a E => ?_
                refine sd E (o_bi (E.ev rfl) (E.ev rfl) rfl) rfl rfl rfl fun a E => ?_
                refine sd E (o_as (E.ev rfl)) rfl rfl rfl fun a E => ?_
                refine GL_nil ?_
                obtain rfl := Option.some.inj hf4
                have f30 := (o10.trN t18).tr t19 (nt_fst (ra rfl))
                have f31 := (h25.trN t18).tr t19 (fun i => (nt_fst (rb lt1))) (fun i => (nt_fst (rb lt2)))
                have f32 := (h26.trN t18).tr t19 (fun i => (nt_fst (rb lt3)))
                have f33 := f28.tr t19 (nt_snd rfl)
                have T4 : Tr (Fz κ [k1, k1a, k2]) s14 s17 := ((t16.trans t18.no).trans (Tr.ft Fz.f t19))
                exact lpn ⟨_, _, _, rfl, rfl, T4, o11, ((st_len hx7).trans ln1), f30, f31, f32, f33, ((((((((E.nil.ad E rfl rfl).ad E rfl rfl).ad E rfl rfl).ad E rfl rfl).ad E rfl rfl).ad E rfl rfl).ad E rfl rfl).ad E rfl rfl)⟩
              · have hf4 := cF ht hf4
                refine G_exit ?_
                refine tge ?_
                obtain rfl := Option.some.inj hf4
                refine lpe fun hr => ?_
                subst hr
                refine ebk ?_
                refine ctn ?_
                have f34 := o9.trN t18
                have f35 := o10.trN t18
                have f36 := h25.trN t18
                have f37 := h26.trN t18
                have f38 := h27.trN t18
                have T5 : Tr (Fz κ [k1, k1a, k2]) s14 s16 := (t16.trans t18.no)
                exact ⟨_, _, _, hf3, rfl, T5, f34, ln1, f35, f36, f37, f38, ((((((((E.nil.ad E rfl rfl).ad E rfl rfl).ad E rfl rfl).ad E rfl rfl).ad E rfl rfl).ad E rfl rfl).ad E rfl rfl).ad E rfl rfl)⟩
            · rintro a _ ⟨x29, x30, s18, hf3, rfl, t20, o12, ln2, o13, h29, h30, h31, E⟩
              dsimp only [m_L13_4k] at hf3
              refine tgn ?_
              refine G_drw (κ + 3) (by rfl) [0, 1, 2, 3, 4, 5, 6, 7, 8, 9, 10, 11, 12, 13, 14, 15] (by kernel_rfl) ?_
              intro s19 t21
              refine dp E rfl (fun w => (o_mv (E.ev rfl))) rfl rfl rfl fun a E => ?_
              refine dp E rfl (fun w => (o_nc (E.ev rfl))) rfl rfl rfl fun a E => ?_
              have f39 := h29.trN t21
              obtain ⟨w10, b9, o14, h32, h33⟩ := f39
              refine dp E rfl (fun w => (o_fa Tryz.underlying52 rfl Tryz.sizeOf27 (E.ev rfl))) rfl rfl rfl fun a E => ?_
              refine dr E rfl (fun s' t => (o_ld Tryz.isAgg27 (E.ev rfl) (((o14.trN t).cell _).trans rfl))) rfl rfl rfl (by kernel_rfl) fun a E => ?_
              refine dp E rfl (fun w => (o_fa Tryz.underlying49 rfl Tryz.sizeOf3 (E.ev rfl))) rfl rfl rfl fun a E => ?_
              have f40 := o13.trN t21
              refine dr E rfl (fun s' t => (o_ld Tryz.isAgg3 (E.ev rfl) (((f40.trN t).cell _).trans rfl))) rfl rfl rfl (by kernel_rfl) fun a E => ?_
              refine dp E rfl (fun w => (o_mv (E.ev rfl))) rfl rfl rfl fun a E => ?_
              refine dp E rfl (fun w => (o_nc (E.ev rfl))) rfl rfl rfl fun a E => ?_
              refine dp E rfl (fun w => (o_fa Tryz.underlying52 rfl Tryz.sizeOf3 (E.ev rfl))) rfl rfl rfl fun a E => ?_
              refine dr E rfl (fun s' t => (o_ld Tryz.isAgg3 (E.ev rfl) (((o14.trN t).cell _).trans rfl))) rfl rfl rfl (by kernel_rfl) fun a E => ?_
              refine dp E rfl (fun w => (o_bi (E.ev rfl) (E.ev rfl) rfl)) rfl rfl rfl fun a E => ?_
              refine dp E rfl (fun w => (o_bi (E.ev rfl) (E.ev rfl) rfl)) rfl rfl rfl fun a E => ?_
              refine dp E rfl (fun w => (o_mv (E.ev rfl))) rfl rfl rfl fun a E => ?_
              refine dp E rfl (fun w => (o_bi (E.ev rfl) (E.ev rfl) rfl)) rfl rfl rfl fun a E => ?_
              have f41 := o12.trN t21
              refine dr E rfl (fun s' t => (o_ldA Tryz.isAgg40 Tryz.sizeOf40 (E.ev rfl) ln2 (f41.trN t).cell)) rfl rfl rfl (by kernel_rfl) fun a E => ?_
              have f42 := h30.trN t21
              obtain ⟨X3, hx8, hf3⟩ := ob_some hf3
              refine dl E rfl (o_ok Tryz.call39 (E.evs rfl) (E.ev rfl) (ok_44 _ (x1 := IntKind.wrap .i64 ((IntKind.wrap .i64 (2 + (IntKind.wrap .i64 (x16 * X1.Area)))) + x20)) (x2 := x30) f42 ln2 hx8)) rfl rfl rfl (by kernel_rfl) ?_
              rintro a _ s20 ⟨t22, h34⟩ E
              refine gd_nil ?_
              refine ebn ?_
              refine tgn ?_
              refine G_region ?_
              refine sd E (o_mv (E.ev rfl)) rfl rfl rfl fun a E => ?_
              refine sd E (o_bi (E.ev rfl) (E.ev rfl) rfl) rfl rfl rfl fun a E => ?_
              refine sd E (o_as (E.ev rfl)) rfl rfl rfl fun a E => ?_
              refine GL_nil ?_
              have f43 := h32.tr t22
              have f44 := h33.tr t22 (fun i => (nW1 ne12))
              have f45 := o14.tr t22 (nW1 ne02)
              have h35 : RVaultAt k1 k1a b2 s20 b1 (⟨X1.Area, (⟨X1.At.Number, X1.At.Epoch, X1.At.Area, X1.At.Words⟩ : Anchor), X1.S, X1.Log⟩ : RVault) := ⟨_, _, f45, f43, f44⟩
              obtain rfl := Option.some.inj hf3
              have f46 := f40.tr t22 (nW1 (rb lt3).symm)
              have f47 := (h31.trN t21).tr t22 (nW1 (rb lt3).symm)
              have T6 : Tr (Fz κ [k1, k1a, k2]) s12 s20 := ((((t14.trans t15.no).trans t20).trans t21.no).trans (Tr.fw1 Fz.w2 t22))
              exact lpn ⟨_, _, _, rfl, rfl, T6, h34, f46, h35, f47, ((((((E.nil.ad E rfl rfl).ad E rfl rfl).ad E rfl rfl).ad E rfl rfl).ad E rfl rfl).ad E rfl rfl)⟩
          · have hf3 := cF ht hf3
            refine G_exit ?_
            refine tge ?_
            obtain rfl := Option.some.inj hf3
            refine lpe fun hr => ?_
            subst hr
            refine ebk ?_
            refine ctn ?_
            exact ⟨_, _, _, hm, rfl, t14, h22, o7, h23, h24, ((((((E.nil.ad E rfl rfl).ad E rfl rfl).ad E rfl rfl).ad E rfl rfl).ad E rfl rfl).ad E rfl rfl)⟩
        · rintro a _ ⟨x31, x32, s21, hm, rfl, t23, h36, o15, h37, h38, E⟩
          dsimp only [m_L13_3k] at hm
          refine tgn ?_
          refine G_seq ?_
          refine G_region ?_
          refine sd E (o_mv (E.ev rfl)) rfl rfl rfl fun a E => ?_
          refine sd E (o_nc (E.ev rfl)) rfl rfl rfl fun a E => ?_
          obtain ⟨w11, b10, o16, h39, h40⟩ := h37
          refine sd E (o_fa Tryz.underlying52 rfl Tryz.sizeOf27 (E.ev rfl)) rfl rfl rfl fun a E => ?_
          refine sd E (o_ld Tryz.isAgg27 (E.ev rfl) ((o16.cell _).trans rfl)) rfl rfl rfl fun a E => ?_
          obtain ⟨X4, hx9, hm⟩ := ob_some hm
          refine sh E (o_ok Tryz.call10 (E.evs rfl) (E.ev rfl) (ok_45 _ h36 hx9)) rfl rfl rfl ?_
          rintro a _ s22 ⟨t24, h41⟩ E
          refine GL_nil ?_
          refine tgn ?_
          refine G_seq ?_
          refine G_drw (κ + 4) (by rfl) [0, 1, 2, 3, 4, 5, 6, 7, 8, 9] (by kernel_rfl) ?_
          intro s23 t25
          refine dp E rfl (fun w => (o_mv (E.ev rfl))) rfl rfl rfl fun a E => ?_
          refine dp E rfl (fun w => (o_nc (E.ev rfl))) rfl rfl rfl fun a E => ?_
          refine dp E rfl (fun w => (o_fa Tryz.underlying52 rfl Tryz.sizeOf27 (E.ev rfl))) rfl rfl rfl fun a E => ?_
          have f48 := (o16.tr t24 (nW1 ne02)).trN t25
          refine dr E rfl (fun s' t => (o_ld Tryz.isAgg27 (E.ev rfl) (((f48.trN t).cell _).trans rfl))) rfl rfl rfl (by kernel_rfl) fun a E => ?_
          refine dp E rfl (fun w => (o_fa Tryz.underlying49 rfl Tryz.sizeOf3 (E.ev rfl))) rfl rfl rfl fun a E => ?_
          have f49 := (o15.tr t24 (nW1 (rb lt3).symm)).trN t25
          refine dr E rfl (fun s' t => (o_ld Tryz.isAgg3 (E.ev rfl) (((f49.trN t).cell _).trans rfl))) rfl rfl rfl (by kernel_rfl) fun a E => ?_
          refine dp E rfl (fun w => (o_rem (E.ev rfl) (E.ev rfl) rfl)) rfl rfl rfl fun a E => ?_
          refine dr E rfl (fun s' t => (o_ldc (cs := #[.int .i64 x14, .int .i64 x15, .int .i64 x16, .int .i64 x17]) Tryz.isAgg49 Tryz.sizeOf49 (E.ev rfl) (f49.trN t).cell)) rfl rfl rfl (by kernel_rfl) fun a E => ?_
          obtain ⟨y3, hx10, hm⟩ := ob_some hm
          refine dh E rfl (o_ok Tryz.call40 (E.evs rfl) (E.ev rfl) (ok_L40 _ (x0 := (⟨x14, x15, x16, x17⟩ : Anchor)) hx10)) (fun _ _ h => h.1) rfl rfl rfl (by kernel_rfl) ?_
          rintro a _ s24 ⟨t26, rfl, len_y3⟩ E
          have f50 := (h41.trN t25).trN t26
          obtain ⟨X5, hx11, hm⟩ := ob_some hm
          refine dl E rfl (o_ok Tryz.call39 (E.evs rfl) (E.ev rfl) (ok_44 _ (x1 := Int.tmod x14 2) (x2 := y3) f50 len_y3 hx11)) rfl rfl rfl (by kernel_rfl) ?_
          rintro a _ s25 ⟨t27, h42⟩ E
          refine gd_nil ?_
          refine tgn ?_
          refine G_seq ?_
          refine G_region ?_
          refine sd E (o_mv (E.ev rfl)) rfl rfl rfl fun a E => ?_
          refine sd E (o_nc (E.ev rfl)) rfl rfl rfl fun a E => ?_
          refine sd E (o_fa Tryz.underlying52 rfl Tryz.sizeOf27 (E.ev rfl)) rfl rfl rfl fun a E => ?_
          have f51 := (f48.trN t26).tr t27 (nW1 ne02)
          refine sd E (o_ld Tryz.isAgg27 (E.ev rfl) ((f51.cell _).trans rfl)) rfl rfl rfl fun a E => ?_
          obtain ⟨X6, hx12, hm⟩ := ob_some hm
          refine sh E (o_ok Tryz.call10 (E.evs rfl) (E.ev rfl) (ok_45 _ h42 hx12)) rfl rfl rfl ?_
          rintro a _ s26 ⟨t28, h43⟩ E
          refine GL_nil ?_
          refine tgn ?_
          refine G_seq ?_
          refine G_region ?_
          refine sd E (o_mv (E.ev rfl)) rfl rfl rfl fun a E => ?_
          have f52 := ((f49.trN t26).tr t27 (nW1 (rb lt3).symm)).tr t28 (nW1 (rb lt3).symm)
          refine sd E (o_ldc (cs := #[.int .i64 x14, .int .i64 x15, .int .i64 x16, .int .i64 x17]) Tryz.isAgg49 Tryz.sizeOf49 (E.ev rfl) f52.cell) rfl rfl rfl fun a E => ?_
          refine sd E (o_nc (E.ev rfl)) rfl rfl rfl fun a E => ?_
          refine sd E (o_fa Tryz.underlying52 rfl Tryz.sizeOf49 (E.ev rfl)) rfl rfl rfl fun a E => ?_
          have f53 := f51.tr t28 (nW1 ne02)
          refine shN E (o_st (o := 2) (cs' := #[.pointer (some ⟨b2, 0, none⟩), .int .i64 X1.Area, .int .i64 x14, .int .i64 x15, .int .i64 x16, .int .i64 x17, w11, .pointer (some ⟨b10, 0, none⟩)]) (v := .agg #[.int .i64 x14, .int .i64 x15, .int .i64 x16, .int .i64 x17]) Tryz.sizeOf49 f53 (E.ev rfl) (E.ev rfl) (Nat.le_of_ble_eq_true rfl) (one_cells rfl) rfl) rfl rfl ?_
          rintro _ s27 ⟨o17, t29⟩
          refine GL_nil ?_
          refine tgn ?_
          refine G_seq ?_
          refine G_region ?_
          refine sd E (o_mv (E.ev rfl)) rfl rfl rfl fun a E => ?_
          refine sd E (o_mv (E.ev rfl)) rfl rfl rfl fun a E => ?_
          refine sd E (o_nc (E.ev rfl)) rfl rfl rfl fun a E => ?_
          refine sd E (o_fa Tryz.underlying52 rfl Tryz.sizeOf43 (E.ev rfl)) rfl rfl rfl fun a E => ?_
          have f54 := ((((((((((((h1.tr t6).tr t7).tr t8).tr t9).tr t11).tr t13).tr t23).tr t24).tr t25).tr t26).tr t27).tr t28).tr t29
          obtain ⟨a2, c2, rfl⟩ := f54.isS
          refine shN E (o_st (o := 6) (cs' := #[.pointer (some ⟨b2, 0, none⟩), .int .i64 X1.Area, .int .i64 x14, .int .i64 x15, .int .i64 x16, .int .i64 x17, (.slice a2 y1.length c2), .pointer (some ⟨b10, 0, none⟩)]) (v := (.slice a2 y1.length c2)) Tryz.sizeOf43 o17 (E.ev rfl) (E.ev rfl) (Nat.le_of_ble_eq_true rfl) (one_cells rfl) rfl) rfl rfl ?_
          rintro _ s28 ⟨o18, t30⟩
          refine GL_nil ?_
          refine tgn ?_
          refine G_seq ?_
          refine G_region ?_
          refine sd E (o_mv (E.ev rfl)) rfl rfl rfl fun a E => ?_
          refine sd E (o_nc (E.ev rfl)) rfl rfl rfl fun a E => ?_
          refine sd E (o_fa Tryz.underlying52 rfl Tryz.sizeOf27 (E.ev rfl)) rfl rfl rfl fun a E => ?_
          refine sd E (o_ld Tryz.isAgg27 (E.ev rfl) ((o18.cell _).trans rfl)) rfl rfl rfl fun a E => ?_
          refine sd E (o_nc (E.ev rfl)) rfl rfl rfl fun a E => ?_
          have f55 := (h43.tr t29 (fun i => (nt_fst ne02.symm))).tr t30 (fun i => (nt_fst ne02.symm))
          obtain ⟨w12, w13, w14, o19, h44, h45, h46⟩ := f55
          refine sd E (o_fa Tryz.underlying65 rfl Tryz.sizeOf60 (E.ev rfl)) rfl rfl rfl fun a E => ?_
          refine sd E (o_ld Tryz.isAgg60 (E.ev rfl) ((o19.cell _).trans rfl)) rfl rfl rfl fun a E => ?_
          refine sd E (o_lenS (xs := X6.Read) Tryz.underlying60 (E.ev rfl) h45.isS) rfl rfl rfl fun a E => ?_
          refine sd E (o_as (E.ev rfl)) rfl rfl rfl fun a E => ?_
          refine GL_nil ?_
          refine tgn ?_
          refine G_seq ?_
          refine G_drw (κ + 5) (by rfl) [0, 1, 2, 3, 4, 5, 6, 7, 8, 9, 10, 11, 12, 13, 14, 15, 16, 17, 18, 19, 20, 21, 22, 23, 24] (by kernel_rfl) ?_
          intro s29 t31
          refine dp E rfl (fun w => (o_mv (E.ev rfl))) rfl rfl rfl fun a E => ?_
          refine dp E rfl (fun w => (o_mv (E.ev rfl))) rfl rfl rfl fun a E => ?_
          refine dp E rfl (fun w => (o_nc (E.ev rfl))) rfl rfl rfl fun a E => ?_
          refine dp E rfl (fun w => (o_fa Tryz.underlying52 rfl Tryz.sizeOf27 (E.ev rfl))) rfl rfl rfl fun a E => ?_
          have f56 := o18.trN t31
          refine dr E rfl (fun s' t => (o_ld Tryz.isAgg27 (E.ev rfl) (((f56.trN t).cell _).trans rfl))) rfl rfl rfl (by kernel_rfl) fun a E => ?_
          refine dp E rfl (fun w => (o_mv (E.ev rfl))) rfl rfl rfl fun a E => ?_
          refine dp E rfl (fun w => (o_nc (E.ev rfl))) rfl rfl rfl fun a E => ?_
          refine dp E rfl (fun w => (o_fa Tryz.underlying52 rfl Tryz.sizeOf3 (E.ev rfl))) rfl rfl rfl fun a E => ?_
          refine dr E rfl (fun s' t => (o_ld Tryz.isAgg3 (E.ev rfl) (((f56.trN t).cell _).trans rfl))) rfl rfl rfl (by kernel_rfl) fun a E => ?_
          refine dp E rfl (fun w => (o_bi (E.ev rfl) (E.ev rfl) rfl)) rfl rfl rfl fun a E => ?_
          refine dp E rfl (fun w => (o_bi (E.ev rfl) (E.ev rfl) rfl)) rfl rfl rfl fun a E => ?_
          refine dp E rfl (fun w => (o_mv (E.ev rfl))) rfl rfl rfl fun a E => ?_
          refine dp E rfl (fun w => (o_bi (E.ev rfl) (E.ev rfl) rfl)) rfl rfl rfl fun a E => ?_
          refine dp E rfl (fun w => (o_mv (E.ev rfl))) rfl rfl rfl fun a E => ?_
          refine dp E rfl (fun w => (o_nc (E.ev rfl))) rfl rfl rfl fun a E => ?_
          refine dp E rfl (fun w => (o_fa Tryz.underlying52 rfl Tryz.sizeOf3 (E.ev rfl))) rfl rfl rfl fun a E => ?_
          refine dr E rfl (fun s' t => (o_ld Tryz.isAgg3 (E.ev rfl) (((f56.trN t).cell _).trans rfl))) rfl rfl rfl (by kernel_rfl) fun a E => ?_
          refine dp E rfl (fun w => (o_bi (E.ev rfl) (E.ev rfl) rfl)) rfl rfl rfl fun a E => ?_
          refine dp E rfl (fun w => (o_bi (E.ev rfl) (E.ev rfl) rfl)) rfl rfl rfl fun a E => ?_
          refine dp E rfl (fun w => (o_fa Tryz.underlying49 rfl Tryz.sizeOf3 (E.ev rfl))) rfl rfl rfl fun a E => ?_
          have f57 := ((f52.tr t29 (nt_fst (rb lt1).symm)).tr t30 (nt_fst (rb lt1).symm)).trN t31
          refine dr E rfl (fun s' t => (o_ld Tryz.isAgg3 (E.ev rfl) (((f57.trN t).cell _).trans rfl))) rfl rfl rfl (by kernel_rfl) fun a E => ?_
          have f58 := h44.trN t31
          have f59 := h45.trN t31
          have f60 := h46.trN t31
          have f61 := o19.trN t31
          have h47 : RDiskAt k2 s29 b2 X6 := ⟨_, _, _, f61, f58, f59, f60⟩
          obtain ⟨⟨y4, X7⟩, hx13, hm⟩ := ob_some hm
          refine dl E rfl (o_ok Tryz.call30 (E.evs rfl) (E.ev rfl) (ok_17 _ (κ + 6) (x1 := IntKind.wrap .i64 (2 + (IntKind.wrap .i64 (2 * X1.Area)))) (x2 := IntKind.wrap .i64 ((IntKind.wrap .i64 ((X6.Read.length : Int) - 2)) - (IntKind.wrap .i64 (2 * X1.Area)))) (x3 := x15) h47 hx13)) rfl rfl rfl (by kernel_rfl) ?_
          rintro a _ s30 ⟨t32, b11, rfl, h49, h48⟩ E
          refine dp E rfl (fun w => (o_nc (E.ev rfl))) rfl rfl rfl fun a E => ?_
          refine dp E rfl (fun w => (o_fa Tryz.underlying52 rfl Tryz.sizeOf50 (E.ev rfl))) rfl rfl rfl fun a E => ?_
          have f62 := f56.tr t32 (nW1 ne02)
          refine dlN E rfl (o_st (o := 7) (cs' := #[.pointer (some ⟨b2, 0, none⟩), .int .i64 X1.Area, .int .i64 x14, .int .i64 x15, .int .i64 x16, .int .i64 x17, (.slice a2 y1.length c2), .pointer (some ⟨b11, 0, none⟩)]) (v := .pointer (some ⟨b11, 0, none⟩)) Tryz.sizeOf50 f62 (E.ev rfl) (E.ev rfl) (Nat.le_of_ble_eq_true rfl) (one_cells rfl) rfl) rfl rfl (by kernel_rfl) ?_
          rintro _ s31 ⟨o20, t33⟩
          refine gd_nil ?_
          refine tgn ?_
          refine G_seq ?_
          refine G_region ?_
          refine sd E (o_as (E.ev rfl)) rfl rfl rfl fun a E => ?_
          refine GL_nil ?_
          refine tgn ?_
          refine G_ret ?_
          cases hm
          have f63 := h48.tr t33 (fun i => (nt_fst (rb lt1).symm))
          obtain ⟨s32, e3, h50, t34⟩ := f63.rt k1a
          rw [e3]
          have t34 := Tr.w1 t34
          have f64 := ((((f54.tr t30).tr t31).tr t32).tr t33).tr t34
          have f65 := o20.tr t34 (nW1 (rb lt1))
          have h51 : RVaultAt k1 k1a b2 s32 b1 (⟨X1.Area, (⟨x14, x15, x16, x17⟩ : Anchor), y1, y4⟩ : RVault) := ⟨_, _, f65, f64, h50⟩
          have f66 := (h49.tr t33 (fun i => (nt_fst ne02.symm))).tr t34 (fun i => (nW1 (rb lt3)))
          have T7 : Tr (Fz κ [k1, k1a, k2]) s s32 := ((((((((((((((((((t1.no.trans t6).trans t7.no).trans t8.no).trans (Tr.ft Fz.f t9)).trans t11.no).trans t13).trans t23).trans (Tr.fw1 Fz.w2 t24)).trans t25.no).trans t26.no).trans (Tr.fw1 Fz.w2 t27)).trans (Tr.fw1 Fz.w2 t28)).trans (Tr.ft Fz.w0 t29)).trans (Tr.ft Fz.w0 t30)).trans t31.no).trans (Tr.fw1 Fz.w2 t32)).trans (Tr.ft Fz.w0 t33)).trans (Tr.fw1 Fz.f t34))
          exact fin1 E rfl rfl ⟨(Tr.fin hκ T7), rfl, h51, f66⟩

-- (*gimmal/vault.Vault).Sync

noncomputable def m_136 (X1 : VaultM) (X2 : Disk) : Option Disk :=
  ob (m_51 X2) fun X3 => some X3
theorem ok_136 (s : St) {k1 k1a b1 : Nat} {X1 : VaultM} {k2 b2 : Nat} {X2 : Disk} (ho1 : VaultAt k1 k1a b2 s b1 X1) (ho2 : DiskAt k2 s b2 X2) (ne01 : k1 ≠ k1a) (ne02 : k1 ≠ k2) (ne12 : k1a ≠ k2) {Y1 : Disk} (hm : m_136 X1 X2 = some Y1) :
    Ok Tryz.prog 9 ([.pointer (some ⟨b1, 0, none⟩)] : List Value).toArray s fun v s' => Tr (Ws [k2]) s s' ∧ DiskAt k2 s' b2 Y1 := by
  unfold m_136 at hm
  obtain ⟨κ, hκ⟩ := s.fresh
  have lt1 : k1 < κ := hκ _ _ ho1.tag
  have lt2 : k1a < κ := ho1.lt1 hκ
  have lt3 : k2 < κ := hκ _ _ ho2.tag
  refine ok_of (n := 9) _ Tryz.func9 rfl _ rfl rfl fun a E => ?_
  refine G_seq ?_
  refine G_region ?_
  refine sd E (o_mv (E.ev rfl)) rfl rfl rfl fun a E => ?_
  refine sd E (o_nep Tryz.underlying29 (E.ev rfl) (E.ev rfl)) rfl rfl rfl fun a E => ?_
  refine GL_nil ?_
  refine tgn ?_
  refine G_cond (t := true) (E.ev rfl) (fun _ => ?_) nofun
  refine G_region ?_
  refine sd E (o_mv (E.ev rfl)) rfl rfl rfl fun a E => ?_
  refine sd E (o_nc (E.ev rfl)) rfl rfl rfl fun a E => ?_
  obtain ⟨w1, b3, o1, h1, h2⟩ := ho1
  refine sd E (o_fa Tryz.underlying68 rfl Tryz.sizeOf25 (E.ev rfl)) rfl rfl rfl fun a E => ?_
  refine sd E (o_ld Tryz.isAgg25 (E.ev rfl) ((o1.cell _).trans rfl)) rfl rfl rfl fun a E => ?_
  obtain ⟨X3, hx1, hm⟩ := ob_some hm
  refine sh E (o_ok Tryz.call31 (E.evs rfl) (E.ev rfl) (oq_51 _ ho2 hx1)) rfl rfl rfl ?_
  rintro a _ s1 ⟨t1, h3⟩ E
  refine GL_nil ?_
  cases hm
  have f1 := h1.tr t1
  have f2 := h2.tr t1 (fun i => (nW1 ne12))
  have f3 := o1.tr t1 (nW1 ne02)
  have h4 : VaultAt k1 k1a b2 s1 b1 (⟨X1.area, (⟨X1.at_.Number, X1.at_.Epoch, X1.at_.Area, X1.at_.Words⟩ : Anchor), X1.stored, X1.log⟩ : VaultM) := ⟨_, _, f3, f1, f2⟩
  have T1 : Tr (Fz κ [k2]) s s1 := (Tr.fw1 Fz.w0 t1)
  exact fin0 E rfl ⟨(Tr.fin hκ T1), h3⟩

end Go.Proofs.YtdkfdmalbbfbmaaGreat
