/- Copies into an array of one's own. -/
import Derived.Test.YtdkfdmalbbfbmaaGreatMWL6
/- Copies into an array of one's own. -/
namespace Go.Proofs.YtdkfdmalbbfbmaaGreat
open Go Go.Maps
set_option maxRecDepth 4000

section
variable {α : Type} {K : Kd α} {P : Program} {s : St} {κ : Tg} {w : World} {ρ : Operand → Value} {d : Option Nat} {g : Option (Nat × Bool)} {t : Nat} {pos : String} {af : Array Edge} {x y lo : Operand} {T T' e b m : Nat} {k kl : IntKind} {u v : Value} {xs ys : List Int} {l : Int}
/-- What is read behind l of a slice that may be read now. -/
theorem Rd.from {xs ys : List α} (h : Rd K s v xs) (hy : sl xs l xs.length = some ys) (hz : ∀ w, (sizeOf e).run P w = .ok K.sz w) (hT : P.underlying T = some (.slice e)) :
    ∃ u, (∀ (w : World) (d g t pos af ρ) (x lo : Operand), ρ x = v → ρ lo = .int .i64 l → OpTo P ⟨d, .slice T x (some lo) none none, t, pos, af, g⟩ ρ w u w) ∧ Rd K s u ys := by
  obtain ⟨h0, h1, _, rfl⟩ := sl_some hy
  obtain ⟨a, c, cs, rfl, hcap, he, hn, hs⟩ := h
  have hlen : ((xs.take (xs.length : Int).toNat).drop l.toNat).length = xs.length - l.toNat := by simp
  refine ⟨.slice (if c = l.toNat then a else a.map (·.add (l.toNat * K.sz))) (xs.length - l.toNat) (c - l.toNat), fun w d g t pos af ρ x lo hx hl => OpTo_value (by intro c h; cases h) ?_, ?_⟩
  · simp only [execOp, hx, Option.map_some, Option.map_none, hl]
    refine run_v _ ?_
    have e1 : (Instr.sliceBounds true xs.length c (some (.int .i64 l)) none none).run P w = .ok (l.toNat, xs.length, c) w := by
      simp [Instr.sliceBounds, Sem.run_bind, Result.andThen, run_sliceBound, h0, h1]
    simp only [Instr.sliceAt, Instr.slice, Sem.run_bind, run_underlying hT, Result.andThen, e1, hz]
    rfl
  · have hcut := he.cut (l := l.toNat) (h := (xs.length : Int).toNat)
    refine ⟨_, _, _, by rw [hlen], by rw [hlen]; omega, hcut, fun h => ?_, fun ad had => ⟨fun hne => ?_, fun j q hq => ?_⟩⟩
    · cases a with
      | none =>
        obtain ⟨rfl, rfl⟩ := hn rfl
        simp
      | some a =>
        split at h <;> simp at h
    · cases a with
      | none => split at had <;> simp at had
      | some a =>
        have := (hs a rfl).1 (by intro e; subst e; simp at hne)
        split at had
        · injection had with had; subst had; exact this
        · simp only [Option.map_some, Option.some.injEq] at had
          subst had
          unfold Addr.add
          split <;> simp [this]
    · cases a with
      | none => split at had <;> simp at had
      | some a =>
        rw [List.getElem?_drop, List.getElem?_take] at hq
        split at hq
        · rename_i hj
          have h2 := (hs a rfl).2 _ _ hq
          have hspot : a.spot = none := (hs a rfl).1 (by intro e; subst e; simp at hj)
          split at had
          · rename_i hc
            injection had with had
            subst had
            exfalso
            have hlc := he.len
            have h3 := (List.getElem?_eq_some_iff.1 hq).1
            have h4 : l.toNat = xs.length := by omega
            rw [h4] at h3
            omega
          · simp only [Option.map_some, Option.some.injEq] at had
            subst had
            obtain ⟨bb, oo, sp⟩ := a
            simp only at hspot
            subst hspot
            rw [add_none] at h2 ⊢
            rw [add_none, Nat.add_assoc]
            exact h2
        · cases hq
end
end Go.Proofs.YtdkfdmalbbfbmaaGreat
