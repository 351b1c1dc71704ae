/- The row of the law VaultLasts: whatever the input, it comes to true, and the input reads as it did. It stands under the row's own conditions alone. -/
import Derived.Test.YtdkfdmalbbfbmaaGreatRows
import Derived.Test.YtdkfdmalbbfbmaaGreatMWL13
import Derived.Test.YtdkfdmalbbfbmaaGreatMWL33
import Derived.Test.YtdkfdmalbbfbmaaGreatMWL31
import Derived.WalkKit
import Derived.ProofKit
import Derived.OpenShut
import Derived.ShutString
import Derived.ChangeOld
import Derived.Below
import Derived.SizedLaws
import Derived.JoinedOf
import Derived.Carry
/- The row of the law VaultLasts: whatever the input, it comes to true, and the input reads as it did. It stands under the row's own conditions alone. -/
namespace Go.Proofs.YtdkfdmalbbfbmaaGreat.vaultLasts
open Go Go.ChangeShapes Go.WideShapes Go.ChangeAt Go.RowKit
theorem own : ownKnob Tryz.prog.godebug = Option.none := by kernel_rfl
theorem laidOut : laidOutB Tryz.prog = true := by kernel_rfl
set_option maxRecDepth 100000 in
theorem lifted (os : Os) (started : os.Started) (H : Type) (enc : TypeId × Value → H) :
    ReturnsInHanded {} Tryz.checked os 3 .any (Rows.vaultLastsSpec.pre6 enc Tryz.prog Tryz.f3 Rows.vaultLastsRow.domain false) (Rows.vaultLastsSpec.post enc Tryz.prog Tryz.f3 false true false false) := by
  refine returnsInHanded_of_change_sized (C := Tryz.checked) own started (by kernel_rfl) Tryz.func3
    (ChangeSpec.witness6 (enc := enc) (C := Tryz.checked) false ⟨#[], #[.int .u8 0, .int .u8 0, .slice Option.none 0 0, .slice Option.none 0 0], []⟩ 8 (by kernel_rfl) (by kernel_rfl) (by kernel_rfl) (by kernel_rfl)) ?_
  intro W base args ds gs before hval0 hW hcnd hsz0 _
  have hval : ∀ (j : Nat) t v, Tryz.f3.params[j]? = some t → args[j]? = some v → Value.okWide Tryz.prog W .any base t v := hval0
  have hW' := hW
  obtain ⟨p, q, hA0, hV, rfl, hfz, hnd⟩ := hW
  have hA : DataW.TrodAll enc Tryz.prog W 0 (fun _ => true) true Tryz.f3.params.toList args.toList ds p := hA0
  rw [Tryz.params3] at hA hval
  obtain ⟨v0, vs0, d0, ds0, p0, q0, hargs, rfl, rfl, h0, r0⟩ := trodAll_cons hA
  obtain ⟨v1, vs1, d1, ds1, p1, q1, rfl, rfl, rfl, h1, r1⟩ := trodAll_cons r0
  obtain ⟨v2, vs2, d2, ds2, p2, q2, rfl, rfl, rfl, h2, r2⟩ := trodAll_cons r1
  obtain ⟨v3, vs3, d3, ds3, p3, q3, rfl, rfl, rfl, h3, r3⟩ := trodAll_cons r2
  obtain ⟨rfl, rfl, rfl⟩ := trodAll_nil r3
  obtain rfl : args = #[v0, v1, v2, v3] := by cases args; simp_all
  obtain ⟨rfl, rfl⟩ := trodVars_none hV
  obtain ⟨x0, rfl, rfl, rfl, w0⟩ := open_int Tryz.underlying5 (hval 0 5 v0 rfl rfl) h0
  obtain ⟨x1, rfl, rfl, rfl, w1⟩ := open_int Tryz.underlying5 (hval 1 5 v1 rfl rfl) h1
  obtain ⟨a2, len2, cap2, rfl⟩ := okWide_slice Tryz.underlying22 (hval 2 22 v2 rfl rfl)
  have k2 := h2
  have lt2 : ∀ x ∈ p2, x.block < W.heap.size := by obtain ⟨m, hm⟩ := k2; exact DataW.trod_lt m _ _ _ hm
  obtain ⟨fuel2, hf2⟩ := h2
  obtain ⟨x2, ⟨u2, hu2, s2⟩, w2⟩ := (Dec.sl dec_op (by decide) Tryz.underlying22 (by kernel_rfl)).2 enc W fuel2 _ _ hf2
  have hu2 : [Value.slice a2 len2 cap2] = [u2] := hu2
  obtain rfl : Value.slice a2 len2 cap2 = u2 := (List.cons.inj hu2).1
  obtain ⟨a3, len3, cap3, rfl⟩ := okWide_slice Tryz.underlying23 (hval 3 23 v3 rfl rfl)
  have k3 := h3
  have lt3 : ∀ x ∈ p3, x.block < W.heap.size := by obtain ⟨m, hm⟩ := k3; exact DataW.trod_lt m _ _ _ hm
  obtain ⟨fuel3, hf3⟩ := h3
  obtain ⟨x3, ⟨u3, hu3, s3⟩, w3⟩ := (Dec.sl (Dec.bool Tryz.underlying4 (by kernel_rfl)) (by decide) Tryz.underlying23 (by kernel_rfl)).2 enc W fuel3 _ _ hf3
  have hu3 : [Value.slice a3 len3 cap3] = [u3] := hu3
  obtain rfl : Value.slice a3 len3 cap3 = u3 := (List.cons.inj hu3).1
  clear hA0 hval0 hsz0
  refine Calls.mono (ok_L3 (St.cold W) (x0 := x0) (x1 := x1) (x2 := x2) (x3 := x3) s2 s3 (p_L3 x0 x1 x2 x3 w0 w1 w2 w3)) fun e W' ⟨v, he, s', hw, t, hb⟩ => ?_
  subst hb
  subst he
  have bel : Below W.heap.size W W' := by rw [hw]; exact t.below
  exact ⟨_, rfl, _, _, _, [], _, [], hW', trodAll_mk1 (shut_bool Tryz.underlying4 _), (trodAll_cons_mk (shut_int Tryz.underlying5 w0) (trodAll_cons_mk (shut_int Tryz.underlying5 w1) (trodAll_cons_mk (Below.trod laidOut (by kernel_rfl) (of_decide_eq_true (by kernel_rfl)) k2 bel lt2) (trodAll_cons_mk (Below.trod laidOut (by kernel_rfl) (of_decide_eq_true (by kernel_rfl)) k3 bel lt3) trodAll_mk0)))), rfl, bel.frame _, fun h => by cases h⟩
theorem over : Rows.vaultLastsRow.holds Tryz.pinned (OpenSpec.ofChange Rows.vaultLastsSpec) :=
  OpenClaim.holds_of_wide 3 Tryz.f3 rfl rfl rfl rfl rfl rfl rfl ⟨rfl, rfl, rfl, rfl, rfl⟩ rfl rfl rfl rfl rfl (by kernel_rfl) Tryz.func3 (by kernel_rfl)
    (of_decide_eq_true (by kernel_rfl)) (by unfold Func.isWrapper; first | (rw [if_pos (by decide +kernel)]; kernel_rfl) | (rw [if_neg (by decide +kernel)]; exact ⟨rfl, rfl⟩))
    (fun os started H enc _ => lifted os started H enc)
end Go.Proofs.YtdkfdmalbbfbmaaGreat.vaultLasts
namespace Go.Proofs.YtdkfdmalbbfbmaaGreat
/-- The law VaultLasts holds of the given program. -/
theorem vaultLasts_holds : Rows.VaultLastsSaid := vaultLasts.over
#print axioms vaultLasts_holds
end Go.Proofs.YtdkfdmalbbfbmaaGreat

