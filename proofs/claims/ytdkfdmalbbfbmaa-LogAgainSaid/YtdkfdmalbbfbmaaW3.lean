/- The row of the law LogAgain: whatever the input, it comes to true, and the input reads as it did. It stands under the row's own conditions alone. -/
import Derived.Test.YtdkfdmalbbfbmaaRows
import Derived.Test.YtdkfdmalbbfbmaaR0
import Derived.Test.YtdkfdmalbbfbmaaQ8
import Derived.WalkKit
import Derived.ProofKit
import Derived.OpenShut
import Derived.ShutString
import Derived.ChangeOld
import Derived.Below
import Derived.SizedLaws
import Derived.JoinedOf
import Derived.Carry
namespace Go.Proofs.Ytdkfdmalbbfbmaa.logAgain
open Go Go.ChangeShapes Go.WideShapes Go.ChangeAt Go.RowKit
theorem own : ownKnob Try.prog.godebug = Option.none := by kernel_rfl
theorem laidOut : laidOutB Try.prog = true := by kernel_rfl
set_option maxRecDepth 100000 in
theorem lifted (os : Os) (started : os.Started) (H : Type) (enc : TypeId × Value → H) :
    ReturnsInHanded {} Try.checked os 3 .any (Rows.logAgainSpec.pre6 enc Try.prog Try.f3 Rows.logAgainRow.domain false) (Rows.logAgainSpec.post enc Try.prog Try.f3 false true false false) := by
  refine returnsInHanded_of_change_sized (C := Try.checked) own started (by kernel_rfl) Try.func3
    (ChangeSpec.witness6 (enc := enc) (C := Try.checked) false ⟨#[], #[.int .u8 0, .slice Option.none 0 0], []⟩ 8 (by kernel_rfl) (by kernel_rfl) (by kernel_rfl) (by kernel_rfl)) ?_
  intro W base args ds gs before hval0 hW hcnd hsz0 _
  have hval : ∀ (j : Nat) t v, Try.f3.params[j]? = some t → args[j]? = some v → Value.okWide Try.prog W .any base t v := hval0
  have hW' := hW
  obtain ⟨p, q, hA0, hV, rfl, hfz, hnd⟩ := hW
  have hA : DataW.TrodAll enc Try.prog W 0 (fun _ => true) true Try.f3.params.toList args.toList ds p := hA0
  rw [Try.params3] at hA hval
  obtain ⟨v0, vs0, d0, ds0, p0, q0, hargs, rfl, rfl, h0, r0⟩ := trodAll_cons hA
  obtain ⟨v1, vs1, d1, ds1, p1, q1, rfl, rfl, rfl, h1, r1⟩ := trodAll_cons r0
  obtain ⟨rfl, rfl, rfl⟩ := trodAll_nil r1
  obtain rfl : args = #[v0, v1] := by cases args; simp_all
  obtain ⟨rfl, rfl⟩ := trodVars_none hV
  obtain ⟨x0, rfl, rfl, rfl, w0⟩ := open_int Try.underlying5 (hval 0 5 v0 rfl rfl) h0
  obtain ⟨a1, len1, cap1, rfl⟩ := okWide_slice Try.underlying22 (hval 1 22 v1 rfl rfl)
  have k1 := h1
  have lt1 : ∀ x ∈ p1, x.block < W.heap.size := by obtain ⟨m, hm⟩ := k1; exact DataW.trod_lt m _ _ _ hm
  obtain ⟨fuel1, hf1⟩ := h1
  obtain ⟨x1, ⟨u1, hu1, s1⟩, w1⟩ := (Dec.sl (Dec.fr Try.underlying32 (by kernel_rfl) rfl rfl rfl rfl Try.underlying3 (by kernel_rfl) Try.underlying30 (by kernel_rfl) Try.underlying37 (by kernel_rfl)) (by decide) Try.underlying22 (by kernel_rfl)).2 enc W fuel1 _ _ hf1
  have hu1 : [Value.slice a1 len1 cap1] = [u1] := hu1
  obtain rfl : Value.slice a1 len1 cap1 = u1 := (List.cons.inj hu1).1
  clear hA0 hval0 hsz0
  refine Calls.mono (ok_3 (St.cold W) (x0 := x0) (x1 := x1) s1 (p_3 x0 x1 w0 w1)) fun e W' ⟨v, he, s', hw, t, hb⟩ => ?_
  subst hb
  subst he
  have bel : Below W.heap.size W W' := by rw [hw]; exact t.below
  exact ⟨_, rfl, _, _, _, [], _, [], hW', trodAll_mk1 (shut_bool Try.underlying4 _), (trodAll_cons_mk (shut_int Try.underlying5 w0) (trodAll_cons_mk (Below.trod laidOut (by kernel_rfl) (of_decide_eq_true (by kernel_rfl)) k1 bel lt1) trodAll_mk0)), rfl, bel.frame _, fun h => by cases h⟩
theorem over : Rows.logAgainRow.holds Try.pinned (OpenSpec.ofChange Rows.logAgainSpec) :=
  OpenClaim.holds_of_wide 3 Try.f3 rfl rfl rfl rfl rfl rfl rfl ⟨rfl, rfl, rfl, rfl, rfl⟩ rfl rfl rfl rfl rfl (by kernel_rfl) Try.func3 (by kernel_rfl)
    (of_decide_eq_true (by kernel_rfl)) (by unfold Func.isWrapper; first | (rw [if_pos (by decide +kernel)]; kernel_rfl) | (rw [if_neg (by decide +kernel)]; exact ⟨rfl, rfl⟩))
    (fun os started H enc _ => lifted os started H enc)
end Go.Proofs.Ytdkfdmalbbfbmaa.logAgain
namespace Go.Proofs.Ytdkfdmalbbfbmaa
/-- The law LogAgain holds of the given program. -/
theorem logAgain_holds : Rows.LogAgainSaid := logAgain.over
#print axioms logAgain_holds
end Go.Proofs.Ytdkfdmalbbfbmaa

