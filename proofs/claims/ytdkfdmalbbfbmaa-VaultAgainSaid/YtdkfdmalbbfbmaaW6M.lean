/- The row of the law VaultAgain: whatever the input, it comes to true, and the input reads as it did. It stands under the row's own conditions alone. -/
import Derived.Test.YtdkfdmalbbfbmaaRows
import Derived.Test.YtdkfdmalbbfbmaaMW613
import Derived.Test.YtdkfdmalbbfbmaaMW634
import Derived.Test.YtdkfdmalbbfbmaaMW632
import Derived.WalkKit
import Derived.ProofKit
import Derived.OpenShut
import Derived.ShutString
import Derived.ChangeOld
import Derived.Below
import Derived.SizedLaws
import Derived.JoinedOf
import Derived.Carry
/- The row of the law VaultAgain: whatever the input, it comes to true, and the input reads as it did. It stands under the row's own conditions alone. -/
namespace Go.Proofs.Ytdkfdmalbbfbmaa.vaultAgain
open Go Go.ChangeShapes Go.WideShapes Go.ChangeAt Go.RowKit
theorem own : ownKnob Try.prog.godebug = Option.none := by kernel_rfl
theorem laidOut : laidOutB Try.prog = true := by kernel_rfl
set_option maxRecDepth 100000 in
theorem lifted (os : Os) (started : os.Started) (H : Type) (enc : TypeId × Value → H) :
    ReturnsInHanded {} Try.checked os 6 .any (Rows.vaultAgainSpec.pre6 enc Try.prog Try.f6 Rows.vaultAgainRow.domain false) (Rows.vaultAgainSpec.post enc Try.prog Try.f6 false true false false) := by
  refine returnsInHanded_of_change_sized (C := Try.checked) own started (by kernel_rfl) Try.func6
    (ChangeSpec.witness6 (enc := enc) (C := Try.checked) false ⟨#[], #[.int .u8 0, .int .u8 0, .slice Option.none 0 0], []⟩ 8 (by kernel_rfl) (by kernel_rfl) (by kernel_rfl) (by kernel_rfl)) ?_
  intro W base args ds gs before hval0 hW hcnd hsz0 _
  have hval : ∀ (j : Nat) t v, Try.f6.params[j]? = some t → args[j]? = some v → Value.okWide Try.prog W .any base t v := hval0
  have hW' := hW
  obtain ⟨p, q, hA0, hV, rfl, hfz, hnd⟩ := hW
  have hA : DataW.TrodAll enc Try.prog W 0 (fun _ => true) true Try.f6.params.toList args.toList ds p := hA0
  rw [Try.params6] at hA hval
  obtain ⟨v0, vs0, d0, ds0, p0, q0, hargs, rfl, rfl, h0, r0⟩ := trodAll_cons hA
  obtain ⟨v1, vs1, d1, ds1, p1, q1, rfl, rfl, rfl, h1, r1⟩ := trodAll_cons r0
  obtain ⟨v2, vs2, d2, ds2, p2, q2, rfl, rfl, rfl, h2, r2⟩ := trodAll_cons r1
  obtain ⟨rfl, rfl, rfl⟩ := trodAll_nil r2
  obtain rfl : args = #[v0, v1, v2] := by cases args; simp_all
  obtain ⟨rfl, rfl⟩ := trodVars_none hV
  obtain ⟨x0, rfl, rfl, rfl, w0⟩ := open_int Try.underlying5 (hval 0 5 v0 rfl rfl) h0
  obtain ⟨x1, rfl, rfl, rfl, w1⟩ := open_int Try.underlying5 (hval 1 5 v1 rfl rfl) h1
  obtain ⟨a2, len2, cap2, rfl⟩ := okWide_slice Try.underlying58 (hval 2 58 v2 rfl rfl)
  have k2 := h2
  have lt2 : ∀ x ∈ p2, x.block < W.heap.size := by obtain ⟨m, hm⟩ := k2; exact DataW.trod_lt m _ _ _ hm
  obtain ⟨fuel2, hf2⟩ := h2
  obtain ⟨x2, ⟨u2, hu2, s2⟩, w2⟩ := (Dec.sl dec_op (by decide) Try.underlying58 (by kernel_rfl)).2 enc W fuel2 _ _ hf2
  have hu2 : [Value.slice a2 len2 cap2] = [u2] := hu2
  obtain rfl : Value.slice a2 len2 cap2 = u2 := (List.cons.inj hu2).1
  clear hA0 hval0 hsz0
  refine Calls.mono (ok_6 (St.cold W) (x0 := x0) (x1 := x1) (x2 := x2) s2 (p_6 x0 x1 x2 w0 w1 w2)) fun e W' ⟨v, he, s', hw, t, hb⟩ => ?_
  subst hb
  subst he
  have bel : Below W.heap.size W W' := by rw [hw]; exact t.below
  exact ⟨_, rfl, _, _, _, [], _, [], hW', trodAll_mk1 (shut_bool Try.underlying4 _), (trodAll_cons_mk (shut_int Try.underlying5 w0) (trodAll_cons_mk (shut_int Try.underlying5 w1) (trodAll_cons_mk (Below.trod laidOut (by kernel_rfl) (of_decide_eq_true (by kernel_rfl)) k2 bel lt2) trodAll_mk0))), rfl, bel.frame _, fun h => by cases h⟩
theorem over : Rows.vaultAgainRow.holds Try.pinned (OpenSpec.ofChange Rows.vaultAgainSpec) :=
  OpenClaim.holds_of_wide 6 Try.f6 rfl rfl rfl rfl rfl rfl rfl ⟨rfl, rfl, rfl, rfl, rfl⟩ rfl rfl rfl rfl rfl (by kernel_rfl) Try.func6 (by kernel_rfl)
    (of_decide_eq_true (by kernel_rfl)) (by unfold Func.isWrapper; first | (rw [if_pos (by decide +kernel)]; kernel_rfl) | (rw [if_neg (by decide +kernel)]; exact ⟨rfl, rfl⟩))
    (fun os started H enc _ => lifted os started H enc)
end Go.Proofs.Ytdkfdmalbbfbmaa.vaultAgain
namespace Go.Proofs.Ytdkfdmalbbfbmaa
/-- The law VaultAgain holds of the given program. -/
theorem vaultAgain_holds : Rows.VaultAgainSaid := vaultAgain.over
#print axioms vaultAgain_holds
end Go.Proofs.Ytdkfdmalbbfbmaa

