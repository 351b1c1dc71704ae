/- The row of the law LogLost: whatever the input, it comes to true, and the input reads as it did. It stands under the row's own conditions alone. -/
import Derived.Test.YtdkfdmalbbfbmaaRows
import Derived.Test.YtdkfdmalbbfbmaaMW413
import Derived.Test.YtdkfdmalbbfbmaaMW424
import Derived.Test.YtdkfdmalbbfbmaaMW421
import Derived.WalkKit
import Derived.ProofKit
import Derived.OpenShut
import Derived.ShutString
import Derived.ChangeOld
import Derived.Below
import Derived.SizedLaws
import Derived.JoinedOf
import Derived.Carry
/- The row of the law LogLost: whatever the input, it comes to true, and the input reads as it did. It stands under the row's own conditions alone. -/
namespace Go.Proofs.Ytdkfdmalbbfbmaa.logLost
open Go Go.ChangeShapes Go.WideShapes Go.ChangeAt Go.RowKit
theorem own : ownKnob Try.prog.godebug = Option.none := by kernel_rfl
theorem laidOut : laidOutB Try.prog = true := by kernel_rfl
set_option maxRecDepth 100000 in
theorem lifted (os : Os) (started : os.Started) (H : Type) (enc : TypeId × Value → H) :
    ReturnsInHanded {} Try.checked os 4 .any (Rows.logLostSpec.pre6 enc Try.prog Try.f4 Rows.logLostRow.domain false) (Rows.logLostSpec.post enc Try.prog Try.f4 false true false false) := by
  refine returnsInHanded_of_change_sized (C := Try.checked) own started (by kernel_rfl) Try.func4
    (ChangeSpec.witness6 (enc := enc) (C := Try.checked) false ⟨#[], #[.int .u8 0, .slice Option.none 0 0, .slice Option.none 0 0, .slice Option.none 0 0, .slice Option.none 0 0], []⟩ 8 (by kernel_rfl) (by kernel_rfl) (by kernel_rfl) (by kernel_rfl)) ?_
  intro W base args ds gs before hval0 hW hcnd hsz0 _
  have hval : ∀ (j : Nat) t v, Try.f4.params[j]? = some t → args[j]? = some v → Value.okWide Try.prog W .any base t v := hval0
  have hW' := hW
  obtain ⟨p, q, hA0, hV, rfl, hfz, hnd⟩ := hW
  have hA : DataW.TrodAll enc Try.prog W 0 (fun _ => true) true Try.f4.params.toList args.toList ds p := hA0
  rw [Try.params4] at hA hval
  obtain ⟨v0, vs0, d0, ds0, p0, q0, hargs, rfl, rfl, h0, r0⟩ := trodAll_cons hA
  obtain ⟨v1, vs1, d1, ds1, p1, q1, rfl, rfl, rfl, h1, r1⟩ := trodAll_cons r0
  obtain ⟨v2, vs2, d2, ds2, p2, q2, rfl, rfl, rfl, h2, r2⟩ := trodAll_cons r1
  obtain ⟨v3, vs3, d3, ds3, p3, q3, rfl, rfl, rfl, h3, r3⟩ := trodAll_cons r2
  obtain ⟨v4, vs4, d4, ds4, p4, q4, rfl, rfl, rfl, h4, r4⟩ := trodAll_cons r3
  obtain ⟨rfl, rfl, rfl⟩ := trodAll_nil r4
  obtain rfl : args = #[v0, v1, v2, v3, v4] := by cases args; simp_all
  obtain ⟨rfl, rfl⟩ := trodVars_none hV
  obtain ⟨x0, rfl, rfl, rfl, w0⟩ := open_int Try.underlying5 (hval 0 5 v0 rfl rfl) h0
  obtain ⟨a1, len1, cap1, rfl⟩ := okWide_slice Try.underlying22 (hval 1 22 v1 rfl rfl)
  have k1 := h1
  have lt1 : ∀ x ∈ p1, x.block < W.heap.size := by obtain ⟨m, hm⟩ := k1; exact DataW.trod_lt m _ _ _ hm
  obtain ⟨fuel1, hf1⟩ := h1
  obtain ⟨x1, ⟨u1, hu1, s1⟩, w1⟩ := (Dec.sl (Dec.fr Try.underlying32 (by kernel_rfl) rfl rfl rfl rfl Try.underlying3 (by kernel_rfl) Try.underlying30 (by kernel_rfl) Try.underlying37 (by kernel_rfl)) (by decide) Try.underlying22 (by kernel_rfl)).2 enc W fuel1 _ _ hf1
  have hu1 : [Value.slice a1 len1 cap1] = [u1] := hu1
  obtain rfl : Value.slice a1 len1 cap1 = u1 := (List.cons.inj hu1).1
  obtain ⟨a2, len2, cap2, rfl⟩ := okWide_slice Try.underlying22 (hval 2 22 v2 rfl rfl)
  have k2 := h2
  have lt2 : ∀ x ∈ p2, x.block < W.heap.size := by obtain ⟨m, hm⟩ := k2; exact DataW.trod_lt m _ _ _ hm
  obtain ⟨fuel2, hf2⟩ := h2
  obtain ⟨x2, ⟨u2, hu2, s2⟩, w2⟩ := (Dec.sl (Dec.fr Try.underlying32 (by kernel_rfl) rfl rfl rfl rfl Try.underlying3 (by kernel_rfl) Try.underlying30 (by kernel_rfl) Try.underlying37 (by kernel_rfl)) (by decide) Try.underlying22 (by kernel_rfl)).2 enc W fuel2 _ _ hf2
  have hu2 : [Value.slice a2 len2 cap2] = [u2] := hu2
  obtain rfl : Value.slice a2 len2 cap2 = u2 := (List.cons.inj hu2).1
  obtain ⟨a3, len3, cap3, rfl⟩ := okWide_slice Try.underlying44 (hval 3 44 v3 rfl rfl)
  have k3 := h3
  have lt3 : ∀ x ∈ p3, x.block < W.heap.size := by obtain ⟨m, hm⟩ := k3; exact DataW.trod_lt m _ _ _ hm
  obtain ⟨fuel3, hf3⟩ := h3
  obtain ⟨x3, ⟨u3, hu3, s3⟩, w3⟩ := (Dec.sl (Dec.bool Try.underlying4 (by kernel_rfl)) (by decide) Try.underlying44 (by kernel_rfl)).2 enc W fuel3 _ _ hf3
  have hu3 : [Value.slice a3 len3 cap3] = [u3] := hu3
  obtain rfl : Value.slice a3 len3 cap3 = u3 := (List.cons.inj hu3).1
  obtain ⟨a4, len4, cap4, rfl⟩ := okWide_slice Try.underlying44 (hval 4 44 v4 rfl rfl)
  have k4 := h4
  have lt4 : ∀ x ∈ p4, x.block < W.heap.size := by obtain ⟨m, hm⟩ := k4; exact DataW.trod_lt m _ _ _ hm
  obtain ⟨fuel4, hf4⟩ := h4
  obtain ⟨x4, ⟨u4, hu4, s4⟩, w4⟩ := (Dec.sl (Dec.bool Try.underlying4 (by kernel_rfl)) (by decide) Try.underlying44 (by kernel_rfl)).2 enc W fuel4 _ _ hf4
  have hu4 : [Value.slice a4 len4 cap4] = [u4] := hu4
  obtain rfl : Value.slice a4 len4 cap4 = u4 := (List.cons.inj hu4).1
  clear hA0 hval0 hsz0
  refine Calls.mono (ok_4 (St.cold W) (x0 := x0) (x1 := x1) (x2 := x2) (x3 := x3) (x4 := x4) s1 s2 s3 s4 (p_4 x0 x1 x2 x3 x4 w0 w1 w2 w3 w4)) fun e W' ⟨v, he, s', hw, t, hb⟩ => ?_
  subst hb
  subst he
  have bel : Below W.heap.size W W' := by rw [hw]; exact t.below
  exact ⟨_, rfl, _, _, _, [], _, [], hW', trodAll_mk1 (shut_bool Try.underlying4 _), (trodAll_cons_mk (shut_int Try.underlying5 w0) (trodAll_cons_mk (Below.trod laidOut (by kernel_rfl) (of_decide_eq_true (by kernel_rfl)) k1 bel lt1) (trodAll_cons_mk (Below.trod laidOut (by kernel_rfl) (of_decide_eq_true (by kernel_rfl)) k2 bel lt2) (trodAll_cons_mk (Below.trod laidOut (by kernel_rfl) (of_decide_eq_true (by kernel_rfl)) k3 bel lt3) (trodAll_cons_mk (Below.trod laidOut (by kernel_rfl) (of_decide_eq_true (by kernel_rfl)) k4 bel lt4) trodAll_mk0))))), rfl, bel.frame _, fun h => by cases h⟩
theorem over : Rows.logLostRow.holds Try.pinned (OpenSpec.ofChange Rows.logLostSpec) :=
  OpenClaim.holds_of_wide 4 Try.f4 rfl rfl rfl rfl rfl rfl rfl ⟨rfl, rfl, rfl, rfl, rfl⟩ rfl rfl rfl rfl rfl (by kernel_rfl) Try.func4 (by kernel_rfl)
    (of_decide_eq_true (by kernel_rfl)) (by unfold Func.isWrapper; first | (rw [if_pos (by decide +kernel)]; kernel_rfl) | (rw [if_neg (by decide +kernel)]; exact ⟨rfl, rfl⟩))
    (fun os started H enc _ => lifted os started H enc)
end Go.Proofs.Ytdkfdmalbbfbmaa.logLost
namespace Go.Proofs.Ytdkfdmalbbfbmaa
/-- The law LogLost holds of the given program. -/
theorem logLost_holds : Rows.LogLostSaid := logLost.over
#print axioms logLost_holds
end Go.Proofs.Ytdkfdmalbbfbmaa

