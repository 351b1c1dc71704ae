/- Plain laws: integers that fit, loops that count. No program. -/
import Derived.Test.YtdkfdmalbbfbmaaE2
namespace Go.Proofs.Ytdkfdmalbbfbmaa
open Go

theorem wi64 {x : Int} (h0 : -9223372036854775808 ≤ x) (h1 : x < 9223372036854775808) : IntKind.wrap .i64 x = x := by
  simp only [IntKind.wrap, IntKind.signed, IntKind.bits]
  simp
  omega
theorem wu64 {x : Int} (h0 : 0 ≤ x) (h1 : x < 18446744073709551616) : IntKind.wrap .u64 x = x := by
  simp only [IntKind.wrap, IntKind.signed, IntKind.bits]
  simp
  omega
theorem wu32 {x : Int} (h0 : 0 ≤ x) (h1 : x < 4294967296) : IntKind.wrap .u32 x = x := by
  simp only [IntKind.wrap, IntKind.signed, IntKind.bits]
  simp
  omega
theorem wu8 (x : Int) : IntKind.wrap .u8 x = x % 256 := by
  simp only [IntKind.wrap, IntKind.signed, IntKind.bits]
  simp
theorem wu32m (x : Int) : IntKind.wrap .u32 x = x % 4294967296 := by
  simp only [IntKind.wrap, IntKind.signed, IntKind.bits]
  simp
theorem wu64m (x : Int) : IntKind.wrap .u64 x = x % 18446744073709551616 := by
  simp only [IntKind.wrap, IntKind.signed, IntKind.bits]
  simp
@[simp] theorem ob_s {α β : Type} (a : α) (f : α → Option β) : ob (some a) f = f a := rfl
@[simp] theorem ob_n {α β : Type} (f : α → Option β) : ob none f = none := rfl
@[simp] theorem gd_t {β : Type} (A : Option β) : gd true A = A := rfl
theorem ap_eq {α : Type} {xs ys : List α} (h : xs.length + ys.length < 4294967296) : ap xs ys = some (xs ++ ys) := by
  unfold ap
  rw [show Nat.blt (xs.length + ys.length) 4294967296 = true from Nat.ble_eq_true_of_le h]; rfl
theorem gt_eq {α : Type} {xs : List α} {i : Nat} (h : i < xs.length) : gt xs (i : Int) = some xs[i] := by
  unfold gt
  simp [h]
theorem gt_at {α : Type} {xs : List α} {i : Nat} {x : α} (h : xs[i]? = some x) : gt xs (i : Int) = some x := by
  unfold gt
  simp [h]
theorem sl_eq {α : Type} {xs : List α} {l h : Nat} (h1 : l ≤ h) (h2 : h ≤ xs.length) : sl xs (l : Int) (h : Int) = some ((xs.take h).drop l) := by
  unfold sl
  simp [h1, h2]
theorem sl_from {α : Type} {xs : List α} {l : Nat} (h1 : l ≤ xs.length) : sl xs (l : Int) (xs.length : Int) = some (xs.drop l) := by
  rw [sl_eq h1 (Nat.le_refl _), List.take_length]

section
variable {σ ρ : Type} {f : σ → Option (Lo σ ρ)} {s s' : σ} {r : ρ}
theorem loopO_next (h : f s = some (.inl s')) : loopO f s = loopO f s' := by rw [loopO_eq, h]
theorem loopO_end (h : f s = some (.inr r)) : loopO f s = some r := by rw [loopO_eq, h]
theorem loopO_steps (S : Nat → σ) (n : Nat) (h : ∀ i, i < n → f (S i) = some (.inl (S (i + 1)))) : loopO f (S 0) = loopO f (S n) := by
  induction n with
  | zero => rfl
  | succ n ih => rw [ih (fun i hi => h i (by omega)), loopO_next (h n (by omega))]
/-- A loop that counts to n. -/
theorem loopO_count (S : Nat → σ) (n : Nat) (h : ∀ i, i < n → f (S i) = some (.inl (S (i + 1)))) (he : f (S n) = some (.inr r)) : loopO f (S 0) = some r := by
  rw [loopO_steps S n h, loopO_end he]
end
end Go.Proofs.Ytdkfdmalbbfbmaa
