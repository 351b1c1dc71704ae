/- A new device. -/
import Derived.Test.YtdkfdmalbbfbmaaC4
import Derived.Laws.OwnMore
namespace Go.Proofs.Ytdkfdmalbbfbmaa
open Go Go.Maps
set_option maxRecDepth 4000

section
variable {α : Type} {K : Kd α} {P : Program} {s : St} {κ : Tg} {ρ : Operand → Value} {d : Option Nat} {g : Option (Nat × Bool)} {t : Nat} {pos : String} {af : Array Edge} {x y : Operand} {T e B by_ : Nat} {c0 : Value} {q : α}
theorem Encs.rep (h : K.R s (List.replicate K.sz c0) q) : ∀ n, Encs K s (List.replicate n q) (List.replicate (n * K.sz) c0)
  | 0 => by simp; exact rfl
  | n + 1 => ⟨List.replicate K.sz c0, List.replicate (n * K.sz) c0, by rw [List.replicate_append_replicate]; congr 1; rw [Nat.add_mul]; omega, h, Encs.rep h n⟩
theorem made_rep {m : Nat} (hm : 0 < m) (n : Nat) : (madeCells (List.replicate m c0).toArray n).toList = List.replicate n c0 := by
  apply List.ext_getElem?
  intro i
  by_cases hi : i < n
  · have h2 : i % m < m := Nat.mod_lt _ hm
    simp [madeCells, hi, h2]
  · simp [madeCells, hi]
/-- n zeros, one's own. -/
theorem o_ms (κ : Tg) {i : TypeInfo} {n : Int} {k k' : IntKind} (hT : P.underlying T = some (.slice e)) (hi : P.info? e = some i) (hz : i.zero = some (.agg (List.replicate K.sz c0).toArray)) (hsz : i.size = K.sz) (hpos : Nat.ble 1 K.sz = true) (hby : i.bytes = by_)
    (hq : ∀ s, K.R s (List.replicate K.sz c0) q) (hx : ρ x = .int k n) (hy : ρ y = .int k' n) (h0 : 0 ≤ n) (h1 : n ≤ 4096) (hb : Nat.ble by_ 4096 = true) (hB : B ≤ s.w.heap.size) :
    Hv P ⟨d, .makeSlice T x y, t, pos, af, g⟩ ρ s fun v s' => Bd κ K e B s' v (List.replicate n.toNat q) ∧ Tr No s s' := by
  have hb' := Nat.le_of_ble_eq_true hb
  have hmul : (i.bytes : Int) * n ≤ 281474976710656 := by
    rw [hby]
    have : (by_ : Int) * n ≤ 4096 * 4096 := Int.mul_le_mul (by omega) h1 h0 (by omega)
    omega
  have hr := run_make (P := P) s.w T e i _ hT hi hz k k' n n h0 (Int.le_refl _) hmul (by omega)
  rw [hsz] at hr
  have hown := (Own.new s (madeCells (List.replicate K.sz c0).toArray (n.toNat * K.sz)) e κ).bd (K := K) (xs := List.replicate n.toNat q) (m := n.toNat) hB (by
    rw [made_rep (Nat.le_of_ble_eq_true hpos)]; exact Encs.rep (hq _) _) (by simp) (by
    have : n.toNat ≤ 4294967296 := by omega
    exact Nat.ble_eq_true_of_le this)
  exact hvo (s.new _ κ) (OpTo_value (by intro c h; cases h) (by
    simp only [execOp, hx, hy]
    exact run_v' _ hr)) ⟨hown, Tr.new s _ κ⟩
end

def m_8 (n : Int) : Option Disk := bif decide (n < 1) then none else bif decide (n > 4096) then none else some ⟨List.replicate n.toNat Z8, List.replicate n.toNat none⟩
theorem ok_8 (s : St) (kd : Nat) {n : Int} {D : Disk} (hm : m_8 n = some D) :
    Ok Try.prog 8 ([.int .i64 n] : List Value).toArray s fun v s' => Tr No s s' ∧ ∃ b, v = .pointer (some ⟨b, 0, none⟩) ∧ DiskAt kd s' b D := by
  unfold m_8 at hm
  refine ok_of (n := 14) _ Try.func8 rfl _ rfl rfl fun a E => ?_
  cases h1 : decide (n < 1) with
  | true => rw [h1] at hm; cases hm
  | false =>
  cases h2 : decide (n > 4096) with
  | true => rw [h1, h2] at hm; cases hm
  | false =>
  rw [h1, h2] at hm
  have hm : some _ = some D := hm
  obtain rfl := Option.some.inj hm
  have p1 : ¬ n < 1 := by simpa using h1
  have p2 : ¬ n > 4096 := by simpa using h2
  refine G_seq ?_
  refine G_region ?_
  refine sd E (o_as (E.ev rfl)) rfl rfl rfl fun a E => ?_
  refine GL_nil ?_
  refine tgn ?_
  refine G_seq ?_
  refine G_seq ?_
  refine G_region ?_
  refine sd E (o_mv (E.ev rfl)) rfl rfl rfl fun a E => ?_
  refine sd E (o_bi (E.ev rfl) (E.ev rfl) rfl) rfl rfl rfl fun a E => ?_
  rw [h1] at E
  refine sd E (o_mv (E.ev rfl)) rfl rfl rfl fun a E => ?_
  refine sd E (o_mv (E.ev rfl)) rfl rfl rfl fun a E => ?_
  refine sd E (o_bi (E.ev rfl) (E.ev rfl) rfl) rfl rfl rfl fun a E => ?_
  rw [h2] at E
  refine sd E (o_pickF (E.ev rfl) (E.ev rfl)) rfl rfl rfl fun a E => ?_
  refine GL_nil ?_
  refine tgn ?_
  refine G_cond (t := false) (E.ev rfl) nofun (fun _ => ?_)
  refine G_skip ?_
  refine tgn ?_
  refine G_seq ?_
  refine G_region ?_
  refine sd E (o_mv (E.ev rfl)) rfl rfl rfl fun a E => ?_
  refine sh E (o_ms (kd, 1) (K := kA8) (c0 := .int .u64 0) (q := Z8) (B := 0) Try.underlying66 Try.type38 rfl rfl rfl rfl (fun s => ⟨rfl, rfl⟩) (E.ev rfl) (E.ev rfl) (by omega) (by omega) rfl (Nat.zero_le _)) rfl rfl rfl ?_
  rintro a lv s1 ⟨h3, t1⟩ E
  refine sh E (o_mk (kd, 2) (n := n.toNat) (by omega)) rfl rfl rfl ?_
  rintro a _ s2 ⟨mb, rfl, h4, t2⟩ E
  obtain ⟨a3, c3, rfl⟩ := h3.isS
  refine sd E (o_bd (places := #[(0, 1), (1, 1), (2, 1), (3, 1)]) Try.zeroValue69 Try.underlying69 (fun w => by simp [Sem.run_bind, Result.andThen, Try.sizeOf66, Try.sizeOf67, Try.sizeOf2]) (qs := #[(0, .slice a3 (List.replicate n.toNat Z8).length c3), (1, .map (some mb))]) (by simp only [List.map_toArray, List.map_cons, List.map_nil, E.ev (x := .tmp 10) rfl, E.ev (x := .tmp 11) rfl]) rfl) rfl rfl rfl fun a E => ?_
  refine sh E (o_boxo (kd, 0) (E.ev rfl)) rfl rfl rfl ?_
  rintro a _ s3 ⟨b, rfl, o3, t3⟩ E
  refine sd E (o_as (E.ev rfl)) rfl rfl rfl fun a E => ?_
  refine GL_nil ?_
  refine tgn ?_
  refine G_ret ?_
  exact fin1 E rfl rfl ⟨(t1.trans t2).trans t3, b, rfl, by simp, _, mb, 0, 0, o3, (h3.trN t2).trN t3, h4.trN t3⟩
end Go.Proofs.Ytdkfdmalbbfbmaa
