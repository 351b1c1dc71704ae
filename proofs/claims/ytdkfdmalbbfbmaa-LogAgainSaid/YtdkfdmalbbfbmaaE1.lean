/- Contracts that were proved by hand, in the printer's form. -/
import Derived.Test.YtdkfdmalbbfbmaaE0
namespace Go.Proofs.Ytdkfdmalbbfbmaa
open Go Go.Maps
set_option maxRecDepth 4000

section
variable (s : St) {k kd bd b : Nat} {D D' : Disk} {L L' : LogM}
def mq_32 (D : Disk) : Option Int := some (D.lasts.length : Int)
theorem oq_32 (hd : DiskAt k s b D) {r : Int} (hm : mq_32 D = some r) :
    Ok Try.prog 32 ([.pointer (some ⟨b, 0, none⟩)] : List Value).toArray s fun v s' => Tr No s s' ∧ v = .int .i64 r := by
  cases hm; exact ok_32 s hd
theorem oq_14 (hd : DiskAt k s b D) {x1 : Int} {xs : Sec} {e : Int} (hm : m_14 D x1 = some (xs, e)) :
    Ok Try.prog 14 ([.pointer (some ⟨b, 0, none⟩), .int .i64 x1] : List Value).toArray s fun v s' => Tr No s s' ∧ v = .tuple #[eA .u64 xs, .int .i64 e] ∧ xs.length = 8 := ok_14 s hd hm
theorem oq_8 (kd : Nat) {x0 : Int} (hm : m_8 x0 = some D) :
    Ok Try.prog 8 ([.int .i64 x0] : List Value).toArray s fun v s' => Tr No s s' ∧ ∃ b, v = .pointer (some ⟨b, 0, none⟩) ∧ DiskAt kd s' b D := ok_8 s kd hm
def mq_60 (D : Disk) (i : Int) (xs : Sec) : Option (Int × Disk) := ob (m_60 D i xs) fun r => some (r.2, r.1)
theorem oq_60 (hd : DiskAt k s b D) {x1 : Int} {x2 : Sec} (hl : x2.length = 8) {e : Int} (hm : mq_60 D x1 x2 = some (e, D')) :
    Ok Try.prog 60 ([.pointer (some ⟨b, 0, none⟩), .int .i64 x1, eA .u64 x2] : List Value).toArray s fun v s' => Tr (Ws [k]) s s' ∧ v = .int .i64 e ∧ DiskAt k s' b D' := by
  obtain ⟨r, h1, h2⟩ := ob_some hm
  cases h2
  exact (ok_60 s hd hl h1).mono fun v s' ⟨a, b, c⟩ => ⟨b.w1, c, a⟩
theorem oq_51 (hd : DiskAt k s b D) (hm : m_51 D = some D') :
    Ok Try.prog 51 ([.pointer (some ⟨b, 0, none⟩)] : List Value).toArray s fun v s' => Tr (Ws [k]) s s' ∧ DiskAt k s' b D' :=
  (ok_51 s hd hm).mono fun v s' ⟨a, b⟩ => ⟨b.w1, a⟩
noncomputable def mq_33 (D : Disk) (f n : Int) : Option (List Int × Int) := ob (m_33 D f n) fun ws => some (ws, 0)
theorem oq_33 (hd : DiskAt k s b D) {x1 x2 : Int} {ws : List Int} {e : Int} (hm : mq_33 D x1 x2 = some (ws, e)) :
    Ok Try.prog 33 ([.pointer (some ⟨b, 0, none⟩), .int .i64 x1, .int .i64 x2] : List Value).toArray s fun v s' => Tr No s s' ∧ ∃ w2, v = .tuple #[w2, .int .i64 e] ∧ Sl kU s' w2 ws := by
  obtain ⟨r, h1, h2⟩ := ob_some hm
  cases h2
  exact ok_33 s hd h1
def mq_13 (L : LogM) : Option Int := some (room L)
theorem oq_13 (hd : LogAt k bd s b L) {r : Int} (hm : mq_13 L = some r) :
    Ok Try.prog 13 ([.pointer (some ⟨b, 0, none⟩)] : List Value).toArray s fun v s' => Tr No s s' ∧ v = .int .i64 r := by
  cases hm; exact ok_13 s hd
def mq_31 (L : LogM) : Option Int := some (L.words.length : Int)
theorem oq_31 (hd : LogAt k bd s b L) {r : Int} (hm : mq_31 L = some r) :
    Ok Try.prog 31 ([.pointer (some ⟨b, 0, none⟩)] : List Value).toArray s fun v s' => Tr No s s' ∧ v = .int .i64 r := by
  cases hm; exact ok_31 s hd
theorem oq_35 (hd : LogAt k bd s b L) (hD : DiskAt kd s bd D) {x1 : List Int} {w1 : Value} (h9 : Sl kU s w1 x1) (hne : k ≠ kd) (hm : m_35 L D x1 = some D') :
    Ok Try.prog 35 ([.pointer (some ⟨b, 0, none⟩), w1] : List Value).toArray s fun _ s' => Tr (Ws [kd]) s s' ∧ DiskAt kd s' bd D' :=
  (ok_35 s hne hd hD h9 hm).mono fun v s' ⟨a, b, c⟩ => ⟨c.w1, b⟩
noncomputable def mq_10 (L : LogM) (D : Disk) (F : Frame) : Option (Int × LogM × Disk) := ob (m_10 L D F) fun r => some (r.2.2, r.1, r.2.1)
theorem oq_10 (hd : LogAt k bd s b L) (hD : DiskAt kd s bd D) {x1 : Frame} {w1 : Value} (h9 : Sl kU s w1 x1.Words) (hne : k ≠ kd) {e : Int} (hm : mq_10 L D x1 = some (e, L', D')) :
    Ok Try.prog 10 ([.pointer (some ⟨b, 0, none⟩), .agg #[.int .i64 x1.Kind, w1]] : List Value).toArray s fun v s' => Tr (Ws [k, kd]) s s' ∧ v = .int .i64 e ∧ LogAt k bd s' b L' ∧ DiskAt kd s' bd D' := by
  obtain ⟨r, h1, h2⟩ := ob_some hm
  cases h2
  exact (ok_10 s hne hd hD h9 h1).mono fun v s' ⟨a, b, c, d⟩ => ⟨c.w2, d, a, b⟩
end
end Go.Proofs.Ytdkfdmalbbfbmaa
