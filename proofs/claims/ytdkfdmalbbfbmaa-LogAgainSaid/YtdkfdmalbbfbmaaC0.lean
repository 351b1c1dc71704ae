/- The kinds of data of this program. -/
import Derived.Test.YtdkfdmalbbfbmaaB6
import Derived.Test.YtdkfdmalbbfbmaaRows
namespace Go.Proofs.Ytdkfdmalbbfbmaa
open Go

structure Frame where
  Kind : Int
  Words : List Int

abbrev kU : Kd Int := kInt .u64
def kFr : Kd Frame where
  sz := 2
  R s cs F := ∃ w, cs = [.int .i64 F.Kind, w] ∧ Sl kU s w F.Words
  len := by rintro s cs x ⟨w, rfl, _⟩; rfl
  one := by
    rintro s cs x ⟨w, rfl, h⟩ u hu
    obtain ⟨a, c, rfl⟩ := h.isS
    simp at hu
    rcases hu with rfl | rfl <;> rfl
  up := by rintro s s' cs x ⟨w, rfl, h⟩ hl; exact ⟨w, rfl, h.up hl⟩
theorem At.fr {s : St} {b o : Nat} {F : Frame} (h : At kFr s ⟨b, o, none⟩ F) : ∃ w, s.w.cell? ⟨b, o, none⟩ = some (.int .i64 F.Kind) ∧ s.w.cell? ⟨b, o + 1, none⟩ = some w ∧ Sl kU s w F.Words := by
  obtain ⟨_, _, _, cs, ⟨w, rfl, hw⟩, hc⟩ := h
  exact ⟨w, hc 0 _ rfl, hc 1 _ rfl, hw⟩
end Go.Proofs.Ytdkfdmalbbfbmaa
