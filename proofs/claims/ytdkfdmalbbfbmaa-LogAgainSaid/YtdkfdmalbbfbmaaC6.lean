/- The keys of a map, sorted: off the shelf. -/
import Derived.Test.YtdkfdmalbbfbmaaC5
import Derived.Shelf.SlIterI.Nil
import Derived.Shelf.SortM.Plain
import Derived.Shelf.SortM.SortNone
import Derived.Ground.GgzProg
import Derived.Ground.SlgmProg
namespace Go.Proofs.Ytdkfdmalbbfbmaa
open Go Go.RowKit Go.Maps Go.Sort Go.Shelf
set_option maxRecDepth 4000

shelf_lay_g SlLaysZI.n7 Ggz 7 at Try 85 as Try.keysA
shelf_lay_g SlLaysZI.n6 Ggz 6 at Try 84 as Try.sortedA
shelf_lay_g SlLaysM.n5 Slgm 5 at Try 95 as Try.sortA

theorem sortsA (m : Nat) : AnyZI.SortsIn Try.prog Try.sortedA_ren Fence.wide m :=
  ⟨fun blk off cap ss W hH hblk hsz => callsIn_wide.2 (AnyM.slices_Sort_int Try.sortA blk off cap ss W hH hblk hsz),
   fun p cap W => callsIn_wide.2 (AnyM.slices_Sort_int_none Try.sortA p cap W)⟩

theorem calls_85 (mb : Option Nat) (W : World) : Calls Try.prog 85 #[.map mb] W fun e w' => e = .returned (.func (.func 96) #[] #[.pointer (some ⟨W.heap.size, 0, none⟩)]) ∧ w' = W.alloc (.cells #[.map mb] 67) :=
  callsIn_wide.1 (AnyZI.keys_in Try.keysA Fence.wide 5 trivial rfl mb W)

set_option maxHeartbeats 1000000 in
theorem calls_84 {H : Type} (b nn : Nat) (D0 : DataW H) (R : Value → Option (DataW H × List MemPlace)) (w : World) (bx : Nat) (hown : w.ownsMap Try.prog 3 R b nn D0) (hbx : w.heap[bx]? = some (.cells #[.map (some b)] 67 (0, 0))) (hmax : Maps.size D0 ≤ maxLen) (hbytes : Maps.size D0 * 8 ≤ 140737488355328) :
    Calls Try.prog 84 #[.func (.func 96) #[] #[.pointer (some ⟨bx, 0, none⟩)]] w fun e w' => ∃ (v : Value) (ss : List Int), e = .returned v ∧ ss.Perm (intKeys D0) ∧
      w'.ownsRow w.heap.size 3 1 v ss.length ((ss.mergeSort (fun x y => decide (x ≤ y))).map encZ) ∧ (v = .slice none 0 0 ↔ ss = []) ∧ Below w.heap.size w w' := by
  refine (callsIn_wide (n := 5)).1 ?_
  have hbl := hown.lt
  have hseq : SeqGives Fence.wide 2 Try.prog 96 #[.pointer (some ⟨bx, 0, none⟩)] encZ (fun ss => ss.Perm (intKeys D0)) (Maps.size D0) w :=
    AnyZI.keys_gives (ρ := Try.keysA_ren) { Try.keysA with } Fence.wide _ trivial rfl (by omega) bx b nn D0 _ (by have := (Array.getElem?_eq_some_iff.1 hbx).1; omega) (by simp [World.cell?, hbx]) (by
      obtain ⟨es, clock, hb, Ft, hs, hD⟩ := hown
      exact ⟨es, clock, hb, Ft, hs, hD⟩)
  have cS := AnyZI.sorted_in Try.sortedA Fence.wide 5 trivial trivial trivial trivial rfl (by omega) (sortsA _) (enters_of Try.func95 (by kernel_rfl) rfl) 96 #[.pointer (some ⟨bx, 0, none⟩)] trivial (enters_of Try.func96 (by kernel_rfl) rfl) _ _ hmax hbytes _ hseq
  change CallsIn _ _ Try.prog 84 _ _ _ at cS
  refine cS.mono ?_
  rintro e w' ⟨v, ss, rfl, hS, hrow, hnil, hb⟩
  exact ⟨v, ss, rfl, hS, hrow, hnil, hb⟩
end Go.Proofs.Ytdkfdmalbbfbmaa
