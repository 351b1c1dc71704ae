/- Which sectors a device has written. -/
import Derived.Test.YtdkfdmalbbfbmaaC6
import Derived.Test.YtdkfdmalbbfbmaaC7
namespace Go.Proofs.Ytdkfdmalbbfbmaa
open Go Go.Maps
set_option maxRecDepth 4000

def dirty (wr : List (Option Sec)) : List Int := ((List.range wr.length).filter fun i => ((wr[i]?).join).isSome).map Int.ofNat
theorem mem_dirty {wr : List (Option Sec)} {x : Int} : x ∈ dirty wr ↔ (wAt wr x).isSome = true := by
  unfold dirty
  rw [List.mem_map]
  constructor
  · rintro ⟨i, hi, rfl⟩
    rw [List.mem_filter] at hi
    unfold wAt
    simpa using hi.2
  · intro h
    obtain ⟨h0, h1⟩ := wAt_lt h
    refine ⟨x.toNat, ?_, by show (Int.ofNat x.toNat) = x; simp; omega⟩
    rw [List.mem_filter, List.mem_range]
    unfold wAt at h
    rw [if_pos h0] at h
    exact ⟨h1, h⟩
theorem dirty_lt (wr : List (Option Sec)) : (dirty wr).Pairwise (· < ·) := by
  unfold dirty
  rw [List.pairwise_map]
  exact (List.pairwise_lt_range.filter _).imp fun {a b} h => by simpa using h
theorem dirty_nodup (wr : List (Option Sec)) : (dirty wr).Nodup := (dirty_lt wr).imp fun {a b} h e => by omega

theorem dirty_keys {w : World} {mb nn : Nat} {D : DataW Unit} {wr : List (Option Sec)} (h : w.ownsMap Try.prog 3 rA mb nn D) (hR : MapR D wr) {ss : List Int} (hp : ss.Perm (intKeys D)) : ss.mergeSort (fun x y => decide (x ≤ y)) = dirty wr := by
  have ht := h.tidy keyed
  obtain ⟨es, hes, hkeys⟩ := h.keysOf
  obtain ⟨es', hes', hpw⟩ := ht
  rw [hes] at hes'
  injection hes' with e
  subst e
  subst hes
  have hd : (dirty wr).Perm (intKeys (.map es)) := perm_intKeys hpw (fun p hp => by
      obtain ⟨v, hv⟩ := hkeys p hp
      obtain ⟨x, _, hx, _⟩ := Maps.keyOf_i64 Try.underlying3 hv
      exact ⟨x, hx⟩) (dirty_nodup wr) (fun x => by rw [mem_dirty, hR.hs x])
  have := mergeSort_of_perm_i (hp.trans hd.symm)
  rw [show (fun x y : Int => decide (x ≤ y)) = leI from rfl, this]
  exact List.mergeSort_of_pairwise ((dirty_lt wr).imp fun {a b} h => by simp [leI]; omega)

theorem sl_of_owns {k : IntKind} {s s' : St} {T : TypeId} {v : Value} {xs : List Int} (h : s'.w.ownsRow s.w.heap.size T 1 v xs.length (xs.map (Value.int k))) (hM : ∀ b, s.w.heap.size ≤ b → ¬ s'.M b) : Sl (kInt k) s' v xs := by
  obtain ⟨hl, ⟨rfl, h0⟩ | ⟨g, cap, cur, rfl, hB, hh, hc, hcm, hz, hx⟩⟩ := h
  · have : xs = [] := List.eq_nil_of_length_eq_zero h0
    subst this; exact Sl.nil
  · refine ⟨_, _, rfl, hc, nofun, .inr ⟨g, 0, _, rfl, hM g hB, (Array.getElem?_eq_some_iff.1 hh).1, Encs.ints, fun j u hu => ?_⟩⟩
    rw [Nat.zero_add]
    rw [← hx, List.getElem?_take] at hu
    split at hu
    · simpa [World.cell?, hh] using hu
    · cases hu

theorem ok_70 (s : St) {k : Nat} {b : Nat} {D : Disk} (hd : DiskAt k s b D) :
    Ok Try.prog 70 ([.pointer (some ⟨b, 0, none⟩)] : List Value).toArray s fun v s' => Tr No s s' ∧ Sl (kInt .i64) s' v (dirty D.wr) := by
  obtain ⟨h0, lv, mb, n1, n2, h1, h2, h3⟩ := hd
  refine ok_of (n := 11) _ Try.func70 rfl _ rfl rfl fun a E => ?_
  refine G_seq ?_
  refine G_region ?_
  refine sd E (o_as (E.ev rfl)) rfl rfl rfl fun a E => ?_
  refine GL_nil ?_
  refine tgn ?_
  refine G_seq ?_
  refine G_seq ?_
  refine G_region ?_
  refine sd E (o_mv (E.ev rfl)) rfl rfl rfl fun a E => ?_
  refine sd E (o_eqp Try.underlying24 (E.ev rfl) (E.ev rfl)) rfl rfl rfl fun a E => ?_
  refine GL_nil ?_
  refine tgn ?_
  refine G_cond (t := false) (E.ev rfl) nofun (fun _ => ?_)
  refine G_skip ?_
  refine tgn ?_
  refine G_seq ?_
  refine G_region ?_
  refine sd E (o_mv (E.ev rfl)) rfl rfl rfl fun a E => ?_
  refine sd E (o_nc (E.ev rfl)) rfl rfl rfl fun a E => ?_
  refine sd E (o_fa Try.underlying69 rfl Try.sizeOf67 (E.ev rfl)) rfl rfl rfl fun a E => ?_
  refine sd E (o_ld Try.isAgg67 (E.ev rfl) ((h1.cell _).trans rfl)) rfl rfl rfl fun a E => ?_
  have c85 : Ok Try.prog 85 ([.map (some mb)] : List Value).toArray s fun v s' => Tr No s s' ∧ ∃ bx, v = .func (.func 96) #[] #[.pointer (some ⟨bx, 0, none⟩)] ∧ s'.w.heap[bx]? = some (.cells #[.map (some mb)] 67 (0, 0)) :=
    Calls.mono (calls_85 (some mb) s.w) fun e w' ⟨he, hw⟩ => ⟨_, he, s.lay (.cells #[.map (some mb)] 67), hw, Tr.lay s _, _, rfl, heap_new _ _⟩
  refine sh E (o_ok Try.call85 (E.evs rfl) (E.ev rfl) c85) rfl rfl rfl ?_
  rintro a _ s1 ⟨t1, bx, rfl, hbx⟩ E
  obtain ⟨_, hlen, DD, hown, hR⟩ := h3.trN t1
  have htight := hR.tight hown
  have hsz : Maps.size DD ≤ 4096 := Nat.le_trans htight.size_le hlen
  have c84 : Ok Try.prog 84 ([.func (.func 96) #[] #[.pointer (some ⟨bx, 0, none⟩)]] : List Value).toArray s1 fun v s' => Tr No s1 s' ∧ Sl (kInt .i64) s' v (dirty D.wr) :=
    Calls.mono (calls_84 mb 4096 DD rA s1.w bx hown hbx (by unfold maxLen; omega) (by omega)) fun e w' ⟨v, ss, he, hp, hrow, _, hb⟩ => by
      have hx := Ext.of_below hb
      refine ⟨v, he, s1.ext w' hx, rfl, Tr.xt hx, ?_⟩
      have hk := dirty_keys hown hR hp
      have hlen2 : ss.length = (dirty D.wr).length := by rw [← hk, List.length_mergeSort]
      rw [hk, hlen2] at hrow
      exact sl_of_owns (s := s1) hrow fun b hb => by
        unfold St.M
        simp only [St.ext]
        intro hne
        have := s1.ok b hne
        omega
  refine sh E (o_ok Try.call84 (E.evs rfl) (E.ev rfl) c84) rfl rfl rfl ?_
  rintro a v s2 ⟨t2, h5⟩ E
  refine sd E (o_as (E.ev rfl)) rfl rfl rfl fun a E => ?_
  refine GL_nil ?_
  refine tgn ?_
  refine G_ret ?_
  exact fin1 E rfl rfl ⟨t1.trans t2, h5⟩
end Go.Proofs.Ytdkfdmalbbfbmaa
