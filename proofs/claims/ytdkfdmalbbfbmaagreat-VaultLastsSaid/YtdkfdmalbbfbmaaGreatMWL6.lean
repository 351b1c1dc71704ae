/- A new device. -/
import Derived.Test.YtdkfdmalbbfbmaaGreatMWL5
import Derived.Laws.OwnMore
import Derived.Shelf.SlIterI.Nil
import Derived.Shelf.SortM.Plain
import Derived.Shelf.SortM.SortNone
import Derived.Ground.GgzProg
import Derived.Ground.SlgmProg
/- A new device. -/
namespace Go.Proofs.YtdkfdmalbbfbmaaGreat
open Go Go.Maps
set_option maxRecDepth 4000

section
variable {α : Type} {K : Kd α} {P : Program} {s : St} {κ : Tg} {ρ : Operand → Value} {d : Option Nat} {g : Option (Nat × Bool)} {t : Nat} {pos : String} {af : Array Edge} {x y : Operand} {T e B by_ : Nat} {c0 : Value} {q : α}
theorem Encs.rep (h : K.R s (List.replicate K.sz c0) q) : ∀ n, Encs K s (List.replicate n q) (List.replicate (n * K.sz) c0)
  | 0 => by simp; exact rfl
  | n + 1 => ⟨List.replicate K.sz c0, List.replicate (n * K.sz) c0, by rw [List.replicate_append_replicate]; congr 1; rw [Nat.add_mul]; omega, h, Encs.rep h n⟩
theorem made_rep {m : Nat} (hm : 0 < m) (n : Nat) : (madeCells (List.replicate m c0).toArray n).toList = List.replicate n c0 := by
  apply List.ext_getElem?
  intro i
  by_cases hi : i < n
  · have h2 : i % m < m := Nat.mod_lt _ hm
    simp [madeCells, hi, h2]
  · simp [madeCells, hi]
/-- n zeros, one's own. -/
theorem o_ms (κ : Tg) {i : TypeInfo} {n : Int} {k k' : IntKind} (hT : P.underlying T = some (.slice e)) (hi : P.info? e = some i) (hz : i.zero = some (.agg (List.replicate K.sz c0).toArray)) (hsz : i.size = K.sz) (hpos : Nat.ble 1 K.sz = true) (hby : i.bytes = by_)
    (hq : ∀ s, K.R s (List.replicate K.sz c0) q) (hx : ρ x = .int k n) (hy : ρ y = .int k' n) (h0 : 0 ≤ n) (h1 : n ≤ 4096) (hb : Nat.ble by_ 4096 = true) (hB : B ≤ s.w.heap.size) :
    Hv P ⟨d, .makeSlice T x y, t, pos, af, g⟩ ρ s fun v s' => Bd κ K e B s' v (List.replicate n.toNat q) ∧ Tr No s s' := by
  have hb' := Nat.le_of_ble_eq_true hb
  have hmul : (i.bytes : Int) * n ≤ 281474976710656 := by
    rw [hby]
    have : (by_ : Int) * n ≤ 4096 * 4096 := Int.mul_le_mul (by omega) h1 h0 (by omega)
    omega
  have hr := run_make (P := P) s.w T e i _ hT hi hz k k' n n h0 (Int.le_refl _) hmul (by omega)
  rw [hsz] at hr
  have hown := (Own.new s (madeCells (List.replicate K.sz c0).toArray (n.toNat * K.sz)) e κ).bd (K := K) (xs := List.replicate n.toNat q) (m := n.toNat) hB (by
    rw [made_rep (Nat.le_of_ble_eq_true hpos)]; exact Encs.rep (hq _) _) (by simp) (by
    have : n.toNat ≤ 4294967296 := by omega
    exact Nat.ble_eq_true_of_le this)
  exact hvo (s.new _ κ) (OpTo_value (by intro c h; cases h) (by
    simp only [execOp, hx, hy]
    exact run_v' _ hr)) ⟨hown, Tr.new s _ κ⟩
end

def m_8 (n : Int) : Option Disk := bif decide (n < 1) then none else bif decide (n > 4096) then none else some ⟨List.replicate n.toNat Z8, List.replicate n.toNat none⟩
theorem ok_8 (s : St) (kd : Nat) {n : Int} {D : Disk} (hm : m_8 n = some D) :
    Ok Tryz.prog 5 ([.int .i64 n] : List Value).toArray s fun v s' => Tr No s s' ∧ ∃ b, v = .pointer (some ⟨b, 0, none⟩) ∧ DiskAt kd s' b D := by
  unfold m_8 at hm
  refine ok_of (n := 14) _ Tryz.func5 rfl _ rfl rfl fun a E => ?_
  cases h1 : decide (n < 1) with
  | true => rw [h1] at hm; cases hm
  | false =>
  cases h2 : decide (n > 4096) with
  | true => rw [h1, h2] at hm; cases hm
  | false =>
  rw [h1, h2] at hm
  have hm : some _ = some D := hm
  obtain rfl := Option.some.inj hm
  have p1 : ¬ n < 1 := by simpa using h1
  have p2 : ¬ n > 4096 := by simpa using h2
  refine G_seq ?_
  refine G_region ?_
  refine sd E (o_as (E.ev rfl)) rfl rfl rfl fun a E => ?_
  refine GL_nil ?_
  refine tgn ?_
  refine G_seq ?_
  refine G_seq ?_
  refine G_region ?_
  refine sd E (o_mv (E.ev rfl)) rfl rfl rfl fun a E => ?_
  refine sd E (o_bi (E.ev rfl) (E.ev rfl) rfl) rfl rfl rfl fun a E => ?_
  rw [h1] at E
  refine sd E (o_mv (E.ev rfl)) rfl rfl rfl fun a E => ?_
  refine sd E (o_mv (E.ev rfl)) rfl rfl rfl fun a E => ?_
  refine sd E (o_bi (E.ev rfl) (E.ev rfl) rfl) rfl rfl rfl fun a E => ?_
  rw [h2] at E
  refine sd E (o_pickF (E.ev rfl) (E.ev rfl)) rfl rfl rfl fun a E => ?_
  refine GL_nil ?_
  refine tgn ?_
  refine G_cond (t := false) (E.ev rfl) nofun (fun _ => ?_)
  refine G_skip ?_
  refine tgn ?_
  refine G_seq ?_
  refine G_region ?_
  refine sd E (o_mv (E.ev rfl)) rfl rfl rfl fun a E => ?_
  refine sh E (o_ms (kd, 1) (K := kA8) (c0 := .int .u64 0) (q := Z8) (B := 0) Tryz.underlying60 Tryz.type40 rfl rfl rfl rfl (fun s => ⟨rfl, rfl⟩) (E.ev rfl) (E.ev rfl) (by omega) (by omega) rfl (Nat.zero_le _)) rfl rfl rfl ?_
  rintro a lv s1 ⟨h3, t1⟩ E
  refine sh E (o_mk (kd, 2) (n := n.toNat) (by omega)) rfl rfl rfl ?_
  rintro a _ s2 ⟨mb, rfl, h4, t2⟩ E
  obtain ⟨a3, c3, rfl⟩ := h3.isS
  refine sd E (o_bd (places := #[(0, 1), (1, 1), (2, 1), (3, 1)]) Tryz.zeroValue63 Tryz.underlying63 (fun w => by simp [Sem.run_bind, Result.andThen, Tryz.sizeOf60, Tryz.sizeOf61, Tryz.sizeOf2]) (qs := #[(0, .slice a3 (List.replicate n.toNat Z8).length c3), (1, .map (some mb))]) (by simp only [List.map_toArray, List.map_cons, List.map_nil, E.ev (x := .tmp 10) rfl, E.ev (x := .tmp 11) rfl]) rfl) rfl rfl rfl fun a E => ?_
  refine sh E (o_boxo (kd, 0) (E.ev rfl)) rfl rfl rfl ?_
  rintro a _ s3 ⟨b, rfl, o3, t3⟩ E
  refine sd E (o_as (E.ev rfl)) rfl rfl rfl fun a E => ?_
  refine GL_nil ?_
  refine tgn ?_
  refine G_ret ?_
  exact fin1 E rfl rfl ⟨(t1.trans t2).trans t3, b, rfl, by simp, _, mb, 0, 0, o3, (h3.trN t2).trN t3, h4.trN t3⟩
end Go.Proofs.YtdkfdmalbbfbmaaGreat

/- The keys of a map, sorted: off the shelf. -/
namespace Go.Proofs.YtdkfdmalbbfbmaaGreat
open Go Go.RowKit Go.Maps Go.Sort Go.Shelf
set_option maxRecDepth 4000

shelf_lay_g SlLaysZI.n7 Ggz 7 at Tryz 87 as Tryz.keysA
shelf_lay_g SlLaysZI.n6 Ggz 6 at Tryz 86 as Tryz.sortedA
shelf_lay_g SlLaysM.n5 Slgm 5 at Tryz 95 as Tryz.sortA

theorem sortsA (m : Nat) : AnyZI.SortsIn Tryz.prog Tryz.sortedA_ren Fence.wide m :=
  ⟨fun blk off cap ss W hH hblk hsz => callsIn_wide.2 (AnyM.slices_Sort_int Tryz.sortA blk off cap ss W hH hblk hsz),
   fun p cap W => callsIn_wide.2 (AnyM.slices_Sort_int_none Tryz.sortA p cap W)⟩

theorem calls_85 (mb : Option Nat) (W : World) : Calls Tryz.prog 87 #[.map mb] W fun e w' => e = .returned (.func (.func 96) #[] #[.pointer (some ⟨W.heap.size, 0, none⟩)]) ∧ w' = W.alloc (.cells #[.map mb] 61) :=
  callsIn_wide.1 (AnyZI.keys_in Tryz.keysA Fence.wide 5 trivial rfl mb W)

set_option maxHeartbeats 1000000 in
theorem calls_84 {H : Type} (b nn : Nat) (D0 : DataW H) (R : Value → Option (DataW H × List MemPlace)) (w : World) (bx : Nat) (hown : w.ownsMap Tryz.prog 3 R b nn D0) (hbx : w.heap[bx]? = some (.cells #[.map (some b)] 61 (0, 0))) (hmax : Maps.size D0 ≤ maxLen) (hbytes : Maps.size D0 * 8 ≤ 140737488355328) :
    Calls Tryz.prog 86 #[.func (.func 96) #[] #[.pointer (some ⟨bx, 0, none⟩)]] w fun e w' => ∃ (v : Value) (ss : List Int), e = .returned v ∧ ss.Perm (intKeys D0) ∧
      w'.ownsRow w.heap.size 3 1 v ss.length ((ss.mergeSort (fun x y => decide (x ≤ y))).map encZ) ∧ (v = .slice none 0 0 ↔ ss = []) ∧ Below w.heap.size w w' := by
  refine (callsIn_wide (n := 5)).1 ?_
  have hbl := hown.lt
  have hseq : SeqGives Fence.wide 2 Tryz.prog 96 #[.pointer (some ⟨bx, 0, none⟩)] encZ (fun ss => ss.Perm (intKeys D0)) (Maps.size D0) w :=
    AnyZI.keys_gives (ρ := Tryz.keysA_ren) { Tryz.keysA with } Fence.wide _ trivial rfl (by omega) bx b nn D0 _ (by have := (Array.getElem?_eq_some_iff.1 hbx).1; omega) (by simp [World.cell?, hbx]) (by
      obtain ⟨es, clock, hb, Ft, hs, hD⟩ := hown
      exact ⟨es, clock, hb, Ft, hs, hD⟩)
  have cS := AnyZI.sorted_in Tryz.sortedA Fence.wide 5 trivial trivial trivial trivial rfl (by omega) (sortsA _) (enters_of Tryz.func95 (by kernel_rfl) rfl) 96 #[.pointer (some ⟨bx, 0, none⟩)] trivial (enters_of Tryz.func96 (by kernel_rfl) rfl) _ _ hmax hbytes _ hseq
  change CallsIn _ _ Tryz.prog 86 _ _ _ at cS
  refine cS.mono ?_
  rintro e w' ⟨v, ss, rfl, hS, hrow, hnil, hb⟩
  exact ⟨v, ss, rfl, hS, hrow, hnil, hb⟩
end Go.Proofs.YtdkfdmalbbfbmaaGreat

/- An element of a row of one's own is written. -/
namespace Go.Proofs.YtdkfdmalbbfbmaaGreat
open Go Go.Maps

section
variable {α : Type} {K : Kd α} {P : Program} {s s' : St} {κ : Tg} {ρ : Operand → Value} {t : Nat} {pos : String} {af : Array Edge} {g : Option (Nat × Bool)} {x y : Operand} {T T' e B b o : Nat} {u v : Value} {q : α} {xs : List α} {i : Int}
theorem Encs.set : ∀ {xs : List α} {cs es : List Value} {i : Nat} {q : α}, Encs K s xs cs → K.R s es q → i < xs.length → Encs K s (xs.set i q) (cs.take (i * K.sz) ++ es ++ cs.drop (i * K.sz + es.length))
  | [], _, _, _, _, _, _, hi => by simp at hi
  | x :: xs, cs, es, 0, q, h, hq, _ => by
    obtain ⟨e, r, rfl, h1, h2⟩ := h
    refine ⟨es, r, ?_, hq, h2⟩
    have : e.length = es.length := (K.len h1).trans (K.len hq).symm
    simp only [Nat.zero_mul, List.take_zero, List.nil_append, Nat.zero_add]
    rw [← this, List.drop_left]
  | x :: xs, cs, es, i + 1, q, h, hq, hi => by
    obtain ⟨e, r, rfl, h1, h2⟩ := h
    have hl := K.len h1
    have := h2.set (i := i) hq (by simpa using hi)
    refine ⟨e, _, ?_, h1, this⟩
    have e1 : (i + 1) * K.sz = e.length + i * K.sz := by rw [hl, Nat.add_mul]; omega
    rw [e1, List.take_length_add_append]
    have e2 : e.length + i * K.sz + es.length = e.length + (i * K.sz + es.length) := by omega
    rw [e2, List.drop_length_add_append]
    simp
/-- The element i of a slice of one's own is written, in place. -/
theorem o_ste (hz : ∀ w, (sizeOf T).run P w = .ok K.sz w) (hb : Bd κ K e B s v xs) (hi : IxTo v i xs.length K.sz b o) (hx : ρ x = .pointer (some ⟨b, o, none⟩)) (hy : ρ y = u) (hu : ∀ s, K.R s u.cells.toList q) :
    Hv P ⟨none, .store T x y, t, pos, af, g⟩ ρ s fun _ s' => Bd κ K e B s' v (xs.set i.toNat q) ∧ Tr (· = κ) s s' := by
  obtain ⟨o0, c, rfl, rfl, h0, h1⟩ := hi
  obtain ⟨cs, ⟨hl, hh⟩, he, hm⟩ := hb
  rcases hh with ⟨hv, hn⟩ | ⟨gg, cap, cur, hv, hB, hh, hc, hcm, hsz, hxx⟩
  · cases hv
  injection hv with e1 e2 e3
  injection e1 with e1
  injection e1 with e4 e5
  subst e4; subst e5; subst e3
  have hq := hu s
  have hlen : u.cells.size = K.sz := by have := K.len hq; simpa using this
  have hin : i.toNat < xs.length := by omega
  have hfit : i.toNat * K.sz + u.cells.size ≤ xs.length * K.sz := by
    rw [hlen, ← Nat.succ_mul]; exact Nat.mul_le_mul_right _ hin
  have hcap : xs.length * K.sz ≤ cur.size := by rw [hsz]; exact Nat.mul_le_mul_right _ hc
  have hown : Own κ s b cur e := ⟨hm b rfl, hh⟩
  have hcl : cs.length = xs.length * K.sz := hl
  rw [Nat.zero_add] at hx
  have hus : u.cells.toList.length = K.sz := by simpa using hlen
  refine OpW.mono (o_st (P := P) (t := t) (pos := pos) (af := af) (g := g) (ρ := ρ) (x := x) (y := y) (v := u) (fun w => by rw [hz, hlen]) hown hx hy (by omega) (K.one hq) rfl) ?_
  rintro _ _ ⟨s1, rfl, h2, t2⟩
  refine ⟨s1, rfl, ⟨cs.take (i.toNat * K.sz) ++ u.cells.toList ++ cs.drop (i.toNat * K.sz + u.cells.toList.length), ⟨?_, .inr ⟨b, c, _, by simp, hB, h2.2, by simpa using hc, hcm, ?_, ?_⟩⟩, ?_, fun b' hb' => by cases hb'; exact h2.1⟩, t2⟩
  · simp only [List.length_append, List.length_take, List.length_drop, List.length_set, hcl, hus]; omega
  · simp only [List.size_toArray, List.length_append, List.length_take, List.length_drop, Array.length_toList, hlen]; omega
  · simp only [Array.length_toList, List.length_set]
    rw [List.toList_toArray, ← hxx]
    have hc2 : cur.toList.length = cur.size := by simp
    apply List.ext_getElem?
    intro j
    simp only [List.getElem?_take, List.getElem?_append, List.length_append, List.length_take, List.length_drop, Array.length_toList, List.getElem?_drop]
    split
    · rename_i hj
      repeat' split
      all_goals first | rfl | omega | (congr 1; omega)
    · rename_i hj
      repeat' split
      all_goals first | rfl | omega | (symm; apply List.getElem?_eq_none; simp; omega)
  · exact ((he.up t2.le).set (hu s1) hin)
end
end Go.Proofs.YtdkfdmalbbfbmaaGreat

/- Which sectors a device has written. -/
namespace Go.Proofs.YtdkfdmalbbfbmaaGreat
open Go Go.Maps
set_option maxRecDepth 4000

def dirty (wr : List (Option Sec)) : List Int := ((List.range wr.length).filter fun i => ((wr[i]?).join).isSome).map Int.ofNat
theorem mem_dirty {wr : List (Option Sec)} {x : Int} : x ∈ dirty wr ↔ (wAt wr x).isSome = true := by
  unfold dirty
  rw [List.mem_map]
  constructor
  · rintro ⟨i, hi, rfl⟩
    rw [List.mem_filter] at hi
    unfold wAt
    simpa using hi.2
  · intro h
    obtain ⟨h0, h1⟩ := wAt_lt h
    refine ⟨x.toNat, ?_, by show (Int.ofNat x.toNat) = x; simp; omega⟩
    rw [List.mem_filter, List.mem_range]
    unfold wAt at h
    rw [if_pos h0] at h
    exact ⟨h1, h⟩
theorem dirty_lt (wr : List (Option Sec)) : (dirty wr).Pairwise (· < ·) := by
  unfold dirty
  rw [List.pairwise_map]
  exact (List.pairwise_lt_range.filter _).imp fun {a b} h => by simpa using h
theorem dirty_nodup (wr : List (Option Sec)) : (dirty wr).Nodup := (dirty_lt wr).imp fun {a b} h e => by omega

theorem dirty_keys {w : World} {mb nn : Nat} {D : DataW Unit} {wr : List (Option Sec)} (h : w.ownsMap Tryz.prog 3 rA mb nn D) (hR : MapR D wr) {ss : List Int} (hp : ss.Perm (intKeys D)) : ss.mergeSort (fun x y => decide (x ≤ y)) = dirty wr := by
  have ht := h.tidy keyed
  obtain ⟨es, hes, hkeys⟩ := h.keysOf
  obtain ⟨es', hes', hpw⟩ := ht
  rw [hes] at hes'
  injection hes' with e
  subst e
  subst hes
  have hd : (dirty wr).Perm (intKeys (.map es)) := perm_intKeys hpw (fun p hp => by
      obtain ⟨v, hv⟩ := hkeys p hp
      obtain ⟨x, _, hx, _⟩ := Maps.keyOf_i64 Tryz.underlying3 hv
      exact ⟨x, hx⟩) (dirty_nodup wr) (fun x => by rw [mem_dirty, hR.hs x])
  have := mergeSort_of_perm_i (hp.trans hd.symm)
  rw [show (fun x y : Int => decide (x ≤ y)) = leI from rfl, this]
  exact List.mergeSort_of_pairwise ((dirty_lt wr).imp fun {a b} h => by simp [leI]; omega)

theorem sl_of_owns {k : IntKind} {s s' : St} {T : TypeId} {v : Value} {xs : List Int} (h : s'.w.ownsRow s.w.heap.size T 1 v xs.length (xs.map (Value.int k))) (hM : ∀ b, s.w.heap.size ≤ b → ¬ s'.M b) : Sl (kInt k) s' v xs := by
  obtain ⟨hl, ⟨rfl, h0⟩ | ⟨g, cap, cur, rfl, hB, hh, hc, hcm, hz, hx⟩⟩ := h
  · have : xs = [] := List.eq_nil_of_length_eq_zero h0
    subst this; exact Sl.nil
  · refine ⟨_, _, rfl, hc, nofun, .inr ⟨g, 0, _, rfl, hM g hB, (Array.getElem?_eq_some_iff.1 hh).1, Encs.ints, fun j u hu => ?_⟩⟩
    rw [Nat.zero_add]
    rw [← hx, List.getElem?_take] at hu
    split at hu
    · simpa [World.cell?, hh] using hu
    · cases hu

theorem ok_70 (s : St) {k : Nat} {b : Nat} {D : Disk} (hd : DiskAt k s b D) :
    Ok Tryz.prog 71 ([.pointer (some ⟨b, 0, none⟩)] : List Value).toArray s fun v s' => Tr No s s' ∧ Sl (kInt .i64) s' v (dirty D.wr) := by
  obtain ⟨h0, lv, mb, n1, n2, h1, h2, h3⟩ := hd
  refine ok_of (n := 11) _ Tryz.func71 rfl _ rfl rfl fun a E => ?_
  refine G_seq ?_
  refine G_region ?_
  refine sd E (o_as (E.ev rfl)) rfl rfl rfl fun a E => ?_
  refine GL_nil ?_
  refine tgn ?_
  refine G_seq ?_
  refine G_seq ?_
  refine G_region ?_
  refine sd E (o_mv (E.ev rfl)) rfl rfl rfl fun a E => ?_
  refine sd E (o_eqp Tryz.underlying25 (E.ev rfl) (E.ev rfl)) rfl rfl rfl fun a E => ?_
  refine GL_nil ?_
  refine tgn ?_
  refine G_cond (t := false) (E.ev rfl) nofun (fun _ => ?_)
  refine G_skip ?_
  refine tgn ?_
  refine G_seq ?_
  refine G_region ?_
  refine sd E (o_mv (E.ev rfl)) rfl rfl rfl fun a E => ?_
  refine sd E (o_nc (E.ev rfl)) rfl rfl rfl fun a E => ?_
  refine sd E (o_fa Tryz.underlying63 rfl Tryz.sizeOf61 (E.ev rfl)) rfl rfl rfl fun a E => ?_
  refine sd E (o_ld Tryz.isAgg61 (E.ev rfl) ((h1.cell _).trans rfl)) rfl rfl rfl fun a E => ?_
  have c85 : Ok Tryz.prog 87 ([.map (some mb)] : List Value).toArray s fun v s' => Tr No s s' ∧ ∃ bx, v = .func (.func 96) #[] #[.pointer (some ⟨bx, 0, none⟩)] ∧ s'.w.heap[bx]? = some (.cells #[.map (some mb)] 61 (0, 0)) :=
    Calls.mono (calls_85 (some mb) s.w) fun e w' ⟨he, hw⟩ => ⟨_, he, s.lay (.cells #[.map (some mb)] 61), hw, Tr.lay s _, _, rfl, heap_new _ _⟩
  refine sh E (o_ok Tryz.call87 (E.evs rfl) (E.ev rfl) c85) rfl rfl rfl ?_
  rintro a _ s1 ⟨t1, bx, rfl, hbx⟩ E
  obtain ⟨_, hlen, DD, hown, hR⟩ := h3.trN t1
  have htight := hR.tight hown
  have hsz : Maps.size DD ≤ 4096 := Nat.le_trans htight.size_le hlen
  have c84 : Ok Tryz.prog 86 ([.func (.func 96) #[] #[.pointer (some ⟨bx, 0, none⟩)]] : List Value).toArray s1 fun v s' => Tr No s1 s' ∧ Sl (kInt .i64) s' v (dirty D.wr) :=
    Calls.mono (calls_84 mb 4096 DD rA s1.w bx hown hbx (by unfold maxLen; omega) (by omega)) fun e w' ⟨v, ss, he, hp, hrow, _, hb⟩ => by
      have hx := Ext.of_below hb
      refine ⟨v, he, s1.ext w' hx, rfl, Tr.xt hx, ?_⟩
      have hk := dirty_keys hown hR hp
      have hlen2 : ss.length = (dirty D.wr).length := by rw [← hk, List.length_mergeSort]
      rw [hk, hlen2] at hrow
      exact sl_of_owns (s := s1) hrow fun b hb => by
        unfold St.M
        simp only [St.ext]
        intro hne
        have := s1.ok b hne
        omega
  refine sh E (o_ok Tryz.call86 (E.evs rfl) (E.ev rfl) c84) rfl rfl rfl ?_
  rintro a v s2 ⟨t2, h5⟩ E
  refine sd E (o_as (E.ev rfl)) rfl rfl rfl fun a E => ?_
  refine GL_nil ?_
  refine tgn ?_
  refine G_ret ?_
  exact fin1 E rfl rfl ⟨t1.trans t2, h5⟩
end Go.Proofs.YtdkfdmalbbfbmaaGreat

/- What lasts: a sync, a crash. -/
namespace Go.Proofs.YtdkfdmalbbfbmaaGreat
open Go Go.Maps
set_option maxRecDepth 4000

section
variable {s : St} {κ : Tg} {mb : Nat} {wr : List (Option Sec)} {ρ : Operand → Value} {d : Option Nat} {g : Option (Nat × Bool)} {t : Nat} {pos : String} {af : Array Edge} {x : Operand}
theorem o_clr (h : MapA κ s mb wr) (hx : ρ x = .map (some mb)) : Hv Tryz.prog ⟨none, .call ⟨.builtin .clear, #[x], #[61]⟩, t, pos, af, g⟩ ρ s fun _ s' => MapA κ s' mb (List.replicate wr.length none) ∧ Tr (· = κ) s s' := by
  obtain ⟨htag, hlen, D, ⟨es, clock, hb, hF, hs, hD⟩, hR⟩ := h
  have hlt := (Array.getElem?_eq_some_iff.1 hb).1
  have hd : Hd κ s mb (.map es clock) := ⟨htag, hb⟩
  refine hvo (v := .tuple #[]) (s.obj mb (.map #[] clock)) (OpTo_value (by intro c h; cases h) ?_) ⟨⟨htag, by simpa using hlen, .map [], ⟨#[], clock, World.putObj_heap_same hlt, ⟨by simp, MapKept.stamped_empty clock, by simp⟩, Nat.zero_le _, rfl⟩, ⟨fun i => ?_, fun i xs h => ?_⟩⟩, Tr.obj htag _⟩
  · simp only [execOp, resolve, Sem.run_bind, Sem.run_pure, Result.andThen, invoke, builtin]
    simp [Builtin.clear_, hx, Sem.run_bind, run_underlying Tryz.underlying61, Result.andThen, getObj, setObj, Sem.run, hb, St.obj, World.putObj]
  · rw [wAt_none]; rfl
  · rw [wAt_none] at h; cases h
end

/-- What of the written lasts, one by one. -/
noncomputable def m_49b {σ : Type} (c : σ → Int → Option (σ × Bool)) (wr : List (Option Sec)) (l : List Int) : Int × List Sec × σ → Option (Lo (Int × List Sec × σ) (List Sec × σ)) := fun (j, ls, u) =>
  bif decide (j < (l.length : Int)) then ob (gt l j) fun i => ob (c u i) fun (u', b) => some (.inl (IntKind.wrap .i64 (j + 1), (bif b then ls.set i.toNat ((wAt wr i).getD Z8) else ls), u')) else some (.inr (ls, u))
noncomputable def m_49 {σ : Type} (c : σ → Int → Option (σ × Bool)) (D : Disk) (u : σ) : Option (Disk × σ) :=
  ob (loopO (m_49b c D.wr (dirty D.wr)) (0, D.lasts, u)) fun (ls, u') => some (⟨ls, List.replicate D.wr.length none⟩, u')

theorem ok_49 {σ : Type} (s : St) {k b : Nat} {D D' : Disk} (hd : DiskAt k s b D) (fv : Value) (J : σ → St → Prop) (q : Tg → Prop) (hqk : ∀ i, ¬ q (k, i)) (hJ : ∀ st s s', J st s → Tr No s s' → J st s') (hJk : ∀ st s s', J st s → Tr (Rt k) s s' → J st s')
    (c : σ → Int → Option (σ × Bool)) (hy : ∀ st z st' bb s, J st s → c st z = some (st', bb) → CallV Tryz.prog fv [.int .i64 z] s fun v s' => v = .bool bb ∧ J st' s' ∧ Tr q s s') {u u' : σ} (hj : J u s) (hm : m_49 c D u = some (D', u')) :
    Ok Tryz.prog 44 ([.pointer (some ⟨b, 0, none⟩), fv] : List Value).toArray s fun _ s' => DiskAt k s' b D' ∧ J u' s' ∧ Tr (Or (Rt k) q) s s' := by
  unfold m_49 at hm
  refine ok_of (n := 33) _ Tryz.func44 rfl _ rfl rfl fun a E => ?_
  refine G_seq ?_
  refine G_seq ?_
  refine G_region ?_
  refine sd E (o_mv (E.ev rfl)) rfl rfl rfl fun a E => ?_
  refine sh E (o_ok Tryz.call71 (E.evs rfl) (E.ev rfl) (ok_70 s hd)) rfl rfl rfl ?_
  rintro a v7 s1 ⟨t1, h7⟩ E
  refine sd E (o_lenS (xs := dirty D.wr) Tryz.underlying114 (E.ev rfl) h7.isS) rfl rfl rfl fun a E => ?_
  refine sd E (o_mv (E.ev rfl)) rfl rfl rfl fun a E => ?_
  refine GL_nil ?_
  refine tgn ?_
  obtain ⟨⟨ls1, u1⟩, hl, hm⟩ := ob_some hm
  have hm : some (Disk.mk ls1 (List.replicate D.wr.length none), u1) = some (D', u') := hm
  cases hm
  refine G_mid1 (fun a' w' => ∃ s', w' = s'.w ∧ Tr (Or (Rt k) q) s1 s' ∧ DiskAt k s' b ⟨ls1, D.wr⟩ ∧ J u' s' ∧ En [] 33 a' [(0, .pointer (some ⟨b, 0, none⟩))]) ?_ ?_
  · refine G_block ?_
    refine G_lp hl (fun st a' w' => ∃ j ls uu s', st = (j, ls, uu) ∧ w' = s'.w ∧ Tr (Or (Rt k) q) s1 s' ∧ DiskAt k s' b ⟨ls, D.wr⟩ ∧ J uu s' ∧ En [] 33 a' [(0, .pointer (some ⟨b, 0, none⟩)), (1, fv), (7, v7), (8, .int .i64 ((dirty D.wr).length : Int)), (9, .int .i64 j)])
      ⟨_, _, _, _, rfl, rfl, Tr.refl _ _, hd.trN t1, hJ _ _ _ hj t1, (((((E.nil.ad E rfl rfl).ad E rfl rfl).ad E rfl rfl).ad E rfl rfl).ad E rfl rfl)⟩ ?_
    rintro _ a _ x ⟨j, ls, uu, s2, rfl, rfl, t2, hd, hj, E⟩ hf
    dsimp only [m_49b] at hf
    have h7 := h7.tr t2
    refine G_seq ?_
    refine G_region ?_
    refine sd E (o_bi (E.ev rfl) (E.ev rfl) rfl) rfl rfl rfl fun a E => ?_
    refine GL_nil ?_
    refine tgn ?_
    refine G_seq ?_
    refine G_cond (E.ev rfl) (fun ht => ?_) (fun ht => ?_)
    · have hf := cT ht hf
      refine G_skip ?_
      refine tgn ?_
      obtain ⟨i, hi, hf⟩ := ob_some hf
      obtain ⟨⟨u2, bb⟩, hc, hf⟩ := ob_some hf
      obtain rfl := Option.some.inj hf
      obtain ⟨b3, p3, g3, h3⟩ := h7.gt hi
      have hmem : i ∈ dirty D.wr := by obtain ⟨_, h1, rfl⟩ := gt_some hi; exact List.getElem_mem _
      obtain ⟨i0, i1⟩ := wAt_lt (mem_dirty.1 hmem)
      refine G_seq ?_
      refine G_block ?_
      refine G_seq ?_
      refine G_region ?_
      refine sd E (o_ixg Tryz.underlying114 Tryz.sizeOf3 g3 (E.ev rfl) (E.ev rfl)) rfl rfl rfl fun a E => ?_
      refine sd E (o_ld Tryz.isAgg3 (E.ev rfl) h3.cell) rfl rfl rfl fun a E => ?_
      refine sd E (o_as (E.ev rfl)) rfl rfl rfl fun a E => ?_
      refine GL_nil ?_
      refine tgn ?_
      refine G_seq ?_
      refine G_region ?_
      refine sd E (o_mv (E.ev rfl)) rfl rfl rfl fun a E => ?_
      refine sd E (o_mv (E.ev rfl)) rfl rfl rfl fun a E => ?_
      refine sh E (hy _ _ _ _ _ hj hc _ _ _ _ _ _ _ _ _ (E.ev rfl) (E.evs rfl)) rfl rfl rfl ?_
      rintro a _ s3 ⟨rfl, hj3, t3⟩ E
      have hd := hd.tr t3 hqk
      refine GL_nil ?_
      refine tgn ?_
      refine G_cond (E.ev rfl) (fun hb => ?_) (fun hb => ?_)
      · subst hb
        obtain ⟨d0, lv, mb, n1, n2, d1, d2, d3⟩ := hd
        have hlt : i.toNat < ls.length := by have : D.wr.length = ls.length := d0; omega
        have hg : gt ls i = some (ls[i.toNat]'hlt) := by simp [gt, i0, hlt]
        refine G_drw k (by rfl) [0, 1, 2, 3, 4, 5, 6, 7, 8, 9, 10, 11, 12] (by kernel_rfl) ?_
        intro s4 t4
        have d1 := d1.trN t4
        have d2 := d2.trN t4
        have d3 := d3.trN t4
        obtain ⟨b5, p5, g5, _, _⟩ := d2.gt hg
        have hl8 : ((wAt D.wr i).getD Z8).length = 8 := by
          cases hw : wAt D.wr i with
          | none => rfl
          | some x => obtain ⟨_, _, _, _, hR⟩ := d3; exact (hR.val i x hw).1
        refine dp E rfl (fun w => o_mv (E.ev rfl)) rfl rfl rfl fun a E => ?_
        refine dp E rfl (fun w => o_nc (E.ev rfl)) rfl rfl rfl fun a E => ?_
        refine dp E rfl (fun w => o_fa Tryz.underlying63 rfl Tryz.sizeOf60 (E.ev rfl)) rfl rfl rfl fun a E => ?_
        refine dr E rfl (fun s' t => o_ld Tryz.isAgg60 (E.ev rfl) (((d1.trN t).cell _).trans rfl)) rfl rfl rfl rfl fun a E => ?_
        refine dp E rfl (fun w => o_mv (E.ev rfl)) rfl rfl rfl fun a E => ?_
        refine dp E rfl (fun w => o_mv (E.ev rfl)) rfl rfl rfl fun a E => ?_
        refine dp E rfl (fun w => o_nc (E.ev rfl)) rfl rfl rfl fun a E => ?_
        refine dp E rfl (fun w => o_fa Tryz.underlying63 rfl Tryz.sizeOf61 (E.ev rfl)) rfl rfl rfl fun a E => ?_
        refine dr E rfl (fun s' t => o_ld Tryz.isAgg61 (E.ev rfl) (((d1.trN t).cell _).trans rfl)) rfl rfl rfl rfl fun a E => ?_
        refine dp E rfl (fun w => o_mv (E.ev rfl)) rfl rfl rfl fun a E => ?_
        refine dr E rfl (fun s' t => o_lk1 (d3.trN t) (E.ev rfl) (E.ev rfl) i0 (show i < (D.wr.length : Int) by omega)) rfl rfl rfl rfl fun a E => ?_
        refine dp E rfl (fun w => o_ixg Tryz.underlying60 Tryz.sizeOf40 g5 (E.ev rfl) (E.ev rfl)) rfl rfl rfl fun a E => ?_
        refine dlN E rfl (o_ste (q := (wAt D.wr i).getD Z8) Tryz.sizeOf40 d2 g5 (E.ev rfl) (E.ev rfl) (fun s => ⟨hl8, rfl⟩)) rfl rfl rfl ?_
        rintro _ s5 ⟨d5, t5⟩
        have t45 : Tr (Rt k) s3 s5 := t4.no.trans (t5.mono (by intro t h; subst h; rfl))
        refine gd_nil ?_
        refine ebn ?_
        refine tgn ?_
        refine G_region ?_
        refine sd E (o_bi (E.ev rfl) (E.ev rfl) rfl) rfl rfl rfl fun a E => ?_
        refine sd E (o_mv (E.ev rfl)) rfl rfl rfl fun a E => ?_
        refine GL_nil ?_
        exact lpn ⟨_, _, _, s5, rfl, rfl, (t2.trans (t3.mono fun _ h => .inr h)).trans (t45.mono fun _ h => .inl h), ⟨by simpa using d0, lv, mb, n1, n2, d1.tr t5 (nt_snd rfl), d5, d3.tr t5 (nt_snd rfl)⟩, hJk _ _ _ hj3 t45, (((((E.nil.ad E rfl rfl).ad E rfl rfl).ad E rfl rfl).ad E rfl rfl).ad E rfl rfl)⟩
      · subst hb
        refine G_skip ?_
        refine ebn ?_
        refine tgn ?_
        refine G_region ?_
        refine sd E (o_bi (E.ev rfl) (E.ev rfl) rfl) rfl rfl rfl fun a E => ?_
        refine sd E (o_mv (E.ev rfl)) rfl rfl rfl fun a E => ?_
        refine GL_nil ?_
        exact lpn ⟨_, _, _, s3, rfl, rfl, t2.trans (t3.mono fun _ h => .inr h), hd, hj3, (((((E.nil.ad E rfl rfl).ad E rfl rfl).ad E rfl rfl).ad E rfl rfl).ad E rfl rfl)⟩
    · have hf := cF ht hf
      obtain rfl := Option.some.inj hf
      refine G_exit ?_
      refine tge ?_
      refine lpe fun hr => ?_
      cases hr
      refine ebk ?_
      refine ctn ?_
      exact ⟨s2, rfl, t2, hd, hj, E.nil.ad E rfl rfl⟩
  · rintro a _ ⟨s2, rfl, t2, ⟨d0, lv, mb, n1, n2, d1, d2, d3⟩, hj, E⟩
    refine tgn ?_
    refine G_region ?_
    refine sd E (o_mv (E.ev rfl)) rfl rfl rfl fun a E => ?_
    refine sd E (o_nc (E.ev rfl)) rfl rfl rfl fun a E => ?_
    refine sd E (o_fa Tryz.underlying63 rfl Tryz.sizeOf61 (E.ev rfl)) rfl rfl rfl fun a E => ?_
    refine sd E (o_ld Tryz.isAgg61 (E.ev rfl) ((d1.cell _).trans rfl)) rfl rfl rfl fun a E => ?_
    refine shN E (o_clr d3 (E.ev rfl)) rfl rfl ?_
    rintro _ s3 ⟨d4, t3⟩
    refine GL_nil ?_
    have t3' : Tr (Rt k) s2 s3 := t3.mono (by intro t h; subst h; rfl)
    exact fin0 E rfl ⟨⟨by simpa using d0, lv, mb, n1, n2, d1.tr t3 (nt_snd rfl), d2.tr t3 (nt_snd rfl), d4⟩, hJk _ _ _ hj t3', (t1.no.trans t2).trans (t3'.mono fun _ h => .inl h)⟩
end Go.Proofs.YtdkfdmalbbfbmaaGreat

/- A sync, a crash. -/
namespace Go.Proofs.YtdkfdmalbbfbmaaGreat
open Go Go.Maps
set_option maxRecDepth 4000

theorem callv_ok {P : Program} {f : FuncId} {cp args : List Value} {s : St} {R : Value → St → Prop} (hf : ∀ args w, (callFunc f args).run P w = .ok (.enter f args) w) (h : Ok P f (args ++ cp).toArray s R) : CallV P (.func (.func f) #[] cp.toArray) args s R :=
  fun _ _ _ _ _ _ _ _ _ hq ha => o_callv hf hq ha h

theorem callv_ok0 {P : Program} {f : FuncId} {args : List Value} {s : St} {R : Value → St → Prop} (hf : ∀ args w, (callFunc f args).run P w = .ok (.enter f args) w) (h : Ok P f args.toArray s R) : CallV P (.func (.func f) #[] #[]) args s R := by
  have h2 : Ok P f (args ++ []).toArray s R := by rw [List.append_nil]; exact h
  exact callv_ok (cp := []) hf h2
theorem CallV.mono {P : Program} {yv : Value} {args : List Value} {s : St} {R R' : Value → St → Prop} (h : CallV P yv args s R) (k : ∀ v s', R v s' → R' v s') : CallV P yv args s R' :=
  fun d q xs ts t pos af g ρ hq ha => OpW.mono (h d q xs ts t pos af g ρ hq ha) fun v _ ⟨s', h1, h2⟩ => ⟨s', h1, k v s' h2⟩
theorem ok_71 (s : St) {i : Int} : Ok Tryz.prog 59 ([.int .i64 i] : List Value).toArray s fun v s' => Tr No s s' ∧ v = .bool true := by
  refine ok_of (n := 3) _ Tryz.func59 rfl _ rfl rfl fun a E => ?_
  refine G_seq ?_
  refine G_region ?_
  refine sd E (o_as (E.ev rfl)) rfl rfl rfl fun a E => ?_
  refine GL_nil ?_
  refine tgn ?_
  refine G_seq ?_
  refine G_region ?_
  refine sd E (o_as (E.ev rfl)) rfl rfl rfl fun a E => ?_
  refine GL_nil ?_
  refine tgn ?_
  refine G_ret ?_
  exact fin1 E rfl rfl ⟨Tr.refl _ _, rfl⟩

noncomputable def m_51 (D : Disk) : Option Disk := ob (m_49 (fun (_ : Unit) _ => some ((), true)) D ()) fun r => some r.1
theorem ok_51 (s : St) {k b : Nat} {D D' : Disk} (hd : DiskAt k s b D) (hm : m_51 D = some D') :
    Ok Tryz.prog 31 ([.pointer (some ⟨b, 0, none⟩)] : List Value).toArray s fun _ s' => DiskAt k s' b D' ∧ Tr (Rt k) s s' := by
  unfold m_51 at hm
  obtain ⟨⟨D1, u1⟩, hl, hm⟩ := ob_some hm
  cases hm
  refine ok_of (n := 13) _ Tryz.func31 rfl _ rfl rfl fun a E => ?_
  refine G_seq ?_
  refine G_seq ?_
  refine G_region ?_
  refine sd E (o_mv (E.ev rfl)) rfl rfl rfl fun a E => ?_
  refine sd E (o_eqp Tryz.underlying25 (E.ev rfl) (E.ev rfl)) rfl rfl rfl fun a E => ?_
  refine GL_nil ?_
  refine tgn ?_
  refine G_cond (t := false) (E.ev rfl) nofun (fun _ => ?_)
  refine G_skip ?_
  refine tgn ?_
  refine G_seq ?_
  refine G_region ?_
  refine sd E (o_mv (E.ev rfl)) rfl rfl rfl fun a E => ?_
  have h71 : ∀ z s, CallV Tryz.prog (.func (.func 59) #[] #[]) [.int .i64 z] s fun v s' => Tr No s s' ∧ v = .bool true := fun z s => callv_ok0 Tryz.call59 (ok_71 s)
  have c49 := ok_49 s hd (.func (.func 59) #[] #[]) (fun (_ : Unit) _ => True) No (fun _ h => h) (fun _ _ _ _ _ => trivial) (fun _ _ _ _ _ => trivial) (fun (_ : Unit) _ => some ((), true))
    (fun st z st' bb s _ hc => by
      cases hc
      exact (h71 z s).mono fun v s' ⟨h2, h3⟩ => ⟨h3, trivial, h2⟩) trivial hl
  refine sh E (o_ok Tryz.call44 (E.evs rfl) (E.ev rfl) c49) rfl rfl rfl ?_
  rintro a _ s1 ⟨hd, _, t1⟩ E
  have t1 : Tr (Rt k) s s1 := t1.mono fun _ h => h.elim id fun h => h.elim
  refine GL_nil ?_
  refine tgn ?_
  obtain ⟨d0, lv, mb, n1, n2, d1, d2, d3⟩ := hd
  refine G_region ?_
  refine sd E (o_mv (E.ev rfl)) rfl rfl rfl fun a E => ?_
  refine sd E (o_nc (E.ev rfl)) rfl rfl rfl fun a E => ?_
  refine sd E (o_fa Tryz.underlying63 rfl Tryz.sizeOf2 (E.ev rfl)) rfl rfl rfl fun a E => ?_
  refine sd E (o_ld Tryz.isAgg2 (E.ev rfl) ((d1.cell _).trans rfl)) rfl rfl rfl fun a E => ?_
  refine sd E (o_bi (E.ev rfl) (E.ev rfl) rfl) rfl rfl rfl fun a E => ?_
  refine sd E (o_nc (E.ev rfl)) rfl rfl rfl fun a E => ?_
  refine sd E (o_fa Tryz.underlying63 rfl Tryz.sizeOf2 (E.ev rfl)) rfl rfl rfl fun a E => ?_
  refine shN E (o_st (v := .int .i64 _) Tryz.sizeOf2 d1 (E.ev rfl) (E.ev rfl) (Nat.le_of_ble_eq_true rfl) (by intro u hu; simp [Value.cells] at hu; subst hu; rfl) rfl) rfl rfl ?_
  rintro _ s2 ⟨h5, t5⟩
  refine GL_nil ?_
  exact fin0 E rfl ⟨⟨d0, lv, mb, n1, _, h5, d2.tr t5 (nt_snd rfl), d3.tr t5 (nt_snd rfl)⟩, t1.trans (t5.mono (by intro t h; subst h; rfl))⟩

theorem ok_19 {σ : Type} (s : St) {k b : Nat} {D D' : Disk} (hd : DiskAt k s b D) (fv : Value) (J : σ → St → Prop) (q : Tg → Prop) (hqk : ∀ i, ¬ q (k, i)) (hJ : ∀ st s s', J st s → Tr No s s' → J st s') (hJk : ∀ st s s', J st s → Tr (Rt k) s s' → J st s')
    (c : σ → Int → Option (σ × Bool)) (hy : ∀ st z st' bb s, J st s → c st z = some (st', bb) → CallV Tryz.prog fv [.int .i64 z] s fun v s' => v = .bool bb ∧ J st' s' ∧ Tr q s s') {u u' : σ} (hj : J u s) (hm : m_49 c D u = some (D', u')) :
    Ok Tryz.prog 16 ([.pointer (some ⟨b, 0, none⟩), fv] : List Value).toArray s fun _ s' => DiskAt k s' b D' ∧ J u' s' ∧ Tr (Or (Rt k) q) s s' := by
  refine ok_of (n := 9) _ Tryz.func16 rfl _ rfl rfl fun a E => ?_
  refine G_seq ?_
  refine G_region ?_
  refine sd E (o_mv (E.ev rfl)) rfl rfl rfl fun a E => ?_
  refine sd E (o_nep Tryz.underlying25 (E.ev rfl) (E.ev rfl)) rfl rfl rfl fun a E => ?_
  refine GL_nil ?_
  refine tgn ?_
  refine G_cond (t := true) (E.ev rfl) (fun _ => ?_) nofun
  refine G_region ?_
  refine sd E (o_mv (E.ev rfl)) rfl rfl rfl fun a E => ?_
  refine sd E (o_mv (E.ev rfl)) rfl rfl rfl fun a E => ?_
  refine sh E (o_ok Tryz.call44 (E.evs rfl) (E.ev rfl) (ok_49 s hd fv J q hqk hJ hJk c hy hj hm)) rfl rfl rfl ?_
  rintro a _ s1 ⟨hd, hj, t1⟩ E
  refine GL_nil ?_
  exact fin0 E rfl ⟨hd, hj, t1⟩
end Go.Proofs.YtdkfdmalbbfbmaaGreat

/- The words of some sectors. -/
namespace Go.Proofs.YtdkfdmalbbfbmaaGreat
open Go Go.Maps
set_option maxRecDepth 4000

noncomputable def m_33b (D : Disk) (from_ sectors : Int) : List Int × Int → Option (Lo (List Int × Int) (List Int)) := fun (out, i) =>
  bif decide (i < sectors) then ob (m_14 D (IntKind.wrap .i64 (from_ + i))) fun (xs, e) => bif e != 0 then none else ob (ap out xs) fun out' => some (.inl (out', IntKind.wrap .i64 (i + 1))) else some (.inr out)
noncomputable def m_33 (D : Disk) (from_ sectors : Int) : Option (List Int) := loopO (m_33b D from_ sectors) ([], 0)

theorem ok_33 (s : St) {k b : Nat} {D : Disk} (hd : DiskAt k s b D) {from_ sectors : Int} {ws : List Int} (hm : m_33 D from_ sectors = some ws) :
    Ok Tryz.prog 75 ([.pointer (some ⟨b, 0, none⟩), .int .i64 from_, .int .i64 sectors] : List Value).toArray s fun v s' => Tr No s s' ∧ ∃ w2, v = .tuple #[w2, .int .i64 0] ∧ Sl kU s' w2 ws := by
  unfold m_33 at hm
  obtain ⟨κ, hk⟩ := s.fresh
  have hkk : k < κ := hk _ _ hd.tag
  refine ok_of (n := 32) _ Tryz.func75 rfl _ rfl rfl fun a E => ?_
  refine G_seq ?_
  refine G_region ?_
  refine sd E (o_as (E.ev rfl)) rfl rfl rfl fun a E => ?_
  refine sd E (o_as (E.ev rfl)) rfl rfl rfl fun a E => ?_
  refine GL_nil ?_
  refine tgn ?_
  refine G_seq ?_
  refine G_region ?_
  refine sd E (o_as (E.ev rfl)) rfl rfl rfl fun a E => ?_
  refine GL_nil ?_
  refine tgn ?_
  refine G_seq ?_
  refine G_seq ?_
  refine G_region ?_
  refine sd E (o_mv (E.ev rfl)) rfl rfl rfl fun a E => ?_
  refine sd E (o_mv (E.ev rfl)) rfl rfl rfl fun a E => ?_
  refine GL_nil ?_
  refine tgn ?_
  refine G_mid1 (fun a' w' => ∃ v8 s', w' = s'.w ∧ Tr (Rt κ) s s' ∧ Bd (κ, 1) kU 39 0 s' v8 ws ∧ En [] 32 a' [(8, v8)]) ?_ ?_
  · refine G_block ?_
    refine G_lp hm (fun st a' w' => ∃ out i v8 s', st = (out, i) ∧ w' = s'.w ∧ Tr (Rt κ) s s' ∧ Bd (κ, 1) kU 39 0 s' v8 out ∧ En [] 32 a' [(0, .pointer (some ⟨b, 0, none⟩)), (1, .int .i64 from_), (8, v8), (12, .int .i64 sectors), (13, .int .i64 i)])
      ⟨_, _, _, _, rfl, rfl, Tr.refl _ _, Bd.nil, (((((E.nil.ad E rfl rfl).ad E rfl rfl).ad E rfl rfl).ad E rfl rfl).ad E rfl rfl)⟩ ?_
    rintro _ a _ x ⟨out, i, v8, s1, rfl, rfl, t1, h8, E⟩ hf
    dsimp only [m_33b] at hf
    have hd := hd.tr t1 (fun i => nr (by omega))
    refine G_seq ?_
    refine G_region ?_
    refine sd E (o_bi (E.ev rfl) (E.ev rfl) rfl) rfl rfl rfl fun a E => ?_
    refine GL_nil ?_
    refine tgn ?_
    refine G_seq ?_
    refine G_cond (E.ev rfl) (fun ht => ?_) (fun ht => ?_)
    · have hf := cT ht hf
      refine G_skip ?_
      refine tgn ?_
      obtain ⟨⟨xs, e⟩, hr, hf⟩ := ob_some hf
      have hf : (bif e != 0 then none else ob (ap out xs) fun out' => some (Sum.inl (out', IntKind.wrap .i64 (i + 1)))) = some x := hf
      refine G_seq ?_
      refine G_block ?_
      refine G_seq ?_
      refine G_region ?_
      refine sd E (o_mv (E.ev rfl)) rfl rfl rfl fun a E => ?_
      refine sd E (o_as (E.ev rfl)) rfl rfl rfl fun a E => ?_
      refine GL_nil ?_
      refine tgn ?_
      refine G_seq ?_
      refine G_region ?_
      refine sd E (o_mv (E.ev rfl)) rfl rfl rfl fun a E => ?_
      refine sd E (o_mv (E.ev rfl)) rfl rfl rfl fun a E => ?_
      refine sd E (o_mv (E.ev rfl)) rfl rfl rfl fun a E => ?_
      refine sd E (o_bi (E.ev rfl) (E.ev rfl) rfl) rfl rfl rfl fun a E => ?_
      refine sh E (o_ok Tryz.call50 (E.evs rfl) (E.ev rfl) (ok_14 s1 hd hr)) rfl rfl rfl ?_
      rintro a _ s2 ⟨t2, rfl, hl8⟩ E
      refine sd E (o_mv (E.ev rfl)) rfl rfl rfl fun a E => ?_
      refine sd E (o_ext (v := eA .u64 xs) (E.ev rfl) rfl) rfl rfl rfl fun a E => ?_
      refine sd E (o_ext (v := .int .i64 e) (E.ev rfl) rfl) rfl rfl rfl fun a E => ?_
      refine sh E (o_ala (κ, 2) .u64 8 Tryz.zeroValue40 rfl) rfl rfl rfl ?_
      rintro a _ s3 ⟨b2, rfl, o2, t3⟩ E
      refine shN E (o_stA Tryz.sizeOf40 o2 (E.ev rfl) (E.ev rfl) (List.length_replicate ..) hl8) rfl rfl ?_
      rintro _ s4 ⟨o3, t4⟩
      refine sd E (o_as (E.ev rfl)) rfl rfl rfl fun a E => ?_
      refine GL_nil ?_
      refine tgn ?_
      refine G_seq ?_
      refine G_seq ?_
      refine G_region ?_
      refine sd E (o_mv (E.ev rfl)) rfl rfl rfl fun a E => ?_
      refine sd E (o_bi (E.ev rfl) (E.ev rfl) rfl) rfl rfl rfl fun a E => ?_
      refine GL_nil ?_
      refine tgn ?_
      refine G_cond (E.ev rfl) (fun he => ?_) (fun he => ?_)
      · have hf := cT he hf
        cases hf
      · have hf := cF he hf
        refine G_skip ?_
        refine tgn ?_
        obtain ⟨out', ho, hf⟩ := ob_some hf
        obtain rfl := Option.some.inj hf
        obtain ⟨hlen, hap⟩ := ap_some ho
        obtain ⟨s5, e5, o5, t5⟩ := o3.fz
        rw [e5]
        have h9 := o5.slA hl8
        refine G_region ?_
        refine sd E (o_mv (E.ev rfl)) rfl rfl rfl fun a E => ?_
        refine sd E (o_slS' Tryz.underlying40 Tryz.sizeOf39 (E.ev rfl)) rfl rfl rfl fun a E => ?_
        refine sh E (o_app Tryz.underlying36 Tryz.type39 rfl rfl rfl rfl rfl rfl ((((h8.trN t2).trN t3).tr t4 (nt_snd rfl)).tr t5 (nt_snd rfl)) (hl8 ▸ h9.rd) (E.ev rfl) (E.ev rfl) hlen (Nat.zero_le _)) rfl rfl rfl ?_
        rintro a v9 s6 ⟨h10, t6⟩ E
        rw [hap] at h10
        refine sd E (o_as (E.ev rfl)) rfl rfl rfl fun a E => ?_
        refine GL_nil ?_
        refine ebn ?_
        refine tgn ?_
        refine G_region ?_
        refine sd E (o_bi (E.ev rfl) (E.ev rfl) rfl) rfl rfl rfl fun a E => ?_
        refine sd E (o_mv (E.ev rfl)) rfl rfl rfl fun a E => ?_
        refine GL_nil ?_
        exact lpn ⟨_, _, _, s6, rfl, rfl, ((((t1.trans t2.no).trans t3.no).trans (t4.mono (by intro t h; subst h; rfl))).trans (t5.mono (by intro t h; subst h; rfl))).trans (t6.mono (by intro t h; subst h; rfl)), h10, (((((E.nil.ad E rfl rfl).ad E rfl rfl).ad E rfl rfl).ad E rfl rfl).ad E rfl rfl)⟩
    · have hf := cF ht hf
      obtain rfl := Option.some.inj hf
      refine G_exit ?_
      refine tge ?_
      refine lpe fun hr => ?_
      subst hr
      refine ebk ?_
      refine ctn ?_
      exact ⟨_, s1, rfl, t1, h8, E.nil.ad E rfl rfl⟩
  · rintro a _ ⟨v8, s1, rfl, t1, h8, E⟩
    refine tgn ?_
    refine G_seq ?_
    refine G_region ?_
    refine sd E (o_mv (E.ev rfl)) rfl rfl rfl fun a E => ?_
    refine sd E (o_as (E.ev rfl)) rfl rfl rfl fun a E => ?_
    refine sd E (o_as (E.ev rfl)) rfl rfl rfl fun a E => ?_
    refine GL_nil ?_
    refine tgn ?_
    refine G_ret ?_
    obtain ⟨s2, e2, h9, t2⟩ := h8.fz
    rw [e2]
    exact fin2 E rfl rfl rfl ⟨((Tr.refl No s).step hk t1 (fun t h => .inr (Nat.le_of_eq (Eq.symm h)))).step hk t2 (by intro t h; subst h; exact .inr (Nat.le_refl _)), _, rfl, h9⟩
end Go.Proofs.YtdkfdmalbbfbmaaGreat
