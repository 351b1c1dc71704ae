/- Roots of tags, and what the second printer leans on. -/
import Derived.Test.YtdkfdmalbbfbmaaGreatMWL12
import Derived.WalkKit
import Derived.ProofKit
import Derived.OpenShut
import Derived.ChangeOld
import Derived.ChangeArms
import Derived.DataReads
import Derived.Below
import Derived.Carry
/- Roots of tags, and what the second printer leans on. -/
namespace Go.Proofs.YtdkfdmalbbfbmaaGreat
open Go Go.Maps
set_option maxRecDepth 4000

/-- The tags of these roots. -/
def Ws (W : List Nat) : Tg → Prop := fun t => t.1 ∈ W
/-- The tags of these roots, and the new ones. -/
def Fz (κ : Nat) (W : List Nat) : Tg → Prop := fun t => κ ≤ t.1 ∨ t.1 ∈ W

section
variable {κ i j r a b c d : Nat} {W W' : List Nat} {s s' s'' : St}
theorem ra (h : Nat.beq i j = false) : κ + i ≠ κ + j := fun e => by
  have : i = j := Nat.add_left_cancel e
  subst this; simp at h
theorem rb (h : r < κ) : r ≠ κ + i := Nat.ne_of_lt (Nat.lt_of_lt_of_le h (Nat.le_add_right _ _))
theorem Fz.f : Fz κ W (κ + i, j) := .inl (Nat.le_add_right _ _)
theorem Fz.w0 : Fz κ (r :: W) (r, j) := .inr List.mem_cons_self
theorem Fz.w1 : Fz κ (a :: r :: W) (r, j) := .inr (List.mem_cons_of_mem _ List.mem_cons_self)
theorem Fz.w2 : Fz κ (a :: b :: r :: W) (r, j) := .inr (List.mem_cons_of_mem _ (List.mem_cons_of_mem _ List.mem_cons_self))
theorem Fz.w3 : Fz κ (a :: b :: c :: r :: W) (r, j) := .inr (List.mem_cons_of_mem _ (List.mem_cons_of_mem _ (List.mem_cons_of_mem _ List.mem_cons_self)))
theorem Tr.ft (h : Fz κ W (r, j)) (t : Tr (· = (r, j)) s s') : Tr (Fz κ W) s s' := t.mono fun _ e => by subst e; exact h
theorem Tr.fr (h : Fz κ W (r, 0)) (t : Tr (Rt r) s s') : Tr (Fz κ W) s s' := t.mono fun x e => by
  have e : x.1 = r := e
  rcases h with h | h
  · exact .inl (e ▸ h)
  · exact .inr (e ▸ h)
theorem Tr.fw1 (h : Fz κ W (a, 0)) (t : Tr (Ws [a]) s s') : Tr (Fz κ W) s s' := t.mono fun x e => by
  have e : x.1 = a := by simpa [Ws] using e
  rcases h with h | h
  · exact .inl (e ▸ h)
  · exact .inr (e ▸ h)
theorem Tr.fw2 (h : Fz κ W (a, 0)) (k : Fz κ W (b, 0)) (t : Tr (Ws [a, b]) s s') : Tr (Fz κ W) s s' := t.mono fun x e => by
  have e : x.1 = a ∨ x.1 = b := by simpa [Ws] using e
  rcases e with e | e
  · rcases h with h | h
    · exact .inl (e ▸ h)
    · exact .inr (e ▸ h)
  · rcases k with h | h
    · exact .inl (e ▸ h)
    · exact .inr (e ▸ h)
theorem Tr.fw3 (h : Fz κ W (a, 0)) (k : Fz κ W (b, 0)) (k2 : Fz κ W (c, 0)) (t : Tr (Ws [a, b, c]) s s') : Tr (Fz κ W) s s' := t.mono fun x e => by
  have e : x.1 = a ∨ x.1 = b ∨ x.1 = c := by simpa [Ws] using e
  rcases e with e | e | e
  · rcases h with h | h
    · exact .inl (e ▸ h)
    · exact .inr (e ▸ h)
  · rcases k with h | h
    · exact .inl (e ▸ h)
    · exact .inr (e ▸ h)
  · rcases k2 with h | h
    · exact .inl (e ▸ h)
    · exact .inr (e ▸ h)
theorem nW1 (h : r ≠ a) : ¬ Ws [a] (r, i) := fun e => h (by simpa [Ws] using e)
theorem nW2 (h : r ≠ a) (k : r ≠ b) : ¬ Ws [a, b] (r, i) := fun e => by
  have e : r = a ∨ r = b := by simpa [Ws] using e
  exact e.elim h k
theorem nW3 (h : r ≠ a) (k : r ≠ b) (k2 : r ≠ c) : ¬ Ws [a, b, c] (r, i) := fun e => by
  have e : r = a ∨ r = b ∨ r = c := by simpa [Ws] using e
  exact e.elim h fun e => e.elim k k2
theorem nZ0 (h : r < κ) : ¬ Fz κ [] (r, i) := fun e => by
  have e : κ ≤ r := by simpa [Fz] using e
  omega
theorem nZ1 (h : r < κ) (h1 : r ≠ a) : ¬ Fz κ [a] (r, i) := fun e => by
  have e : κ ≤ r ∨ r = a := by simpa [Fz] using e
  omega
theorem nZ2 (h : r < κ) (h1 : r ≠ a) (h2 : r ≠ b) : ¬ Fz κ [a, b] (r, i) := fun e => by
  have e : κ ≤ r ∨ r = a ∨ r = b := by simpa [Fz] using e
  omega
theorem nZ3 (h : r < κ) (h1 : r ≠ a) (h2 : r ≠ b) (h3 : r ≠ c) : ¬ Fz κ [a, b, c] (r, i) := fun e => by
  have e : κ ≤ r ∨ r = a ∨ r = b ∨ r = c := by simpa [Fz] using e
  omega
theorem Tr.fin (hk : ∀ b t, s.tag b = some t → t.1 < κ) (t : Tr (Fz κ W) s s') : Tr (Ws W) s s' := (Tr.refl _ s).step hk t fun _ h => h.elim .inr .inl
theorem Tr.fin0 (hk : ∀ b t, s.tag b = some t → t.1 < κ) (t : Tr (Fz κ []) s s') : Tr No s s' := (Tr.refl _ s).step hk t fun _ h => h.elim .inr fun h => absurd h List.not_mem_nil
theorem Tr.w1 (t : Tr (Rt a) s s') : Tr (Ws [a]) s s' := t.mono fun x e => by have e : x.1 = a := e; simp [Ws, e]
theorem Tr.w2 (t : Tr (Or (Rt a) (Rt b)) s s') : Tr (Ws [a, b]) s s' := t.mono fun x e => by
  rcases e with e | e
  · have e : x.1 = a := e; simp [Ws, e]
  · have e : x.1 = b := e; simp [Ws, e]
end

section
variable {α : Type} {K : Kd α} {s s' : St} {v u : Value} {xs ys : List α} {k : Tg} {T B b o : Nat} {i j : Int} {q : α} {P : Program} {w : World} {ρ : Operand → Value} {d : Option Nat} {g : Option (Nat × Bool)} {t : Nat} {pos : String} {af : Array Edge} {x y lo hi mx : Operand} {ik kk : IntKind} {e m : Nat} {κ : Tg}
theorem IxTo.uniq {n sz b o b' o' : Nat} (h : IxTo v i n sz b o) (h' : IxTo v i n sz b' o') : b = b' ∧ o = o' := by
  obtain ⟨o0, c, rfl, rfl, _⟩ := h
  obtain ⟨o1, c', e, rfl, _⟩ := h'
  injection e with e _ _
  injection e with e
  injection e with e1 e2
  subst e1; subst e2
  exact ⟨rfl, rfl⟩
theorem bd_ix (h : Bd k K T B s v xs) (hq : gt xs i = some q) : ∃ b o, IxTo v i xs.length K.sz b o := let ⟨b, o, h, _⟩ := h.gt hq; ⟨b, o, h⟩
theorem bd_cells (h : Bd k K T B s v xs) (hi : IxTo v i xs.length K.sz b o) (hq : gt xs i = some q) : ∃ es, K.R s es q ∧ ∀ j u, es[j]? = some u → s.w.cell? ⟨b, o + j, none⟩ = some u := by
  obtain ⟨b', o', g, _, es, h1, h2⟩ := h.gt hq
  obtain ⟨rfl, rfl⟩ := hi.uniq g
  exact ⟨es, h1, h2⟩
theorem bd_ci {xs : List Int} {q : Int} (h : Bd k (kInt ik) T B s v xs) (hi : IxTo v i xs.length 1 b o) (hq : gt xs i = some q) : s.w.cell? ⟨b, o, none⟩ = some (.int ik q) := by
  obtain ⟨es, h1, h2⟩ := bd_cells h hi hq
  have h1 : es = [.int ik q] := h1
  subst h1
  exact h2 0 _ rfl
theorem bd_cb {xs : List Bool} {q : Bool} (h : Bd k kBool T B s v xs) (hi : IxTo v i xs.length 1 b o) (hq : gt xs i = some q) : s.w.cell? ⟨b, o, none⟩ = some (.bool q) := by
  obtain ⟨es, h1, h2⟩ := bd_cells h hi hq
  have h1 : es = [.bool q] := h1
  subst h1
  exact h2 0 _ rfl
theorem bd_len8 {xs : List Sec} {q : Sec} (h : Bd k kA8 T B s v xs) (hq : gt xs i = some q) : q.length = 8 := by
  obtain ⟨b', o', g, _, es, h1, h2⟩ := h.gt hq
  exact h1.1
theorem bd_ca {xs : List Sec} {q : Sec} (h : Bd k kA8 T B s v xs) (hi : IxTo v i xs.length 8 b o) (hq : gt xs i = some q) : ∀ j u, (q.map (Value.int .u64))[j]? = some u → s.w.cell? ⟨b, o + j, none⟩ = some u := by
  obtain ⟨es, ⟨h0, h1⟩, h2⟩ := bd_cells h hi hq
  subst h1
  exact h2
theorem bd_ca1 {xs : List Sec} {q : Sec} {z : Int} (h : Bd k kA8 T B s v xs) (hi : IxTo v i xs.length 8 b o) (hq : gt xs i = some q) (hz : gt q j = some z) : s.w.cell? ⟨b, o + j.toNat, none⟩ = some (.int .u64 z) :=
  bd_ca h hi hq j.toNat _ (by rw [List.getElem?_map, gt_get hz]; rfl)
theorem o_ldB {xs : List Sec} {q : Sec} (hT : ∀ w, (isAgg T).run P w = .ok true w) (hz : ∀ w, (sizeOf T).run P w = .ok 8 w) (hx : ρ x = .pointer (some ⟨b, o, none⟩)) (h : Bd k kA8 e B s v xs) (hi : IxTo v i xs.length 8 b o) (hq : gt xs i = some q) :
    OpTo P ⟨d, .load T x, t, pos, af, g⟩ ρ s.w (eA .u64 q) s.w := o_lda _ hT hz hx (by rw [List.length_map]; exact bd_len8 h hq) (bd_ca h hi hq)
/-- The address of an element of an array that lies anywhere. -/
theorem o_ixo (hT : P.underlying T = some (.array m e)) (hz : ∀ w, (sizeOf e).run P w = .ok 1 w) (hx : ρ x = .pointer (some ⟨b, o, none⟩)) (hy : ρ y = .int kk i) (h0 : 0 ≤ i) (h1 : i < m) :
    OpTo P ⟨d, .indexAddr T x y, t, pos, af, g⟩ ρ w (.pointer (some ⟨b, o + i.toNat, none⟩)) w := by
  refine OpTo_value (by intro c h; cases h) ?_
  simp only [execOp, hx, hy]
  refine run_v _ ?_
  simp only [Instr.indexAt, Instr.sureAddr, asIntOf, Sem.run_bind, Sem.run_pure, Result.andThen, run_underlying hT]
  simp only [h0, h1, and_self, if_true, Sem.run_bind, hz, Result.andThen, Sem.run_pure, Addr.add]
  split
  · rename_i hq; simp [hq]
  · simp
/-- A whole array of one's own, read now as a slice. -/
theorem Own.rdA {xs : List Int} (h : Own κ s b (cA ik xs) T) (hl : xs.length = m) : Rd (kInt ik) s (.slice (some ⟨b, 0, none⟩) m m) xs := by
  subst hl
  refine ⟨_, _, xs.map (Value.int ik), rfl, Nat.le_refl _, Encs.ints, fun h => (by cases h), fun ad had => ?_⟩
  cases had
  refine ⟨fun _ => rfl, fun j u hu => ?_⟩
  rw [add_none, Nat.zero_add, h.cell]
  simpa [cA] using hu
/-- The head of a slice, full. -/
theorem sl_hd {h : Int} (hs : Sl K s v xs) (hy : sl xs 0 h = some ys) (hne : xs.isEmpty = false) (hT : P.underlying T = some (.slice e)) (hz : ∀ w, (sizeOf e).run P w = .ok K.sz w) :
    ∃ u, (∀ (w : World) (d g t pos af ρ) (x hi mx : Operand), ρ x = v → ρ hi = .int .i64 h → ρ mx = .int .i64 h → OpTo P ⟨d, .slice T x none (some hi) (some mx), t, pos, af, g⟩ ρ w u w) ∧ Sl K s u ys ∧ ∃ b o, u = .slice (some ⟨b, o, none⟩) ys.length ys.length := by
  obtain ⟨_, h1, h2, hys⟩ := sl_some hy
  have hys : xs.take h.toNat = ys := by simpa using hys
  subst hys
  obtain ⟨ao, c, hv, hc, hn, hh⟩ := id hs
  rcases hh with he | ⟨b, o, cs, ha, hm, hb, he, hx⟩
  · subst he; simp at hne
  subst ha
  have hlen : (xs.take h.toNat).length = h.toNat := by simp; omega
  refine ⟨.slice (some ⟨b, o, none⟩) h.toNat h.toNat, fun w d g t pos af ρ x hi mx hx hh hm => OpTo_value (by intro c h; cases h) ?_, ?_, b, o, by rw [hlen]⟩
  · simp only [execOp, hx, hv, Option.map_some, Option.map_none, hh, hm]
    refine run_v _ ?_
    have e1 : (Instr.sliceBounds true xs.length c none (some (.int .i64 h)) (some (.int .i64 h))).run P w = .ok (0, h.toNat, h.toNat) w := by
      have h3 : h ≤ (c : Int) := by omega
      have h4 : h ≤ (h.toNat : Int) := by omega
      have h5 := run_sliceBound (P := P) (w := w) .i64 h c .slice3Acap h1 h3
      have h6 := run_sliceBound (P := P) (w := w) .i64 h h.toNat .slice3B h1 h4
      simp only [Instr.sliceBounds, Sem.run_bind, Result.andThen, if_true, h5, h6, Sem.run_pure]
    simp only [Instr.sliceAt, Instr.slice, Sem.run_bind, run_underlying hT, Result.andThen, e1, hz]
    simp [Sem.run, add_none]
  · refine ⟨some ⟨b, o, none⟩, h.toNat, by rw [hlen], by rw [hlen]; exact Nat.le_refl _, nofun, .inr ⟨b, o, _, rfl, hm, hb, he.take h.toNat, fun j u hu => ?_⟩⟩
    rw [List.getElem?_take] at hu
    split at hu
    · exact hx _ _ hu
    · cases hu
end

section
variable {P : Program} {s s' : St} {v u : Value} {xs : List Frame} {k : Tg} {T B b o j : Nat} {i : Int} {q : Frame} {w : World} {ρ : Operand → Value} {d : Option Nat} {g : Option (Nat × Bool)} {t : Nat} {pos : String} {af : Array Edge} {x y : Operand} {e : Nat}
theorem bd_fr (h : Bd k kFr T B s v xs) (hi : IxTo v i xs.length 2 b o) (hq : gt xs i = some q) : ∃ w, s.w.cell? ⟨b, o, none⟩ = some (.int .i64 q.Kind) ∧ s.w.cell? ⟨b, o + 1, none⟩ = some w ∧ Sl kU s w q.Words := by
  obtain ⟨es, ⟨w, rfl, hw⟩, h2⟩ := bd_cells h hi hq
  exact ⟨w, h2 0 _ rfl, h2 1 _ rfl, hw⟩
theorem bd_ck {α : Type} {K : Kd α} {xs : List α} {n : Nat} (h : Bd k K T B s v xs) (hi : IxTo v i n K.sz b o) (t : Tr No s s') (hc : s.w.cell? ⟨b, j, none⟩ = some u) : s'.w.cell? ⟨b, j, none⟩ = some u := by
  obtain ⟨o0, c, rfl, _, _⟩ := hi
  have ht := (h.lt b rfl).1
  exact (World.cell?_of_block (a := ⟨b, j, none⟩) (t.own b k ht (fun h => h)).2).trans hc
theorem At.ckl {α : Type} {K : Kd α} {p : Addr} {x : α} (h : At K s p x) (l : Le s s') {j : Nat} {u : Value} (hc : s.w.cell? ⟨p.block, j, none⟩ = some u) : s'.w.cell? ⟨p.block, j, none⟩ = some u := by
  obtain ⟨h1, h2, h3, _⟩ := h
  exact (World.cell?_of_block (a := ⟨p.block, j, none⟩) (l.blk _ h3 h2).2).trans hc
/-- The cells of a load, one by one. -/
def CellsAt (w : World) (b : Nat) : Nat → List Value → Prop
  | _, [] => True
  | o, v :: vs => w.cell? ⟨b, o, none⟩ = some v ∧ CellsAt w b (o + 1) vs
theorem CellsAt.get : ∀ {o : Nat} {vs : List Value}, CellsAt w b o vs → ∀ j u, vs[j]? = some u → w.cell? ⟨b, o + j, none⟩ = some u
  | _, [], _, j, u, h => by simp at h
  | o, v :: vs, h, 0, u, hu => by simp at hu; subst hu; exact h.1
  | o, v :: vs, h, j + 1, u, hu => by
    have := h.2.get j u (by simpa using hu)
    rwa [Nat.add_assoc, Nat.add_comm 1 j] at this
theorem o_ldn {sz : Nat} (hT : ∀ w, (isAgg T).run P w = .ok true w) (hz : ∀ w, (sizeOf T).run P w = .ok sz w) (hx : ρ x = .pointer (some ⟨b, o, none⟩)) (vs : List Value) (hl : vs.length = sz) (hc : CellsAt w b o vs) :
    OpTo P ⟨d, .load T x, t, pos, af, g⟩ ρ w (.agg vs.toArray) w := o_lda vs hT hz hx hl hc.get
theorem one_cells {v : Value} (h : v.cells.toList.all (·.oneCell') = true) : ∀ u ∈ v.cells.toList, u.oneCell' = true := fun u hu => List.all_eq_true.1 h u hu
/-- n zeros of one cell each, one's own. -/
theorem o_ms1 {α : Type} {K : Kd α} {by_ B : Nat} {c0 : Value} {q : α} {s : St} (κ : Tg) {i : TypeInfo} {n : Int} {k k' : IntKind} (hT : P.underlying T = some (.slice e)) (hi : P.info? e = some i) (hz : i.zero = some c0) (hcc : c0.cells = #[c0]) (hsz : i.size = 1) (hsz1 : K.sz = 1) (hby : i.bytes = by_)
    (hq : ∀ s, K.R s [c0] q) (hx : ρ x = .int k n) (hy : ρ y = .int k' n) (h0 : 0 ≤ n) (h1 : n ≤ 4096) (hb : Nat.ble by_ 4096 = true) (hB : B ≤ s.w.heap.size) :
    Hv P ⟨d, .makeSlice T x y, t, pos, af, g⟩ ρ s fun v s' => Bd κ K e B s' v (List.replicate n.toNat q) ∧ Tr No s s' := by
  have hb' := Nat.le_of_ble_eq_true hb
  have hmul : (i.bytes : Int) * n ≤ 281474976710656 := by
    rw [hby]
    have : (by_ : Int) * n ≤ 4096 * 4096 := Int.mul_le_mul (by omega) h1 h0 (by omega)
    omega
  have hr := run_make (P := P) s.w T e i _ hT hi hz k k' n n h0 (Int.le_refl _) hmul (by omega)
  rw [hsz, hcc] at hr
  have e1 : (#[c0] : Array Value) = (List.replicate 1 c0).toArray := rfl
  rw [e1] at hr
  have hown := (Own.new s (madeCells (List.replicate 1 c0).toArray (n.toNat * 1)) e κ).bd (K := K) (xs := List.replicate n.toNat q) (m := n.toNat) hB (by
    rw [made_rep (by decide)]
    have := Encs.rep (K := K) (s := s.new (.cells (madeCells (List.replicate 1 c0).toArray (n.toNat * 1)) e) κ) (c0 := c0) (q := q) (by rw [hsz1]; exact hq _) n.toNat
    rw [hsz1] at this
    exact this) (by simp) (by
    have : n.toNat ≤ 4294967296 := by omega
    exact Nat.ble_eq_true_of_le this)
  exact hvo (s.new _ κ) (OpTo_value (by intro c h; cases h) (by
    simp only [execOp, hx, hy]
    exact run_v' _ hr)) ⟨hown, Tr.new s _ κ⟩
theorem ix_le {i m : Int} (h : gd (decide (0 ≤ i) && decide (i ≤ m)) (some ()) = some ()) : 0 ≤ i ∧ i ≤ m := by
  have := (gd_some h).1
  simp only [Bool.and_eq_true, decide_eq_true_eq] at this
  exact this
end

/-- What comes back as the caller's own may as well stay. -/
theorem bd_frozen {α : Type} {K : Kd α} {P : Program} {f : FuncId} {args : Array Value} {s : St} {T B : Nat} {xs : List α} (F : Value → Value)
    (h : ∀ tr, Ok P f args s fun v s' => Tr No s s' ∧ ∃ w, v = F w ∧ Bd tr K T B s' w xs) : Ok P f args s fun v s' => Tr No s s' ∧ ∃ w, v = F w ∧ Sl K s' w xs := by
  obtain ⟨κ, hk⟩ := s.fresh
  refine Calls.mono (h (κ, 0)) fun e w' ⟨v, he, s', hw, t, w, hv, hb⟩ => ?_
  obtain ⟨s2, e2, h2, t2⟩ := hb.fz
  exact ⟨v, he, s2, hw.trans e2, t.step hk t2 (by intro t h; subst h; exact .inr (Nat.le_refl _)), w, hv, h2⟩
section
variable {α : Type} {K : Kd α} {D : List Deferred} {n : Nat} {a : Act} {L : Vs} {P : Program} {ops : Array Oper} {Q : Act → World → Prop} {s : St} {bm : Array Nat} {ka i d : Nat} {R hs rs fs : List Nat} {o : Oper} {T e by_ : Nat} {c0 : Value} {q : α} {m : Int} {k k' : IntKind} {t : Nat} {pos : String} {af : Array Edge} {g : Option (Nat × Bool)} {x y : Operand}
/-- n zeros, in a drawn region, wherever they stand. -/
theorem dms (E : En D n a L) (ho : ops[i]? = some ⟨some d, .makeSlice T x y, t, pos, af, g⟩) {ti : TypeInfo} (hT : P.underlying T = some (.slice e)) (hi : P.info? e = some ti) (hz : ti.zero = some (.agg (List.replicate K.sz c0).toArray)) (hsz : ti.size = K.sz) (hpos : Nat.ble 1 K.sz = true) (hby : ti.bytes = by_)
    (hq : ∀ s, K.R s (List.replicate K.sz c0) q) (hx : a.eval x = .int k m) (hy : a.eval y = .int k' m) (h0 : 0 ≤ m) (h1 : m ≤ 4096) (hbb : Nat.ble by_ 4096 = true) (hn : Nat.ble (d + 1) n = true) (hg : gdL ops L g = some true) (hb : hs.all (bef bm i) = true)
    (kk : ∀ a' v s', Bd (ka, i) K e 0 s' v (List.replicate m.toNat q) → Tr No s s' → En D n a' ((d, v) :: L) → GD P ops bm ka R hs rs (i :: fs) a' s' Q) : GD P ops bm ka (i :: R) hs rs fs a s Q := by
  have hb' := Nat.le_of_ble_eq_true hbb
  have hmul : (ti.bytes : Int) * m ≤ 281474976710656 := by
    rw [hby]
    have : (by_ : Int) * m ≤ 4096 * 4096 := Int.mul_le_mul (by omega) h1 h0 (by omega)
    omega
  refine dn (T := fun b => .slice (some ⟨b, 0, none⟩) m.toNat m.toNat) (z := .cells (madeCells (List.replicate K.sz c0).toArray (m.toNat * K.sz)) e) E ho (by intro c h; cases h) (fun w => ?_) rfl hn hg hb fun a' v s' ⟨b, hv, h2, h3⟩ tr E => ?_
  · have hr := run_make (P := P) w T e ti _ hT hi hz k k' m m h0 (Int.le_refl _) hmul (by omega)
    rw [hsz] at hr
    simp only [execOp, hx, hy]
    exact run_v' _ hr
  · subst hv
    have hown : Own (ka, i) s' b (madeCells (List.replicate K.sz c0).toArray (m.toNat * K.sz)) e := ⟨h2, h3⟩
    exact kk _ _ _ (hown.bd (K := K) (xs := List.replicate m.toNat q) (m := m.toNat) (Nat.zero_le _) (by
      rw [made_rep (Nat.le_of_ble_eq_true hpos)]; exact Encs.rep (hq _) _) (by simp) (by
      have : m.toNat ≤ 4294967296 := by omega
      exact Nat.ble_eq_true_of_le this)) tr E
theorem dms1 (E : En D n a L) (ho : ops[i]? = some ⟨some d, .makeSlice T x y, t, pos, af, g⟩) {ti : TypeInfo} (hT : P.underlying T = some (.slice e)) (hi : P.info? e = some ti) (hz : ti.zero = some c0) (hcc : c0.cells = #[c0]) (hsz : ti.size = 1) (hsz1 : K.sz = 1) (hby : ti.bytes = by_)
    (hq : ∀ s, K.R s [c0] q) (hx : a.eval x = .int k m) (hy : a.eval y = .int k' m) (h0 : 0 ≤ m) (h1 : m ≤ 4096) (hbb : Nat.ble by_ 4096 = true) (hn : Nat.ble (d + 1) n = true) (hg : gdL ops L g = some true) (hb : hs.all (bef bm i) = true)
    (kk : ∀ a' v s', Bd (ka, i) K e 0 s' v (List.replicate m.toNat q) → Tr No s s' → En D n a' ((d, v) :: L) → GD P ops bm ka R hs rs (i :: fs) a' s' Q) : GD P ops bm ka (i :: R) hs rs fs a s Q := by
  have hb' := Nat.le_of_ble_eq_true hbb
  have hmul : (ti.bytes : Int) * m ≤ 281474976710656 := by
    rw [hby]
    have : (by_ : Int) * m ≤ 4096 * 4096 := Int.mul_le_mul (by omega) h1 h0 (by omega)
    omega
  refine dn (T := fun b => .slice (some ⟨b, 0, none⟩) m.toNat m.toNat) (z := .cells (madeCells (List.replicate 1 c0).toArray (m.toNat * 1)) e) E ho (by intro c h; cases h) (fun w => ?_) rfl hn hg hb fun a' v s' ⟨b, hv, h2, h3⟩ tr E => ?_
  · have hr := run_make (P := P) w T e ti _ hT hi hz k k' m m h0 (Int.le_refl _) hmul (by omega)
    rw [hsz, hcc] at hr
    simp only [execOp, hx, hy]
    exact run_v' _ hr
  · subst hv
    have hown : Own (ka, i) s' b (madeCells (List.replicate 1 c0).toArray (m.toNat * 1)) e := ⟨h2, h3⟩
    exact kk _ _ _ (hown.bd (K := K) (xs := List.replicate m.toNat q) (m := m.toNat) (Nat.zero_le _) (by
      rw [made_rep (by decide)]
      have := Encs.rep (K := K) (s := s') (c0 := c0) (q := q) (by rw [hsz1]; exact hq _) m.toNat
      rw [hsz1] at this
      exact this) (by simp) (by
      have : m.toNat ≤ 4294967296 := by omega
      exact Nat.ble_eq_true_of_le this)) tr E
end

theorem nq {ka m : Nat} {R : List Nat} (h : R.contains m = false) : ∀ n ∈ R, ¬ ((ka, n) : Tg) = (ka, m) := fun n hn e => by
  have : n = m := congrArg Prod.snd e
  subst this
  simp at h
  exact h hn
theorem hv_swapq {P : Program} {o : Oper} {ρ : Operand → Value} {s : St} {q : Tg → Prop} {Z : Value → St → Prop} (h : Hv P o ρ s fun v s1 => Tr q s s1 ∧ Z v s1) : Hv P o ρ s fun v s1 => Z v s1 ∧ Tr q s s1 :=
  OpW.mono h fun _ _ ⟨s1, e, t, z⟩ => ⟨s1, e, z, t⟩
theorem hv_t {P : Program} {o : Oper} {ρ : Operand → Value} {s : St} {q : Tg → Prop} (h : Hv P o ρ s fun _ s1 => Tr q s s1) : Hv P o ρ s fun _ s1 => True ∧ Tr q s s1 :=
  OpW.mono h fun _ _ ⟨s1, e, t⟩ => ⟨s1, e, trivial, t⟩
section
variable {α : Type} {K : Kd α} {D : List Deferred} {n : Nat} {a : Act} {L : Vs} {P : Program} {ops : Array Oper} {Q : Act → World → Prop} {s : St} {bm : Array Nat} {ka i d : Nat} {R hs rs fs : List Nat} {T e sz : Nat} {t : Nat} {pos : String} {af : Array Edge} {g : Option (Nat × Bool)}
/-- No elements, in a drawn region, wherever they stand. -/
theorem dbs0 (E : En D n a L) (ho : ops[i]? = some ⟨some d, .buildSlice T 0 #[], t, pos, af, g⟩) (hT : P.underlying T = some (.slice e)) (hs' : ∀ w, (sizeOf e).run P w = .ok K.sz w) (hn : Nat.ble (d + 1) n = true) (hg : gdL ops L g = some true) (hb : hs.all (bef bm i) = true)
    (kk : ∀ a' v s', Bd (ka, i) K e 0 s' v [] → Tr No s s' → En D n a' ((d, v) :: L) → GD P ops bm ka R hs rs (i :: fs) a' s' Q) : GD P ops bm ka (i :: R) hs rs fs a s Q := by
  refine dn (T := fun b => .slice (some ⟨b, 0, none⟩) 0 0) (z := .cells #[] e) E ho (by intro c h; cases h) (fun w => ?_) rfl hn hg hb fun a' v s' ⟨b, hv, h2, h3⟩ tr E => ?_
  · simp only [execOp]
    refine run_v' _ ?_
    simp [Instr.buildSlice, Sem.run_bind, run_underlying hT, Result.andThen, hs', newRow, newObj, Sem.run, Instr.fill, Array.range_zero']
  · subst hv
    exact kk _ _ _ (Own.bd (cells := #[]) ⟨h2, h3⟩ (Nat.zero_le _) rfl rfl rfl) tr E
/-- A literal. -/
theorem dbs (xs : List α) (E : En D n a L) {m : Nat} {ps : Array (Nat × Operand)} (ho : ops[i]? = some ⟨some d, .buildSlice T m ps, t, pos, af, g⟩) {z : Value} {cells : Array Value} {qs : Array (Nat × Value)} (hT : P.underlying T = some (.slice e)) (hs' : ∀ w, (sizeOf e).run P w = .ok sz w) (hz : ∀ w, (zeroValue e).run P w = .ok z w)
    (hq : (ps.map fun (i, x) => (i, a.eval x)) = qs) (hm : (m * sz == 0) = false) (hm2 : Nat.ble (m * sz) 16777216 = true) (hfill : Instr.fill (fun i => some (i * sz, sz)) ((Array.range (m * sz)).map (z.cells[· % z.cells.size]!)) qs.toList = some cells)
    (henc : ∀ s', Le s s' → Encs K s' xs cells.toList) (hlen : xs.length = m) (hm3 : Nat.ble m 4294967296 = true) (hn : Nat.ble (d + 1) n = true) (hg : gdL ops L g = some true) (hb : hs.all (bef bm i) = true)
    (kk : ∀ a' s' b, Bd (ka, i) K e 0 s' (.slice (some ⟨b, 0, none⟩) m m) xs → Tr No s s' → En D n a' ((d, .slice (some ⟨b, 0, none⟩) m m) :: L) → GD P ops bm ka R hs rs (i :: fs) a' s' Q) : GD P ops bm ka (i :: R) hs rs fs a s Q := by
  refine dn (T := fun b => .slice (some ⟨b, 0, none⟩) m m) (z := .cells cells e) E ho (by intro c h; cases h) (fun w => ?_) rfl hn hg hb fun a' v s' ⟨b, hv, h2, h3⟩ tr E => ?_
  · simp only [execOp, hq]
    exact run_v' _ (run_bs hT hs' hz hm hm2 hfill)
  · subst hv
    exact kk _ _ _ (Own.bd (cells := cells) ⟨h2, h3⟩ (Nat.zero_le _) (henc s' tr.le) hlen hm3) tr E
end

/-! Turning a log's owner. -/
theorem LogAt.rt {k bd : Nat} {s : St} {b : Nat} {L : LogM} (h : LogAt k bd s b L) (r : Nat) : ∃ s', s.w = s'.w ∧ LogAt r bd s' b L ∧ Tr (Rt k) s s' := by
  obtain ⟨wv, fv, h1, h2, h3⟩ := h
  by_cases e : r = k
  · subst e; exact ⟨s, rfl, ⟨wv, fv, h1, h2, h3⟩, Tr.refl _ _⟩
  obtain ⟨s1, e1, h1, t1⟩ := h1.rt (r, 0)
  have h2 := h2.tr t1 (nt_snd rfl)
  have h3 := h3.tr t1 (nt_snd rfl)
  have t1 : Tr (Rt k) s s1 := t1.mono (by intro t h; subst h; rfl)
  have key : ∃ s2, s1.w = s2.w ∧ Own (r, 0) s2 b #[.pointer (some ⟨bd, 0, none⟩), .int .i64 L.from_, .int .i64 L.sectors, .int .i64 L.epoch, wv, fv] 112 ∧ Ap (r, 1) kU 39 0 s2 wv L.words ∧ Bd (k, 2) kFr 38 0 s2 fv L.frames ∧ Tr (Rt k) s1 s2 := by
    rcases h2 with h2 | ⟨h2, hf⟩
    · obtain ⟨s2, e2, h2, t2⟩ := h2.rt (r, 1)
      exact ⟨s2, e2, h1.tr t2 (nt_fst e), .inl h2, h3.tr t2 (nt_snd rfl), t2.mono (by intro t h; subst h; rfl)⟩
    · exact ⟨s1, rfl, h1, .inr ⟨h2, hf⟩, h3, Tr.refl _ _⟩
  obtain ⟨s2, e2, h1, h2, h3, t2⟩ := key
  obtain ⟨s3, e3, h3, t3⟩ := h3.rt (r, 2)
  exact ⟨s3, e1.trans (e2.trans e3), ⟨wv, fv, h1.tr t3 (nt_fst e), h2.tr t3 (nt_fst e), h3⟩, (t1.trans t2).trans (t3.mono (by intro t h; subst h; rfl))⟩
end Go.Proofs.YtdkfdmalbbfbmaaGreat

/- What a row's arguments say: read as data of our kinds, to stay. -/
namespace Go.Proofs.YtdkfdmalbbfbmaaGreat
open Go Go.ChangeShapes Go.WideShapes Go.ChangeAt Go.RowKit

/-- Nothing may be written. -/
def St.cold (w : World) : St := ⟨fun _ => Option.none, w, fun _ h => absurd rfl h⟩
theorem cold_M (w : World) (b : Nat) : ¬ (St.cold w).M b := fun h => h rfl
theorem Tr.below {s' : St} {w : World} (t : Tr No (St.cold w) s') : Below w.heap.size w s'.w := t.ext.below

/-- Things of the type e read as the kind K, and are ok. -/
def Dec {α : Type} (P : Program) (K : Kd α) (e : TypeId) (ok : α → Prop) : Prop :=
  P.cellsOf e = K.sz ∧ ∀ {H : Type} (enc : TypeId × Value → H) (w : World) (fuel : Nat) (cs : List Value) (x : DataW H × List MemPlace),
    DataW.trod enc P w 0 (fun _ => true) true fuel e cs = some x → ∃ a, K.R (St.cold w) cs a ∧ ok a

variable {P : Program} {t e : TypeId}
theorem Dec.int {k : IntKind} (he : P.underlying e = some (.int k)) (hc : P.cellsOf e = 1) : Dec P (kInt k) e (fun n => (Lit.int k n).wf = true) :=
  ⟨hc, fun enc w fuel cs x h => let ⟨n, h1, _, h2⟩ := DataW.trod_int he h; ⟨n, h1, h2⟩⟩
theorem Dec.bool (he : P.underlying e = some .bool) (hc : P.cellsOf e = 1) : Dec P kBool e (fun _ => True) :=
  ⟨hc, fun enc w fuel cs x h => let ⟨n, h1, _⟩ := DataW.trod_bool he h; ⟨n, h1, trivial⟩⟩

theorem encs_of {α : Type} {K : Kd α} {s : St} {ok : α → Prop} {b o : Nat} (hall : ∀ b, ¬ s.M b) : ∀ (n i : Nat),
    (∀ j, i ≤ j → j < i + n → ∃ cs a, K.R s cs a ∧ ok a ∧ ∀ q u, cs[q]? = some u → s.w.cell? ⟨b, o + j * K.sz + q, none⟩ = some u) →
    ∃ xs cs, Encs K s xs cs ∧ xs.length = n ∧ (∀ x ∈ xs, ok x) ∧ ∀ j u, cs[j]? = some u → s.w.cell? ⟨b, o + i * K.sz + j, none⟩ = some u
  | 0, i, _ => ⟨[], [], rfl, rfl, (fun x h => absurd h List.not_mem_nil), fun j u h => absurd h (by simp)⟩
  | n + 1, i, h => by
    obtain ⟨cs0, a, h1, h2, h3⟩ := h i (Nat.le_refl _) (by omega)
    obtain ⟨xs, cs, k1, k2, k3, k4⟩ := encs_of hall n (i + 1) (fun j hj hj2 => h j (by omega) (by omega))
    refine ⟨a :: xs, cs0 ++ cs, ⟨cs0, cs, rfl, h1, k1⟩, by simp [k2], fun x hx => ?_, fun j u hu => ?_⟩
    · rcases List.mem_cons.1 hx with rfl | hx
      · exact h2
      · exact k3 x hx
    · rw [List.getElem?_append] at hu
      split at hu
      · exact h3 j u hu
      · rename_i hj
        have := k4 _ u hu
        have hl := K.len h1
        have e1 : o + (i + 1) * K.sz + (j - cs0.length) = o + i * K.sz + j := by rw [Nat.add_mul, hl]; omega
        rwa [e1] at this

theorem Dec.sl {α : Type} {K : Kd α} {ok : α → Prop} (D : Dec P K e ok) (hpos : 0 < K.sz) (ht : P.underlying t = some (.slice e)) (hc : P.cellsOf t = 1) :
    Dec P (kSl K) t (fun xs => xs.length ≤ maxLen ∧ ∀ x ∈ xs, ok x) := by
  refine ⟨hc, fun enc w fuel cs x h => ?_⟩
  obtain ⟨hsz, D⟩ := D
  rcases DataW.trod_slice ht h with ⟨rfl, _⟩ | ⟨a, len, cap, elems, rest, n, _, rfl, _, _, hl, hm, hlen, hel, _⟩
  · exact ⟨[], ⟨_, rfl, Sl.nil⟩, Nat.zero_le _, fun x h => by cases h⟩
  by_cases h0 : len = 0
  · subst h0
    exact ⟨[], ⟨_, rfl, some a, cap, rfl, Nat.zero_le _, nofun, .inl rfl⟩, Nat.zero_le _, fun x h => by cases h⟩
  have get : ∀ i, i < len → ∃ cs a', K.R (St.cold w) cs a' ∧ ok a' ∧ ∀ q u, cs[q]? = some u → w.cell? ((a.add (i * K.sz)).add q) = some u := by
    intro i hi
    have h1 := hel i hi
    obtain ⟨y, hy⟩ : ∃ y, elems[i]? = some y := ⟨_, List.getElem?_eq_getElem (by omega)⟩
    rw [hy, Option.bind_eq_some_iff] at h1
    obtain ⟨cs', h1, h2⟩ := h1
    obtain ⟨_, hl', hcs⟩ := World.cells?_some h1
    obtain ⟨a', k1, k2⟩ := D enc w n cs' y h2
    refine ⟨cs', a', k1, k2, fun q u hq => ?_⟩
    have hq' := (List.getElem?_eq_some_iff.1 hq).1
    rw [hsz] at hcs hl'
    rw [← hq]; exact hcs q (by omega)
  have hspot : a.spot = none := by
    obtain ⟨cs', a', k1, _, k3⟩ := get 0 (by omega)
    have hl' := K.len k1
    have := k3 0 _ (List.getElem?_eq_getElem (by omega))
    have e1 : (a.add (0 * K.sz)).add 0 = a := by simp [Addr.add]
    rw [e1] at this
    unfold World.cell? at this
    split at this
    · split at this
      · cases this
      · rename_i h; simpa using h
    · cases this
  obtain ⟨b, o, sp⟩ := a
  simp only at hspot; subst hspot
  obtain ⟨xs, cs, k1, k2, k3, k4⟩ := encs_of (K := K) (s := St.cold w) (ok := ok) (b := b) (o := o) (cold_M w) len 0 (fun j _ hj => by
    obtain ⟨cs, a', g1, g2, g3⟩ := get j (by omega)
    refine ⟨cs, a', g1, g2, fun q u hq => ?_⟩
    have := g3 q u hq
    rw [add_none, add_none] at this
    exact this)
  refine ⟨xs, ⟨_, rfl, some ⟨b, o, none⟩, cap, by rw [k2], by omega, nofun, .inr ⟨b, o, cs, rfl, cold_M w b, ?_, k1, fun j u hu => ?_⟩⟩, by omega, k3⟩
  · obtain ⟨cs', a', k1, _, k3⟩ := get 0 (by omega)
    have hl' := K.len k1
    have := k3 0 _ (List.getElem?_eq_getElem (by omega))
    rw [add_none, add_none] at this
    unfold World.cell? at this
    split at this
    · rename_i hb
      exact (Array.getElem?_eq_some_iff.1 hb).1
    · cases this
  · have := k4 j u hu
    simpa using this

theorem Dec.fr {Tk Tw Te : TypeId} {f0 f1 : Field} (he : P.underlying e = some (.struct #[f0, f1])) (hc : P.cellsOf e = 2) (h0 : f0.offset = 0) (h1 : f1.offset = 1) (t0 : f0.type = Tk) (t1 : f1.type = Tw)
    (hk : P.underlying Tk = some (.int .i64)) (ck : P.cellsOf Tk = 1) (hw : P.underlying Tw = some (.slice Te)) (cw : P.cellsOf Tw = 1) (hu : P.underlying Te = some (.int .u64)) (cu : P.cellsOf Te = 1) :
    Dec P kFr e (fun F => (Lit.int .i64 F.Kind).wf = true ∧ F.Words.length ≤ maxLen ∧ ∀ x ∈ F.Words, (Lit.int .u64 x).wf = true) := by
  refine ⟨hc, fun enc w fuel cs x h => ?_⟩
  obtain ⟨xs, n, _, _, hl, hxl, hf⟩ := DataW.trod_struct he h
  rw [hc] at hl
  obtain ⟨c0, c1, rfl⟩ : ∃ a b, cs = [a, b] := by
    match cs, hl with
    | [a, b], _ => exact ⟨a, b, rfl⟩
  have g0 := hf 0 f0 rfl
  have g1 := hf 1 f1 rfl
  rw [t0, h0, ck] at g0
  rw [t1, h1, cw] at g1
  obtain ⟨y0, hy0⟩ : ∃ y, xs[0]? = some y := ⟨_, List.getElem?_eq_getElem (by rw [hxl]; simp)⟩
  obtain ⟨y1, hy1⟩ : ∃ y, xs[1]? = some y := ⟨_, List.getElem?_eq_getElem (by rw [hxl]; simp)⟩
  rw [hy0] at g0
  rw [hy1] at g1
  obtain ⟨k, hk1, hk2⟩ := (Dec.int hk ck).2 enc w n _ _ g0
  obtain ⟨ws, ⟨v, hv, hs⟩, hw2⟩ := (Dec.sl (Dec.int hu cu) (by decide) hw cw).2 enc w n _ _ g1
  have hk1 : [c0] = [.int .i64 k] := hk1
  simp at hk1 hv
  subst hk1; subst hv
  exact ⟨⟨k, ws⟩, ⟨c1, rfl, hs⟩, hk2, hw2⟩
end Go.Proofs.YtdkfdmalbbfbmaaGreat

/- Contracts that were proved by hand, in the printer's form. -/
namespace Go.Proofs.YtdkfdmalbbfbmaaGreat
open Go Go.Maps
set_option maxRecDepth 4000

section
variable (s : St) {k kd bd b : Nat} {D D' : Disk} {L L' : LogM}
def mq_32 (D : Disk) : Option Int := some (D.lasts.length : Int)
theorem oq_32 (hd : DiskAt k s b D) {r : Int} (hm : mq_32 D = some r) :
    Ok Tryz.prog 23 ([.pointer (some ⟨b, 0, none⟩)] : List Value).toArray s fun v s' => Tr No s s' ∧ v = .int .i64 r := by
  cases hm; exact ok_32 s hd
theorem oq_14 (hd : DiskAt k s b D) {x1 : Int} {xs : Sec} {e : Int} (hm : m_14 D x1 = some (xs, e)) :
    Ok Tryz.prog 50 ([.pointer (some ⟨b, 0, none⟩), .int .i64 x1] : List Value).toArray s fun v s' => Tr No s s' ∧ v = .tuple #[eA .u64 xs, .int .i64 e] ∧ xs.length = 8 := ok_14 s hd hm
theorem oq_8 (kd : Nat) {x0 : Int} (hm : m_8 x0 = some D) :
    Ok Tryz.prog 5 ([.int .i64 x0] : List Value).toArray s fun v s' => Tr No s s' ∧ ∃ b, v = .pointer (some ⟨b, 0, none⟩) ∧ DiskAt kd s' b D := ok_8 s kd hm
def mq_60 (D : Disk) (i : Int) (xs : Sec) : Option (Int × Disk) := ob (m_60 D i xs) fun r => some (r.2, r.1)
theorem oq_60 (hd : DiskAt k s b D) {x1 : Int} {x2 : Sec} (hl : x2.length = 8) {e : Int} (hm : mq_60 D x1 x2 = some (e, D')) :
    Ok Tryz.prog 36 ([.pointer (some ⟨b, 0, none⟩), .int .i64 x1, eA .u64 x2] : List Value).toArray s fun v s' => Tr (Ws [k]) s s' ∧ v = .int .i64 e ∧ DiskAt k s' b D' := by
  obtain ⟨r, h1, h2⟩ := ob_some hm
  cases h2
  exact (ok_60 s hd hl h1).mono fun v s' ⟨a, b, c⟩ => ⟨b.w1, c, a⟩
theorem oq_51 (hd : DiskAt k s b D) (hm : m_51 D = some D') :
    Ok Tryz.prog 31 ([.pointer (some ⟨b, 0, none⟩)] : List Value).toArray s fun v s' => Tr (Ws [k]) s s' ∧ DiskAt k s' b D' :=
  (ok_51 s hd hm).mono fun v s' ⟨a, b⟩ => ⟨b.w1, a⟩
noncomputable def mq_33 (D : Disk) (f n : Int) : Option (List Int × Int) := ob (m_33 D f n) fun ws => some (ws, 0)
theorem oq_33 (hd : DiskAt k s b D) {x1 x2 : Int} {ws : List Int} {e : Int} (hm : mq_33 D x1 x2 = some (ws, e)) :
    Ok Tryz.prog 75 ([.pointer (some ⟨b, 0, none⟩), .int .i64 x1, .int .i64 x2] : List Value).toArray s fun v s' => Tr No s s' ∧ ∃ w2, v = .tuple #[w2, .int .i64 e] ∧ Sl kU s' w2 ws := by
  obtain ⟨r, h1, h2⟩ := ob_some hm
  cases h2
  exact ok_33 s hd h1
def mq_13 (L : LogM) : Option Int := some (room L)
theorem oq_13 (hd : LogAt k bd s b L) {r : Int} (hm : mq_13 L = some r) :
    Ok Tryz.prog 49 ([.pointer (some ⟨b, 0, none⟩)] : List Value).toArray s fun v s' => Tr No s s' ∧ v = .int .i64 r := by
  cases hm; exact ok_13 s hd
theorem oq_35 (hd : LogAt k bd s b L) (hD : DiskAt kd s bd D) {x1 : List Int} {w1 : Value} (h9 : Sl kU s w1 x1) (hne : k ≠ kd) (hm : m_35 L D x1 = some D') :
    Ok Tryz.prog 76 ([.pointer (some ⟨b, 0, none⟩), w1] : List Value).toArray s fun _ s' => Tr (Ws [kd]) s s' ∧ DiskAt kd s' bd D' :=
  (ok_35 s hne hd hD h9 hm).mono fun v s' ⟨a, b, c⟩ => ⟨c.w1, b⟩
noncomputable def mq_10 (L : LogM) (D : Disk) (F : Frame) : Option (Int × LogM × Disk) := ob (m_10 L D F) fun r => some (r.2.2, r.1, r.2.1)
theorem oq_10 (hd : LogAt k bd s b L) (hD : DiskAt kd s bd D) {x1 : Frame} {w1 : Value} (h9 : Sl kU s w1 x1.Words) (hne : k ≠ kd) {e : Int} (hm : mq_10 L D x1 = some (e, L', D')) :
    Ok Tryz.prog 41 ([.pointer (some ⟨b, 0, none⟩), .agg #[.int .i64 x1.Kind, w1]] : List Value).toArray s fun v s' => Tr (Ws [k, kd]) s s' ∧ v = .int .i64 e ∧ LogAt k bd s' b L' ∧ DiskAt kd s' bd D' := by
  obtain ⟨r, h1, h2⟩ := ob_some hm
  cases h2
  exact (ok_10 s hne hd hD h9 h1).mono fun v s' ⟨a, b, c, d⟩ => ⟨c.w2, d, a, b⟩
end
end Go.Proofs.YtdkfdmalbbfbmaaGreat
