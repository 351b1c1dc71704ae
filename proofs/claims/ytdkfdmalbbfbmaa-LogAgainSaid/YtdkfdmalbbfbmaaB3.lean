/- One rule for each operation that makes, reads or writes memory. No project text. -/
import Derived.Test.YtdkfdmalbbfbmaaB2
namespace Go.Proofs.Ytdkfdmalbbfbmaa
open Go

/-- From s on to s': what was to stay stays; of what one owns only what has a tag of p may have turned; the streams are as they were. -/
structure Tr (p : Tg → Prop) (s s' : St) : Prop where
  os : s'.w.os = s.w.os
  tape : s'.w.tape = s.w.tape
  output : s'.w.output = s.w.output
  size : s.w.heap.size ≤ s'.w.heap.size
  stay : ∀ b, b < s.w.heap.size → ¬ s.M b → ¬ s'.M b ∧ s'.w.heap[b]? = s.w.heap[b]?
  own : ∀ b t, s.tag b = some t → ¬ p t → s'.tag b = some t ∧ s'.w.heap[b]? = s.w.heap[b]?

abbrev No : Tg → Prop := fun _ => False
/-- All of k's. -/
def Rt (k : Nat) : Tg → Prop := fun t => t.1 = k
/-- This one, or those. -/
def Or (p q : Tg → Prop) : Tg → Prop := fun t => p t ∨ q t

theorem nt_snd {k k' i j : Nat} (h : Nat.beq i j = false) : ¬ ((k, i) : Tg) = (k', j) := by
  intro e
  have : i = j := congrArg Prod.snd e
  subst this
  simp at h
theorem nt_fst {k k' i j : Nat} (h : k ≠ k') : ¬ ((k, i) : Tg) = (k', j) := fun e => h (congrArg Prod.fst e)
theorem nr {k k' i : Nat} (h : k ≠ k') : ¬ Rt k' (k, i) := h
theorem nOr {p q : Tg → Prop} {t : Tg} (h : ¬ p t) (k : ¬ q t) : ¬ Or p q t := fun x => x.elim h k

section
variable {α β : Type} {K : Kd α} {s s' s'' : St} {v u : Value} {xs : List α} {x : α} {p q : Tg → Prop} {b : Nat} {cs : Array Value} {T B : Nat} {k k' : Tg}

theorem Tr.refl (p : Tg → Prop) (s : St) : Tr p s s := ⟨rfl, rfl, rfl, Nat.le_refl _, fun _ _ h => ⟨h, rfl⟩, fun _ _ h _ => ⟨h, rfl⟩⟩
theorem Tr.le (h : Tr p s s') : Le s s' := ⟨h.size, h.stay⟩
theorem Tr.mono (h : Tr p s s') (hpq : ∀ t, p t → q t) : Tr q s s' := ⟨h.os, h.tape, h.output, h.size, h.stay, fun b t hb hq => h.own b t hb fun hp => hq (hpq t hp)⟩
theorem Tr.no (h : Tr No s s') : Tr p s s' := h.mono fun _ h => h.elim
theorem Tr.trans (h : Tr p s s') (k : Tr p s' s'') : Tr p s s'' :=
  ⟨k.os.trans h.os, k.tape.trans h.tape, k.output.trans h.output, Nat.le_trans h.size k.size, (h.le.trans k.le).blk, fun b t hb hp =>
    let ⟨h1, h2⟩ := h.own b t hb hp; let ⟨k1, k2⟩ := k.own b t h1 hp; ⟨k1, k2.trans h2⟩⟩
/-- A step further: what turns is p's, or younger than s (whose tags stand below k). -/
theorem Tr.step {n : Nat} (h : Tr p s s') (hn : ∀ b t, s.tag b = some t → t.1 < n) (k : Tr q s' s'') (hq : ∀ t, q t → p t ∨ n ≤ t.1) : Tr p s s'' :=
  ⟨k.os.trans h.os, k.tape.trans h.tape, k.output.trans h.output, Nat.le_trans h.size k.size, (h.le.trans k.le).blk, fun b t hb hp =>
    let ⟨h1, h2⟩ := h.own b t hb hp
    let ⟨k1, k2⟩ := k.own b t h1 (fun x => (hq t x).elim hp fun y => Nat.lt_irrefl _ (Nat.lt_of_lt_of_le (hn b t hb) y))
    ⟨k1, k2.trans h2⟩⟩
theorem Tr.stepN (h : Tr p s s') (k : Tr No s' s'') : Tr p s s'' := h.trans k.no
theorem Tr.ext (h : Tr No s s') : Ext s.w s'.w := ⟨h.os, h.tape, h.output, h.size, fun b hb => by
  by_cases hm : s.M b
  · obtain ⟨t, ht⟩ := Option.ne_none_iff_exists'.1 hm
    exact (h.own b t ht (fun h => h)).2
  · exact (h.stay b hb hm).2⟩

theorem Sl.tr (h : Sl K s v xs) (ht : Tr p s s') : Sl K s' v xs := h.up ht.le
theorem At.tr {a : Addr} (h : At K s a x) (ht : Tr p s s') : At K s' a x := h.up ht.le
theorem Stay.tr (h : Stay s b cs) (ht : Tr p s s') : Stay s' b cs := h.up ht.le
theorem Own.tr (h : Own k s b cs T) (ht : Tr p s s') (hp : ¬ p k) : Own k s' b cs T := let ⟨h1, h2⟩ := ht.own b k h.1 hp; ⟨h1, h2.trans h.2⟩
theorem Own.trN (h : Own k s b cs T) (ht : Tr No s s') : Own k s' b cs T := h.tr ht (fun h => h)

theorem Tr.new (s : St) (o : Obj) (k : Tg) : Tr No s (s.new o k) :=
  ⟨rfl, rfl, rfl, by simp [St.new], fun b hb hm => ⟨by
      have : ¬ b = s.w.heap.size := by omega
      unfold St.M at *
      simp only [St.new, this, if_false]; exact hm, (Ext.alloc s.w o).blk b hb⟩,
    fun b t hb _ => by
      have hlt : b < s.w.heap.size := s.ok b (by rw [hb]; simp)
      have : ¬ b = s.w.heap.size := by omega
      exact ⟨by simp only [St.new, this, if_false]; exact hb, (Ext.alloc s.w o).blk b hlt⟩⟩
theorem Tr.xt {w' : World} (h : Ext s.w w') : Tr No s (s.ext w' h) := ⟨h.os, h.tape, h.output, h.size, fun b hb hm => ⟨hm, h.blk b hb⟩, fun b t hb _ => ⟨hb, h.blk b (s.ok b (by rw [hb]; simp))⟩⟩
theorem Tr.lay (s : St) (o : Obj) : Tr No s (s.lay o) := Tr.xt _

theorem Bd.tr (h : Bd k K T B s v xs) (ht : Tr p s s') (hp : ¬ p k) : Bd k K T B s' v xs := by
  obtain ⟨cs, ⟨hl, h1⟩, h2, h3⟩ := h
  refine ⟨cs, ⟨hl, h1.imp id ?_⟩, h2.up ht.le, fun b hb => (ht.own b k (h3 b hb) hp).1⟩
  rintro ⟨g, cap, cur, rfl, hB, hh, r⟩
  exact ⟨g, cap, cur, rfl, hB, ((ht.own g k (h3 g rfl) hp).2).trans hh, r⟩
theorem Bd.trN (h : Bd k K T B s v xs) (ht : Tr No s s') : Bd k K T B s' v xs := h.tr ht (fun h => h)
/-- It may be read. -/
theorem Bd.isS (h : Bd k K T B s v xs) : ∃ a c, v = .slice a xs.length c := by
  obtain ⟨cs, ⟨_, ⟨rfl, h0⟩ | ⟨g, cap, cur, rfl, _⟩⟩, _⟩ := h
  · exact ⟨_, _, by rw [h0]⟩
  · exact ⟨_, _, rfl⟩

/-! Turning an owner. -/
theorem Tr.turn {o : Option Nat} {kk : Option Tg} {h : ∀ b, o = some b → b < s.w.heap.size} (ho : ∀ b, o = some b → s.tag b = some k) : Tr (· = k) s (s.turn o kk h) :=
  ⟨rfl, rfl, rfl, Nat.le_refl _, fun b _ hm => ⟨St.turn_M (fun b hb => by unfold St.M; rw [ho b hb]; simp) b hm, rfl⟩, fun b t hb hp => ⟨by
    have : ¬ o = some b := fun e => hp (by have := ho b e; rw [hb] at this; exact Option.some.inj this)
    simp only [St.turn, this, if_false]; exact hb, rfl⟩⟩
/-- It stays from now on. -/
theorem Bd.fz (h : Bd k K T B s v xs) : ∃ s', s.w = s'.w ∧ Sl K s' v xs ∧ Tr (· = k) s s' := ⟨s.turn v.ownBlock none fun b hb => (h.lt b hb).2.2, rfl, h.sl, Tr.turn fun b hb => (h.lt b hb).1⟩
theorem Bd.rt (h : Bd k K T B s v xs) (k' : Tg) : ∃ s', s.w = s'.w ∧ Bd k' K T B s' v xs ∧ Tr (· = k) s s' := by
  have hlt := fun b hb => (h.lt b hb).2.2
  have hM : ∀ b, v.ownBlock = some b → s.M b := fun b hb => by unfold St.M; rw [(h.lt b hb).1]; simp
  refine ⟨s.turn v.ownBlock (some k') hlt, rfl, ?_, Tr.turn fun b hb => (h.lt b hb).1⟩
  obtain ⟨cs, h1, h2, h3⟩ := h
  exact ⟨cs, h1, h2.up (Le.turn hM), fun b hb => by simp only [St.turn, hb, if_true]⟩
theorem Own.fz (h : Own k s b cs T) : ∃ s', s.w = s'.w ∧ Stay s' b cs ∧ Tr (· = k) s s' := by
  have hlt := h.lt
  refine ⟨s.turn (some b) none (fun b' e => by cases e; exact hlt), rfl, ⟨fun hx => hx (by simp [St.turn]), hlt, T, (0, 0), h.2⟩, Tr.turn fun b' e => by cases e; exact h.1⟩
theorem Own.rt (h : Own k s b cs T) (k' : Tg) : ∃ s', s.w = s'.w ∧ Own k' s' b cs T ∧ Tr (· = k) s s' := by
  have hlt := h.lt
  exact ⟨s.turn (some b) (some k') (fun b' e => by cases e; exact hlt), rfl, ⟨by simp [St.turn], h.2⟩, Tr.turn fun b' e => by cases e; exact h.1⟩
end

section
variable {α β : Type} {K : Kd α} {s s' s'' : St} {v u : Value} {xs ys : List α} {x : α} {p q : Tg → Prop} {b : Nat} {cs : Array Value} {T B : Nat} {k : Tg}

/-- Read now: what v reads as, in s. -/
def Rd (K : Kd α) (s : St) (v : Value) (xs : List α) : Prop :=
  ∃ a c cs, v = .slice a xs.length c ∧ xs.length ≤ c ∧ Encs K s xs cs ∧ (a = none → xs = [] ∧ c = 0) ∧ ∀ ad, a = some ad → (xs ≠ [] → ad.spot = none) ∧ ∀ j u, cs[j]? = some u → s.w.cell? (ad.add j) = some u

theorem add_none (b o j : Nat) : (⟨b, o, none⟩ : Addr).add j = ⟨b, o + j, none⟩ := by
  by_cases h : j = 0
  · subst h; rfl
  · simp [Addr.add, h]
theorem Rd.isS (h : Rd K s v xs) : ∃ a c, v = .slice a xs.length c := let ⟨a, c, _, h, _⟩ := h; ⟨a, c, h⟩
theorem Bd.rd (h : Bd k K T B s v xs) : Rd K s v xs := by
  obtain ⟨cs, ⟨hl, hh⟩, he, hm⟩ := h
  rcases hh with ⟨rfl, h0⟩ | ⟨g, cap, cur, rfl, hB, hh, hc, hm, hz, hx⟩
  · have : xs = [] := List.eq_nil_of_length_eq_zero h0
    subst this
    have : cs = [] := he
    subst this
    exact ⟨_, _, [], rfl, Nat.le_refl _, rfl, fun _ => ⟨rfl, rfl⟩, fun ad h => by cases h⟩
  · refine ⟨_, _, cs, rfl, hc, he, fun h => (by cases h), fun ad h => ?_⟩
    cases h
    refine ⟨fun _ => rfl, fun j u hu => ?_⟩
    rw [add_none, Nat.zero_add]
    rw [← hx, List.getElem?_take] at hu
    split at hu
    · simpa [World.cell?, hh] using hu
    · cases hu
theorem Sl.rd (h : Sl K s v xs) : Rd K s v xs := by
  obtain ⟨a, c, rfl, hc, hn, hh⟩ := h
  rcases hh with rfl | ⟨b, o, cs, rfl, hm, hb, he, hx⟩
  · refine ⟨a, c, [], rfl, hc, rfl, fun h => ⟨rfl, hn h⟩, fun ad _ => ⟨fun h => (h rfl).elim, fun j u hu => by simp at hu⟩⟩
  · exact ⟨_, _, cs, rfl, hc, he, fun h => (by cases h), fun ad h => by cases h; exact ⟨fun _ => rfl, fun j u hu => by rw [add_none]; exact hx j u hu⟩⟩

/-! A row that is written as a whole. -/
def St.row (s : St) (b : Nat) (cs : Array Value) : St := ⟨s.tag, s.w.setRow b cs, fun k hk => by rw [size_setRow]; exact s.ok k hk⟩
theorem Tr.row (hm : s.tag b = some k) (cs : Array Value) : Tr (· = k) s (s.row b cs) :=
  ⟨rfl, rfl, rfl, by simp [St.row], fun i hi hn => ⟨hn, setRow_other _ _ _ _ (fun e => hn (by subst e; unfold St.M; rw [hm]; simp))⟩,
    fun i t hi hn => ⟨hi, setRow_other _ _ _ _ (fun e => hn (by subst e; rw [hm] at hi; exact (Option.some.inj hi).symm))⟩⟩
theorem Own.row (h : Own k s b cs T) (cs' : Array Value) : Own k (s.row b cs') b cs' T := ⟨h.1, setRow_heap _ _ _ _ _ _ h.2⟩

/-- Behind what the kit's laws on growth leave. -/
def St.grown (s : St) (w' : World) (h : s.w.heap.size ≤ w'.heap.size) (v' : Value) (k : Tg) (hv : ∀ b, v'.ownBlock = some b → b < w'.heap.size) : St :=
  ⟨fun b => if v'.ownBlock = some b then some k else s.tag b, w', fun b hb => by
    by_cases e : v'.ownBlock = some b
    · exact hv b e
    · simp only [e, if_false] at hb; exact Nat.lt_of_lt_of_le (s.ok b hb) h⟩
theorem Tr.grown {w' : World} {row : Option Nat} (hg : s.w.grownBy w' row) {v' : Value} (hv : ∀ b, v'.ownBlock = some b → b < w'.heap.size) (hr : ∀ b, row = some b → s.tag b = some k)
    (hv2 : ∀ b, v'.ownBlock = some b → row = some b ∨ s.w.heap.size ≤ b) : Tr (· = k) s (s.grown w' hg.size v' k hv) := by
  refine ⟨hg.os, hg.tape, hg.output, hg.size, fun b hb hm => ?_, fun b t hb hp => ?_⟩
  · have e : ¬ v'.ownBlock = some b := fun h => by
      rcases hv2 b h with h | h
      · exact hm (by unfold St.M; rw [hr b h]; simp)
      · omega
    exact ⟨by unfold St.M at *; simp only [St.grown, e, if_false]; exact hm, hg.block b hb (fun e => hm (by unfold St.M; rw [hr b e.symm]; simp))⟩
  · have hlt : b < s.w.heap.size := s.ok b (by rw [hb]; simp)
    have hrow : ¬ row = some b := fun h => hp (by have := hr b h; rw [hb] at this; exact Option.some.inj this)
    have e : ¬ v'.ownBlock = some b := fun h => by
      rcases hv2 b h with h | h
      · exact hrow h
      · omega
    exact ⟨by simp only [St.grown, e, if_false]; exact hb, hg.block b hlt (fun e => hrow e.symm)⟩
end
end Go.Proofs.Ytdkfdmalbbfbmaa
