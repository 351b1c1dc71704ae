/- What values mean: memory that stays, memory that is one's own, and lists that are read out of it. No project text. -/
import Derived.Test.YtdkfdmalbbfbmaaGreatMWL0
/- What values mean: memory that stays, memory that is one's own, and lists that are read out of it. No project text. -/
namespace Go.Proofs.YtdkfdmalbbfbmaaGreat
open Go

/-- A block that may yet be written has a tag: whose it is, and which of his. -/
abbrev Tg := Nat × Nat
/-- A world, and which of its blocks may yet be written, by whom. -/
structure St where
  tag : Nat → Option Tg
  w : World
  ok : ∀ b, tag b ≠ none → b < w.heap.size
def St.M (s : St) (b : Nat) : Prop := s.tag b ≠ none
theorem St.fresh (s : St) : ∃ k, ∀ b t, s.tag b = some t → t.1 < k := by
  have key : ∀ n, ∃ k, ∀ b, b < n → ∀ t, s.tag b = some t → t.1 < k := by
    intro n
    induction n with
    | zero => exact ⟨0, fun b h => absurd h (Nat.not_lt_zero _)⟩
    | succ n ih =>
      obtain ⟨k, hk⟩ := ih
      cases hn : s.tag n with
      | none =>
        refine ⟨k, fun b hb t ht => ?_⟩
        by_cases e : b = n
        · subst e; rw [hn] at ht; cases ht
        · exact hk b (by omega) t ht
      | some u =>
        refine ⟨max k (u.1 + 1), fun b hb t ht => ?_⟩
        by_cases e : b = n
        · subst e; rw [hn] at ht; cases ht; omega
        · have := hk b (by omega) t ht; omega
  obtain ⟨k, hk⟩ := key s.w.heap.size
  exact ⟨k, fun b t ht => hk b (s.ok b (by rw [ht]; simp)) t ht⟩

/-- The streams and the tape are as they were, no block has gone, and all blocks are as they were. -/
structure Ext (w w' : World) : Prop where
  os : w'.os = w.os
  tape : w'.tape = w.tape
  output : w'.output = w.output
  size : w.heap.size ≤ w'.heap.size
  blk : ∀ b, b < w.heap.size → w'.heap[b]? = w.heap[b]?

theorem Ext.refl (w : World) : Ext w w := ⟨rfl, rfl, rfl, Nat.le_refl _, fun _ _ => rfl⟩
theorem Ext.trans {a b c : World} (h : Ext a b) (k : Ext b c) : Ext a c :=
  ⟨k.os.trans h.os, k.tape.trans h.tape, k.output.trans h.output, Nat.le_trans h.size k.size, fun i hi => (k.blk i (Nat.lt_of_lt_of_le hi h.size)).trans (h.blk i hi)⟩
theorem Ext.below {w w' : World} (h : Ext w w') : RowKit.Below w.heap.size w w' := ⟨h.os, h.tape, h.output, h.size, h.blk⟩
theorem Ext.of_below {w w' : World} (h : RowKit.Below w.heap.size w w') : Ext w w' := ⟨h.os, h.tape, h.output, h.size, h.block⟩

/-- What was to stay in s stays in s', as it is. -/
structure Le (s s' : St) : Prop where
  size : s.w.heap.size ≤ s'.w.heap.size
  blk : ∀ b, b < s.w.heap.size → ¬ s.M b → ¬ s'.M b ∧ s'.w.heap[b]? = s.w.heap[b]?

theorem Le.refl (s : St) : Le s s := ⟨Nat.le_refl _, fun _ _ h => ⟨h, rfl⟩⟩
theorem Le.trans {a b c : St} (h : Le a b) (k : Le b c) : Le a c :=
  ⟨Nat.le_trans h.size k.size, fun i hi hm => let ⟨h1, h2⟩ := h.blk i hi hm; let ⟨k1, k2⟩ := k.blk i (Nat.lt_of_lt_of_le hi h.size) h1; ⟨k1, k2.trans h2⟩⟩

/-- A kind of data: how many cells it has, and what they say. -/
structure Kd (α : Type) where
  sz : Nat
  R : St → List Value → α → Prop
  len : ∀ {s cs x}, R s cs x → cs.length = sz
  one : ∀ {s cs x}, R s cs x → ∀ v ∈ cs, v.oneCell' = true
  up : ∀ {s s' cs x}, R s cs x → Le s s' → R s' cs x

def kInt (k : IntKind) : Kd Int where
  sz := 1
  R _ cs x := cs = [.int k x]
  len h := by rw [h]; rfl
  one h := by rw [h]; intro v hv; simp at hv; subst hv; rfl
  up h _ := h
def kBool : Kd Bool where
  sz := 1
  R _ cs x := cs = [.bool x]
  len h := by rw [h]; rfl
  one h := by rw [h]; intro v hv; simp at hv; subst hv; rfl
  up h _ := h
def kStr : Kd ByteArray where
  sz := 1
  R _ cs x := cs = [.string x]
  len h := by rw [h]; rfl
  one h := by rw [h]; intro v hv; simp at hv; subst hv; rfl
  up h _ := h

section
variable {α β : Type} {K : Kd α} {s s' : St} {v : Value} {xs : List α} {x : α}

/-- At the address p lies an x of the kind K, to stay. -/
def At (K : Kd α) (s : St) (p : Addr) (x : α) : Prop :=
  p.spot = none ∧ ¬ s.M p.block ∧ p.block < s.w.heap.size ∧ ∃ cs, K.R s cs x ∧ ∀ j u, cs[j]? = some u → s.w.cell? ⟨p.block, p.off + j, none⟩ = some u

theorem At.up {p : Addr} (h : At K s p x) (hl : Le s s') : At K s' p x := by
  obtain ⟨h1, h2, h3, cs, hr, hc⟩ := h
  obtain ⟨k1, k2⟩ := hl.blk _ h3 h2
  exact ⟨h1, k1, Nat.lt_of_lt_of_le h3 hl.size, cs, K.up hr hl, fun j u hu => (World.cell?_of_block (a := ⟨p.block, p.off + j, none⟩) k2).trans (hc j u hu)⟩

/-- The cells of things one behind the other. -/
def Encs (K : Kd α) (s : St) : List α → List Value → Prop
  | [], cs => cs = []
  | x :: xs, cs => ∃ e r, cs = e ++ r ∧ K.R s e x ∧ Encs K s xs r

theorem Encs.len : ∀ {xs : List α} {cs : List Value}, Encs K s xs cs → cs.length = xs.length * K.sz
  | [], cs, h => by have h : cs = [] := h; subst h; simp
  | x :: xs, cs, h => by
    obtain ⟨e, r, rfl, h1, h2⟩ := h
    simp [Encs.len h2, K.len h1, Nat.add_mul, Nat.add_comm]
theorem Encs.up : ∀ {xs : List α} {cs : List Value}, Encs K s xs cs → Le s s' → Encs K s' xs cs
  | [], _, h, _ => h
  | x :: xs, cs, h, hl => by
    obtain ⟨e, r, h0, h1, h2⟩ := h
    exact ⟨e, r, h0, K.up h1 hl, h2.up hl⟩
theorem Encs.one : ∀ {xs : List α} {cs : List Value}, Encs K s xs cs → ∀ v ∈ cs, v.oneCell' = true
  | [], cs, h => by have h : cs = [] := h; subst h; intro v hv; cases hv
  | x :: xs, cs, h => by
    obtain ⟨e, r, rfl, h1, h2⟩ := h
    intro v hv
    rcases List.mem_append.1 hv with h | h
    · exact K.one h1 v h
    · exact h2.one v h
theorem Encs.append : ∀ {xs : List α} {cs : List Value} {ys : List α} {ds : List Value}, Encs K s xs cs → Encs K s ys ds → Encs K s (xs ++ ys) (cs ++ ds)
  | [], cs, ys, ds, h, k => by have h : cs = [] := h; subst h; exact k
  | x :: xs, cs, ys, ds, h, k => by
    obtain ⟨e, r, rfl, h1, h2⟩ := h
    exact ⟨e, r ++ ds, by simp, h1, h2.append k⟩
theorem Encs.one1 {x : α} {cs : List Value} (h : K.R s cs x) : Encs K s [x] cs := ⟨cs, [], by simp, h, rfl⟩
theorem Encs.get : ∀ {xs : List α} {cs : List Value} {i : Nat} {x : α}, Encs K s xs cs → xs[i]? = some x → ∃ es, K.R s es x ∧ ∀ j u, es[j]? = some u → cs[i * K.sz + j]? = some u
  | [], _, _, _, _, hi => by simp at hi
  | x :: xs, cs, 0, y, h, hi => by
    obtain ⟨e, r, rfl, h1, h2⟩ := h
    simp at hi; subst hi
    refine ⟨e, h1, fun j u hu => ?_⟩
    have hj := (List.getElem?_eq_some_iff.1 hu).1
    simp [List.getElem?_append_left hj, hu]
  | x :: xs, cs, i + 1, y, h, hi => by
    obtain ⟨e, r, rfl, h1, h2⟩ := h
    obtain ⟨es, k1, k2⟩ := h2.get (i := i) (by simpa using hi)
    refine ⟨es, k1, fun j u hu => ?_⟩
    rw [List.getElem?_append_right (by rw [K.len h1, Nat.add_mul]; omega)]
    have : (i + 1) * K.sz + j - e.length = i * K.sz + j := by rw [K.len h1, Nat.add_mul]; omega
    rw [this]
    exact k2 j u hu
theorem Encs.drop : ∀ {xs : List α} {cs : List Value} (k : Nat), Encs K s xs cs → Encs K s (xs.drop k) (cs.drop (k * K.sz))
  | _, _, 0, h => by simpa using h
  | [], cs, k + 1, h => by have h : cs = [] := h; subst h; simp only [List.drop_nil, List.take_nil]; exact rfl
  | x :: xs, cs, k + 1, h => by
    obtain ⟨e, r, rfl, h1, h2⟩ := h
    have := h2.drop k
    have e1 : (e ++ r).drop ((k + 1) * K.sz) = r.drop (k * K.sz) := by
      rw [List.drop_append, List.drop_eq_nil_of_le (by rw [K.len h1, Nat.add_mul]; omega), List.nil_append]
      congr 1
      rw [K.len h1, Nat.add_mul]; omega
    rw [e1]; simpa using this
theorem Encs.take : ∀ {xs : List α} {cs : List Value} (k : Nat), Encs K s xs cs → Encs K s (xs.take k) (cs.take (k * K.sz))
  | _, _, 0, h => by simp; exact rfl
  | [], cs, k + 1, h => by have h : cs = [] := h; subst h; simp only [List.drop_nil, List.take_nil]; exact rfl
  | x :: xs, cs, k + 1, h => by
    obtain ⟨e, r, rfl, h1, h2⟩ := h
    have := h2.take k
    have e1 : (e ++ r).take ((k + 1) * K.sz) = e ++ r.take (k * K.sz) := by
      rw [List.take_append, List.take_of_length_le (by rw [K.len h1, Nat.add_mul]; omega)]
      congr 2
      rw [K.len h1, Nat.add_mul]; omega
    rw [e1]
    exact ⟨e, _, rfl, h1, this⟩

/-- The slice v reads as xs, to stay. -/
def Sl (K : Kd α) (s : St) (v : Value) (xs : List α) : Prop :=
  ∃ a c, v = .slice a xs.length c ∧ xs.length ≤ c ∧ (a = none → c = 0) ∧ (xs = [] ∨ ∃ b o cs, a = some ⟨b, o, none⟩ ∧ ¬ s.M b ∧ b < s.w.heap.size ∧ Encs K s xs cs ∧ ∀ j u, cs[j]? = some u → s.w.cell? ⟨b, o + j, none⟩ = some u)

theorem Sl.up (h : Sl K s v xs) (hl : Le s s') : Sl K s' v xs := by
  obtain ⟨a, c, h1, h2, h0, h3⟩ := h
  refine ⟨a, c, h1, h2, h0, h3.imp id ?_⟩
  rintro ⟨b, o, cs, ha, hm, hb, he, hc⟩
  obtain ⟨k1, k2⟩ := hl.blk b hb hm
  exact ⟨b, o, cs, ha, k1, Nat.lt_of_lt_of_le hb hl.size, he.up hl, fun j u hu => (World.cell?_of_block (a := ⟨b, o + j, none⟩) k2).trans (hc j u hu)⟩

theorem Sl.nil : Sl K s (.slice none 0 0) ([] : List α) := ⟨none, 0, rfl, Nat.le_refl _, fun _ => rfl, .inl rfl⟩

def kSl (K : Kd α) : Kd (List α) where
  sz := 1
  R s cs xs := ∃ v, cs = [v] ∧ Sl K s v xs
  len := by rintro s cs x ⟨v, rfl, _⟩; rfl
  one := by rintro s cs x ⟨v, rfl, a, c, rfl, _⟩ u hu; simp at hu; subst hu; rfl
  up := by rintro s s' cs x ⟨v, rfl, h⟩ hl; exact ⟨v, rfl, h.up hl⟩

/-- An array of n things of one cell each, whose cells are told by a function. -/
def kArr (n : Nat) (enc : Int → Value) (h1 : ∀ x, (enc x).oneCell' = true) : Kd (List Int) where
  sz := n
  R _ cs xs := xs.length = n ∧ cs = xs.map enc
  len := by rintro s cs x ⟨h, rfl⟩; simpa using h
  one := by rintro s cs x ⟨h, rfl⟩ u hu; simp at hu; obtain ⟨y, _, rfl⟩ := hu; exact h1 y
  up h _ := h

def kPair (A : Kd α) (B : Kd β) : Kd (α × β) where
  sz := A.sz + B.sz
  R s cs x := ∃ c1 c2, cs = c1 ++ c2 ∧ A.R s c1 x.1 ∧ B.R s c2 x.2
  len := by rintro s cs x ⟨c1, c2, rfl, h1, h2⟩; simp [A.len h1, B.len h2]
  one := by
    rintro s cs x ⟨c1, c2, rfl, h1, h2⟩ u hu
    rcases List.mem_append.1 hu with h | h
    · exact A.one h1 u h
    · exact B.one h2 u h
  up := by rintro s s' cs x ⟨c1, c2, rfl, h1, h2⟩ hl; exact ⟨c1, c2, rfl, A.up h1 hl, B.up h2 hl⟩

/-- The same cells, read as something else. -/
def Kd.of (K : Kd α) (f : β → α) : Kd β where
  sz := K.sz
  R s cs x := K.R s cs (f x)
  len h := K.len h
  one h := K.one h
  up h hl := K.up h hl

/-! ### New blocks -/
def alc (w : World) (o : Obj) : World := w.alloc o

theorem Ext.alloc (w : World) (o : Obj) : Ext w (w.alloc o) :=
  ⟨rfl, rfl, rfl, by simp, fun b hb => by show (w.heap.push o)[b]? = _; rw [Array.getElem?_push, if_neg (by omega)]⟩

/-- Behind what leaves all blocks as they were. -/
def St.ext (s : St) (w' : World) (h : Ext s.w w') : St := ⟨s.tag, w', fun b hb => Nat.lt_of_lt_of_le (s.ok b hb) h.size⟩
/-- The same tags, in another world. -/
def St.ext' (s : St) (w' : World) (h : s.w.heap.size ≤ w'.heap.size) : St := ⟨s.tag, w', fun b hb => Nat.lt_of_lt_of_le (s.ok b hb) h⟩
theorem Le.ext (s : St) {w' : World} (h : Ext s.w w') : Le s (s.ext w' h) := ⟨h.size, fun b hb hm => ⟨hm, h.blk b hb⟩⟩

/-- The block b is k's own, with these cells, of the type T. -/
def Own (k : Tg) (s : St) (b : Nat) (cs : Array Value) (T : TypeId) : Prop := s.tag b = some k ∧ s.w.heap[b]? = some (.cells cs T (0, 0))
theorem Own.m {k : Tg} {b : Nat} {cs : Array Value} {T : TypeId} (h : Own k s b cs T) : s.M b := by unfold St.M; rw [h.1]; simp
/-- The block b stays, with these cells, of the type T. -/
def Stay (s : St) (b : Nat) (cs : Array Value) : Prop := ¬ s.M b ∧ b < s.w.heap.size ∧ ∃ T fr, s.w.heap[b]? = some (.cells cs T fr)

theorem Stay.up {b : Nat} {cs : Array Value} (h : Stay s b cs) (hl : Le s s') : Stay s' b cs := by
  obtain ⟨h1, h2, T, fr, h3⟩ := h
  obtain ⟨k1, k2⟩ := hl.blk b h2 h1
  exact ⟨k1, Nat.lt_of_lt_of_le h2 hl.size, T, fr, k2.trans h3⟩
theorem Stay.cell {b : Nat} {cs : Array Value} (h : Stay s b cs) (j : Nat) : s.w.cell? ⟨b, j, none⟩ = cs[j]? := by
  obtain ⟨_, _, T, fr, h3⟩ := h
  simp [World.cell?, h3]
theorem Own.cell {k : Tg} {b : Nat} {cs : Array Value} {T : TypeId} (h : Own k s b cs T) (j : Nat) : s.w.cell? ⟨b, j, none⟩ = cs[j]? := by simp [World.cell?, h.2]
theorem Own.lt {k : Tg} {b : Nat} {cs : Array Value} {T : TypeId} (h : Own k s b cs T) : b < s.w.heap.size := s.ok b h.m

/-- A new block, k's own. -/
def St.new (s : St) (o : Obj) (k : Tg) : St := ⟨fun b => if b = s.w.heap.size then some k else s.tag b, s.w.alloc o, fun b hb => by
  have h2 : (s.w.alloc o).heap.size = s.w.heap.size + 1 := World.size_alloc _ _
  by_cases h : b = s.w.heap.size
  · omega
  · simp only [h, if_false] at hb
    have := s.ok b hb; omega⟩
/-- A new block, that stays. -/
def St.lay (s : St) (o : Obj) : St := s.ext (s.w.alloc o) (Ext.alloc _ _)

theorem heap_new (w : World) (o : Obj) : (w.alloc o).heap[w.heap.size]? = some o := by show (w.heap.push o)[w.heap.size]? = _; simp
theorem Le.lay (s : St) (o : Obj) : Le s (s.lay o) := Le.ext s _
theorem Own.new (s : St) (cs : Array Value) (T : TypeId) (k : Tg) : Own k (s.new (.cells cs T) k) s.w.heap.size cs T := ⟨by simp [St.new], heap_new _ _⟩
theorem Stay.lay (s : St) (cs : Array Value) (T : TypeId) : Stay (s.lay (.cells cs T)) s.w.heap.size cs :=
  ⟨fun h => Nat.lt_irrefl _ (s.ok _ h), by simp [St.lay, St.ext], T, (0, 0), heap_new _ _⟩

/-- A store into an own block. -/
theorem size_setCell (w : World) (p : Addr) (u : Value) : (w.setCell p u).heap.size = w.heap.size := by simp [World.setCell]
theorem heap_setCell_ne (w : World) (p : Addr) (u : Value) (b : Nat) (h : b ≠ p.block) : (w.setCell p u).heap[b]? = w.heap[b]? := RowKit.Below.heap_setCell w p u b h

/-- A slice of k's own, in a block from B on: nil, or at the head of a block that is k's own. -/
def Bd (k : Tg) (K : Kd α) (T B : Nat) (s : St) (v : Value) (xs : List α) : Prop :=
  ∃ cs, s.w.ownsRow B T K.sz v xs.length cs ∧ Encs K s xs cs ∧ ∀ b, v.ownBlock = some b → s.tag b = some k

theorem Bd.nil {k : Tg} {T B : Nat} : Bd k K T B s (.slice none 0 0) ([] : List α) := ⟨[], World.ownsRow_nil _ _ _ _, rfl, fun b h => by cases h⟩
theorem Bd.lt {k : Tg} {T B : Nat} (h : Bd k K T B s v xs) : ∀ b, v.ownBlock = some b → s.tag b = some k ∧ B ≤ b ∧ b < s.w.heap.size := by
  obtain ⟨cs, h1, _, h3⟩ := h
  intro b hb
  have := h1.lt b hb
  exact ⟨h3 b hb, this.1, this.2⟩

/-- A block turns its owner (none: it stays from now on). -/
def St.turn (s : St) (o : Option Nat) (k : Option Tg) (h : ∀ b, o = some b → b < s.w.heap.size) : St :=
  ⟨fun x => if o = some x then k else s.tag x, s.w, fun b hb => by
    by_cases e : o = some b
    · exact h b e
    · simp only [e, if_false] at hb; exact s.ok b hb⟩
theorem St.turn_M {s : St} {o : Option Nat} {k : Option Tg} {h : ∀ b, o = some b → b < s.w.heap.size} (ho : ∀ b, o = some b → s.M b) (b : Nat) (hm : ¬ s.M b) : ¬ (s.turn o k h).M b := by
  have : ¬ o = some b := fun e => hm (ho b e)
  unfold St.M at *
  simp only [St.turn, this, if_false]; exact hm
theorem Le.turn {s : St} {o : Option Nat} {k : Option Tg} {h : ∀ b, o = some b → b < s.w.heap.size} (ho : ∀ b, o = some b → s.M b) : Le s (s.turn o k h) :=
  ⟨Nat.le_refl _, fun b _ hm => ⟨St.turn_M ho b hm, rfl⟩⟩
theorem Bd.sl {k : Tg} {T B : Nat} (h : Bd k K T B s v xs) : Sl K (s.turn v.ownBlock none fun b hb => (h.lt b hb).2.2) v xs := by
  have hlt := fun b hb => (h.lt b hb).2.2
  have hM : ∀ b, v.ownBlock = some b → s.M b := fun b hb => by unfold St.M; rw [(h.lt b hb).1]; simp
  obtain ⟨cs, h1, h2, h3⟩ := h
  rcases h1 with ⟨hl, ⟨rfl, h0⟩ | ⟨g, cap, cur, rfl, hB, hh, hc, hm, hz, hx⟩⟩
  · have : xs = [] := List.eq_nil_of_length_eq_zero h0
    subst this
    exact Sl.nil
  · refine ⟨_, _, rfl, hc, nofun, .inr ⟨g, 0, cs, rfl, ?_, hlt g rfl, h2.up (Le.turn hM), fun j u hu => ?_⟩⟩
    · intro hx
      apply hx
      have e : Value.ownBlock (.slice (some ⟨g, 0, none⟩) xs.length cap) = some g := rfl
      simp only [St.turn, e, if_true]
    · show s.w.cell? ⟨g, 0 + j, none⟩ = some u
      rw [Nat.zero_add]
      have hj := (List.getElem?_eq_some_iff.1 hu).1
      rw [← hx, List.getElem?_take] at hu
      split at hu
      · simpa [World.cell?, hh] using hu
      · cases hu
end
end Go.Proofs.YtdkfdmalbbfbmaaGreat

/- One rule for each operation that makes, reads or writes memory. No project text. -/
namespace Go.Proofs.YtdkfdmalbbfbmaaGreat
open Go

/-- From s on to s': what was to stay stays; of what one owns only what has a tag of p may have turned; the streams are as they were. -/
structure Tr (p : Tg → Prop) (s s' : St) : Prop where
  os : s'.w.os = s.w.os
  tape : s'.w.tape = s.w.tape
  output : s'.w.output = s.w.output
  size : s.w.heap.size ≤ s'.w.heap.size
  stay : ∀ b, b < s.w.heap.size → ¬ s.M b → ¬ s'.M b ∧ s'.w.heap[b]? = s.w.heap[b]?
  own : ∀ b t, s.tag b = some t → ¬ p t → s'.tag b = some t ∧ s'.w.heap[b]? = s.w.heap[b]?

abbrev No : Tg → Prop := fun _ => False
/-- All of k's. -/
def Rt (k : Nat) : Tg → Prop := fun t => t.1 = k
/-- This one, or those. -/
def Or (p q : Tg → Prop) : Tg → Prop := fun t => p t ∨ q t

theorem nt_snd {k k' i j : Nat} (h : Nat.beq i j = false) : ¬ ((k, i) : Tg) = (k', j) := by
  intro e
  have : i = j := congrArg Prod.snd e
  subst this
  simp at h
theorem nt_fst {k k' i j : Nat} (h : k ≠ k') : ¬ ((k, i) : Tg) = (k', j) := fun e => h (congrArg Prod.fst e)
theorem nr {k k' i : Nat} (h : k ≠ k') : ¬ Rt k' (k, i) := h
theorem nOr {p q : Tg → Prop} {t : Tg} (h : ¬ p t) (k : ¬ q t) : ¬ Or p q t := fun x => x.elim h k

section
variable {α β : Type} {K : Kd α} {s s' s'' : St} {v u : Value} {xs : List α} {x : α} {p q : Tg → Prop} {b : Nat} {cs : Array Value} {T B : Nat} {k k' : Tg}

theorem Tr.refl (p : Tg → Prop) (s : St) : Tr p s s := ⟨rfl, rfl, rfl, Nat.le_refl _, fun _ _ h => ⟨h, rfl⟩, fun _ _ h _ => ⟨h, rfl⟩⟩
theorem Tr.le (h : Tr p s s') : Le s s' := ⟨h.size, h.stay⟩
theorem Tr.mono (h : Tr p s s') (hpq : ∀ t, p t → q t) : Tr q s s' := ⟨h.os, h.tape, h.output, h.size, h.stay, fun b t hb hq => h.own b t hb fun hp => hq (hpq t hp)⟩
theorem Tr.no (h : Tr No s s') : Tr p s s' := h.mono fun _ h => h.elim
theorem Tr.trans (h : Tr p s s') (k : Tr p s' s'') : Tr p s s'' :=
  ⟨k.os.trans h.os, k.tape.trans h.tape, k.output.trans h.output, Nat.le_trans h.size k.size, (h.le.trans k.le).blk, fun b t hb hp =>
    let ⟨h1, h2⟩ := h.own b t hb hp; let ⟨k1, k2⟩ := k.own b t h1 hp; ⟨k1, k2.trans h2⟩⟩
/-- A step further: what turns is p's, or younger than s (whose tags stand below k). -/
theorem Tr.step {n : Nat} (h : Tr p s s') (hn : ∀ b t, s.tag b = some t → t.1 < n) (k : Tr q s' s'') (hq : ∀ t, q t → p t ∨ n ≤ t.1) : Tr p s s'' :=
  ⟨k.os.trans h.os, k.tape.trans h.tape, k.output.trans h.output, Nat.le_trans h.size k.size, (h.le.trans k.le).blk, fun b t hb hp =>
    let ⟨h1, h2⟩ := h.own b t hb hp
    let ⟨k1, k2⟩ := k.own b t h1 (fun x => (hq t x).elim hp fun y => Nat.lt_irrefl _ (Nat.lt_of_lt_of_le (hn b t hb) y))
    ⟨k1, k2.trans h2⟩⟩
theorem Tr.stepN (h : Tr p s s') (k : Tr No s' s'') : Tr p s s'' := h.trans k.no
theorem Tr.ext (h : Tr No s s') : Ext s.w s'.w := ⟨h.os, h.tape, h.output, h.size, fun b hb => by
  by_cases hm : s.M b
  · obtain ⟨t, ht⟩ := Option.ne_none_iff_exists'.1 hm
    exact (h.own b t ht (fun h => h)).2
  · exact (h.stay b hb hm).2⟩

theorem Sl.tr (h : Sl K s v xs) (ht : Tr p s s') : Sl K s' v xs := h.up ht.le
theorem At.tr {a : Addr} (h : At K s a x) (ht : Tr p s s') : At K s' a x := h.up ht.le
theorem Stay.tr (h : Stay s b cs) (ht : Tr p s s') : Stay s' b cs := h.up ht.le
theorem Own.tr (h : Own k s b cs T) (ht : Tr p s s') (hp : ¬ p k) : Own k s' b cs T := let ⟨h1, h2⟩ := ht.own b k h.1 hp; ⟨h1, h2.trans h.2⟩
theorem Own.trN (h : Own k s b cs T) (ht : Tr No s s') : Own k s' b cs T := h.tr ht (fun h => h)

theorem Tr.new (s : St) (o : Obj) (k : Tg) : Tr No s (s.new o k) :=
  ⟨rfl, rfl, rfl, by simp [St.new], fun b hb hm => ⟨by
      have : ¬ b = s.w.heap.size := by omega
      unfold St.M at *
      simp only [St.new, this, if_false]; exact hm, (Ext.alloc s.w o).blk b hb⟩,
    fun b t hb _ => by
      have hlt : b < s.w.heap.size := s.ok b (by rw [hb]; simp)
      have : ¬ b = s.w.heap.size := by omega
      exact ⟨by simp only [St.new, this, if_false]; exact hb, (Ext.alloc s.w o).blk b hlt⟩⟩
theorem Tr.xt {w' : World} (h : Ext s.w w') : Tr No s (s.ext w' h) := ⟨h.os, h.tape, h.output, h.size, fun b hb hm => ⟨hm, h.blk b hb⟩, fun b t hb _ => ⟨hb, h.blk b (s.ok b (by rw [hb]; simp))⟩⟩
theorem Tr.lay (s : St) (o : Obj) : Tr No s (s.lay o) := Tr.xt _

theorem Bd.tr (h : Bd k K T B s v xs) (ht : Tr p s s') (hp : ¬ p k) : Bd k K T B s' v xs := by
  obtain ⟨cs, ⟨hl, h1⟩, h2, h3⟩ := h
  refine ⟨cs, ⟨hl, h1.imp id ?_⟩, h2.up ht.le, fun b hb => (ht.own b k (h3 b hb) hp).1⟩
  rintro ⟨g, cap, cur, rfl, hB, hh, r⟩
  exact ⟨g, cap, cur, rfl, hB, ((ht.own g k (h3 g rfl) hp).2).trans hh, r⟩
theorem Bd.trN (h : Bd k K T B s v xs) (ht : Tr No s s') : Bd k K T B s' v xs := h.tr ht (fun h => h)
/-- It may be read. -/
theorem Bd.isS (h : Bd k K T B s v xs) : ∃ a c, v = .slice a xs.length c := by
  obtain ⟨cs, ⟨_, ⟨rfl, h0⟩ | ⟨g, cap, cur, rfl, _⟩⟩, _⟩ := h
  · exact ⟨_, _, by rw [h0]⟩
  · exact ⟨_, _, rfl⟩

/-! Turning an owner. -/
theorem Tr.turn {o : Option Nat} {kk : Option Tg} {h : ∀ b, o = some b → b < s.w.heap.size} (ho : ∀ b, o = some b → s.tag b = some k) : Tr (· = k) s (s.turn o kk h) :=
  ⟨rfl, rfl, rfl, Nat.le_refl _, fun b _ hm => ⟨St.turn_M (fun b hb => by unfold St.M; rw [ho b hb]; simp) b hm, rfl⟩, fun b t hb hp => ⟨by
    have : ¬ o = some b := fun e => hp (by have := ho b e; rw [hb] at this; exact Option.some.inj this)
    simp only [St.turn, this, if_false]; exact hb, rfl⟩⟩
/-- It stays from now on. -/
theorem Bd.fz (h : Bd k K T B s v xs) : ∃ s', s.w = s'.w ∧ Sl K s' v xs ∧ Tr (· = k) s s' := ⟨s.turn v.ownBlock none fun b hb => (h.lt b hb).2.2, rfl, h.sl, Tr.turn fun b hb => (h.lt b hb).1⟩
theorem Bd.rt (h : Bd k K T B s v xs) (k' : Tg) : ∃ s', s.w = s'.w ∧ Bd k' K T B s' v xs ∧ Tr (· = k) s s' := by
  have hlt := fun b hb => (h.lt b hb).2.2
  have hM : ∀ b, v.ownBlock = some b → s.M b := fun b hb => by unfold St.M; rw [(h.lt b hb).1]; simp
  refine ⟨s.turn v.ownBlock (some k') hlt, rfl, ?_, Tr.turn fun b hb => (h.lt b hb).1⟩
  obtain ⟨cs, h1, h2, h3⟩ := h
  exact ⟨cs, h1, h2.up (Le.turn hM), fun b hb => by simp only [St.turn, hb, if_true]⟩
theorem Own.fz (h : Own k s b cs T) : ∃ s', s.w = s'.w ∧ Stay s' b cs ∧ Tr (· = k) s s' := by
  have hlt := h.lt
  refine ⟨s.turn (some b) none (fun b' e => by cases e; exact hlt), rfl, ⟨fun hx => hx (by simp [St.turn]), hlt, T, (0, 0), h.2⟩, Tr.turn fun b' e => by cases e; exact h.1⟩
theorem Own.rt (h : Own k s b cs T) (k' : Tg) : ∃ s', s.w = s'.w ∧ Own k' s' b cs T ∧ Tr (· = k) s s' := by
  have hlt := h.lt
  exact ⟨s.turn (some b) (some k') (fun b' e => by cases e; exact hlt), rfl, ⟨by simp [St.turn], h.2⟩, Tr.turn fun b' e => by cases e; exact h.1⟩
end

section
variable {α β : Type} {K : Kd α} {s s' s'' : St} {v u : Value} {xs ys : List α} {x : α} {p q : Tg → Prop} {b : Nat} {cs : Array Value} {T B : Nat} {k : Tg}

/-- Read now: what v reads as, in s. -/
def Rd (K : Kd α) (s : St) (v : Value) (xs : List α) : Prop :=
  ∃ a c cs, v = .slice a xs.length c ∧ xs.length ≤ c ∧ Encs K s xs cs ∧ (a = none → xs = [] ∧ c = 0) ∧ ∀ ad, a = some ad → (xs ≠ [] → ad.spot = none) ∧ ∀ j u, cs[j]? = some u → s.w.cell? (ad.add j) = some u

theorem add_none (b o j : Nat) : (⟨b, o, none⟩ : Addr).add j = ⟨b, o + j, none⟩ := by
  by_cases h : j = 0
  · subst h; rfl
  · simp [Addr.add, h]
theorem Rd.isS (h : Rd K s v xs) : ∃ a c, v = .slice a xs.length c := let ⟨a, c, _, h, _⟩ := h; ⟨a, c, h⟩
theorem Bd.rd (h : Bd k K T B s v xs) : Rd K s v xs := by
  obtain ⟨cs, ⟨hl, hh⟩, he, hm⟩ := h
  rcases hh with ⟨rfl, h0⟩ | ⟨g, cap, cur, rfl, hB, hh, hc, hm, hz, hx⟩
  · have : xs = [] := List.eq_nil_of_length_eq_zero h0
    subst this
    have : cs = [] := he
    subst this
    exact ⟨_, _, [], rfl, Nat.le_refl _, rfl, fun _ => ⟨rfl, rfl⟩, fun ad h => by cases h⟩
  · refine ⟨_, _, cs, rfl, hc, he, fun h => (by cases h), fun ad h => ?_⟩
    cases h
    refine ⟨fun _ => rfl, fun j u hu => ?_⟩
    rw [add_none, Nat.zero_add]
    rw [← hx, List.getElem?_take] at hu
    split at hu
    · simpa [World.cell?, hh] using hu
    · cases hu
theorem Sl.rd (h : Sl K s v xs) : Rd K s v xs := by
  obtain ⟨a, c, rfl, hc, hn, hh⟩ := h
  rcases hh with rfl | ⟨b, o, cs, rfl, hm, hb, he, hx⟩
  · refine ⟨a, c, [], rfl, hc, rfl, fun h => ⟨rfl, hn h⟩, fun ad _ => ⟨fun h => (h rfl).elim, fun j u hu => by simp at hu⟩⟩
  · exact ⟨_, _, cs, rfl, hc, he, fun h => (by cases h), fun ad h => by cases h; exact ⟨fun _ => rfl, fun j u hu => by rw [add_none]; exact hx j u hu⟩⟩

/-! A row that is written as a whole. -/
def St.row (s : St) (b : Nat) (cs : Array Value) : St := ⟨s.tag, s.w.setRow b cs, fun k hk => by rw [size_setRow]; exact s.ok k hk⟩
theorem Tr.row (hm : s.tag b = some k) (cs : Array Value) : Tr (· = k) s (s.row b cs) :=
  ⟨rfl, rfl, rfl, by simp [St.row], fun i hi hn => ⟨hn, setRow_other _ _ _ _ (fun e => hn (by subst e; unfold St.M; rw [hm]; simp))⟩,
    fun i t hi hn => ⟨hi, setRow_other _ _ _ _ (fun e => hn (by subst e; rw [hm] at hi; exact (Option.some.inj hi).symm))⟩⟩
theorem Own.row (h : Own k s b cs T) (cs' : Array Value) : Own k (s.row b cs') b cs' T := ⟨h.1, setRow_heap _ _ _ _ _ _ h.2⟩

/-- Behind what the kit's laws on growth leave. -/
def St.grown (s : St) (w' : World) (h : s.w.heap.size ≤ w'.heap.size) (v' : Value) (k : Tg) (hv : ∀ b, v'.ownBlock = some b → b < w'.heap.size) : St :=
  ⟨fun b => if v'.ownBlock = some b then some k else s.tag b, w', fun b hb => by
    by_cases e : v'.ownBlock = some b
    · exact hv b e
    · simp only [e, if_false] at hb; exact Nat.lt_of_lt_of_le (s.ok b hb) h⟩
theorem Tr.grown {w' : World} {row : Option Nat} (hg : s.w.grownBy w' row) {v' : Value} (hv : ∀ b, v'.ownBlock = some b → b < w'.heap.size) (hr : ∀ b, row = some b → s.tag b = some k)
    (hv2 : ∀ b, v'.ownBlock = some b → row = some b ∨ s.w.heap.size ≤ b) : Tr (· = k) s (s.grown w' hg.size v' k hv) := by
  refine ⟨hg.os, hg.tape, hg.output, hg.size, fun b hb hm => ?_, fun b t hb hp => ?_⟩
  · have e : ¬ v'.ownBlock = some b := fun h => by
      rcases hv2 b h with h | h
      · exact hm (by unfold St.M; rw [hr b h]; simp)
      · omega
    exact ⟨by unfold St.M at *; simp only [St.grown, e, if_false]; exact hm, hg.block b hb (fun e => hm (by unfold St.M; rw [hr b e.symm]; simp))⟩
  · have hlt : b < s.w.heap.size := s.ok b (by rw [hb]; simp)
    have hrow : ¬ row = some b := fun h => hp (by have := hr b h; rw [hb] at this; exact Option.some.inj this)
    have e : ¬ v'.ownBlock = some b := fun h => by
      rcases hv2 b h with h | h
      · exact hrow h
      · omega
    exact ⟨by simp only [St.grown, e, if_false]; exact hb, hg.block b hlt (fun e => hrow e.symm)⟩
end
end Go.Proofs.YtdkfdmalbbfbmaaGreat
