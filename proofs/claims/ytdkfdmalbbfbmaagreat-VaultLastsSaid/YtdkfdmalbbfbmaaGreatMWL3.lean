/- A region that draws its order: gone through in one order, it comes to the same in every order. No project text. -/
import Derived.Test.YtdkfdmalbbfbmaaGreatMWL2
import Derived.StillTail
/- A region that draws its order: gone through in one order, it comes to the same in every order. No project text. -/
namespace Go.Proofs.YtdkfdmalbbfbmaaGreat
open Go

section
variable {P : Program} {ops : Array Oper} {Q : Act → World → Prop}

/-- The operation i waits for k, directly or not (by bits that okD holds against the text). -/
def bef (bm : Array Nat) (i k : Nat) : Bool := (bm.getD i 0).testBit k

/-- The bits are right; two operations of which neither waits for the other touch nothing of each other's. -/
def okD (ops : Array Oper) (bm : Array Nat) : Bool :=
  (List.range ops.size).all fun j =>
    match ops[j]? with
    | none => false
    | some oj => (match oj.op with | .select .. => false | _ => true) && oj.after.all (fun e => !Region.binds .any e || decide (e.on < j)) &&
      (List.range ops.size).all fun i =>
        (!bef bm j i || oj.after.any fun e => Region.binds .any e && (e.on == i || bef bm e.on i)) &&
        (i == j || bef bm j i || bef bm i j || (match ops[i]? with | none => false | some oi => oi.apart ops oj))

/-- What an operation leaves that lays one new block. -/
def Al (κ : Tg) (mkv : Nat → Value) (obj : Obj) (v : Value) (s : St) : Prop := ∃ b, v = mkv b ∧ s.tag b = some κ ∧ s.w.heap[b]? = some obj
theorem Al.trN {κ : Tg} {mkv : Nat → Value} {obj : Obj} {v : Value} {s s' : St} (h : Al κ mkv obj v s) (t : Tr No s s') : Al κ mkv obj v s' := let ⟨b, h1, h2, h3⟩ := h; let ⟨k1, k2⟩ := t.own b κ h2 (fun h => h); ⟨b, h1, k1, k2.trans h3⟩
theorem Al.tr {p : Tg → Prop} {κ : Tg} {mkv : Nat → Value} {obj : Obj} {v : Value} {s s' : St} (h : Al κ mkv obj v s) (t : Tr p s s') (hp : ¬ p κ) : Al κ mkv obj v s' := let ⟨b, h1, h2, h3⟩ := h; let ⟨k1, k2⟩ := t.own b κ h2 hp; ⟨b, h1, k1, k2.trans h3⟩

/-- The operations R, one behind the other (bm: who waits for whom; hs: those before that turned the world; rs: those before that read it; fs: those before that laid new memory, wherever they stand). -/
def DR (P : Program) (ops : Array Oper) (bm : Array Nat) (ka : Nat) (Q : Act → World → Prop) : List Nat → List Nat → List Nat → List Nat → Act → St → Prop
  | [], _, _, _, a, s => Q a s.w
  | i :: R, hs, rs, fs, a, s => ∃ o, ops[i]? = some o ∧
    ((Region.wanted o (yielded ops a.tmps) = false ∧ DR P ops bm ka Q R hs rs fs (a.put o.dst undef) s) ∨
     (Region.wanted o (yielded ops a.tmps) = true ∧ ∃ v, (∀ w, OpTo P o a.eval w v w) ∧ DR P ops bm ka Q R hs rs fs (a.put o.dst v) s) ∨
     (Region.wanted o (yielded ops a.tmps) = true ∧ ∃ v, (∀ s', Tr No s s' → OpTo P o a.eval s'.w v s'.w) ∧ (∀ h ∈ hs ++ fs, bef bm i h = true) ∧ DR P ops bm ka Q R hs (i :: rs) fs (a.put o.dst v) s) ∨
     (Region.wanted o (yielded ops a.tmps) = true ∧ ∃ Z, Hv P o a.eval s Z ∧ (∀ h ∈ hs ++ fs, bef bm i h = true) ∧ ∀ v s1, Z v s1 → (Tr No s s1 ∨ Le s s1 ∧ ∀ r ∈ rs, bef bm i r = true) ∧ DR P ops bm ka Q R (i :: hs) rs fs (a.put o.dst v) s1) ∨
     (Region.wanted o (yielded ops a.tmps) = true ∧ ∃ Z : Value → St → Prop, (∀ s', Tr No s s' → Hv P o a.eval s' fun v s1 => Z v s1 ∧ Tr No s' s1) ∧ (∀ h ∈ hs ++ fs, bef bm i h = true) ∧ ∀ v s1, Z v s1 → Tr No s s1 → DR P ops bm ka Q R hs rs (i :: fs) (a.put o.dst v) s1) ∨
     (Region.wanted o (yielded ops a.tmps) = true ∧ ∃ T z, (∀ c, o.op ≠ .defer c) ∧ (∀ w : World, (execOp a.eval o).run P w = .ok (.value (T w.heap.size)) (w.alloc z)) ∧ (∀ h ∈ hs, bef bm i h = true) ∧ ∀ v s1, Al (ka, i) T z v s1 → Tr No s s1 → DR P ops bm ka Q R hs rs (i :: fs) (a.put o.dst v) s1) ∨
     (Region.wanted o (yielded ops a.tmps) = true ∧ ∃ v, (∀ s', Le s s' → OpTo P o a.eval s'.w v s'.w) ∧ (∀ h ∈ hs ++ fs, bef bm i h = true) ∧ DR P ops bm ka Q R hs rs fs (a.put o.dst v) s) ∨
     (Region.wanted o (yielded ops a.tmps) = true ∧ ∃ (Z : Value → St → Prop) (q : Tg → Prop), (∀ s', Tr No s s' → Hv P o a.eval s' fun v s1 => Z v s1 ∧ Tr q s' s1) ∧ (∀ n ∈ R, ¬ q (ka, n)) ∧ (∀ h ∈ hs ++ fs, bef bm i h = true) ∧ (∀ r ∈ rs, bef bm i r = true) ∧ ∀ v s1, Z v s1 → Tr q s s1 → DR P ops bm ka Q R hs rs (i :: fs) (a.put o.dst v) s1))

theorem op_new {o : Oper} {T : Nat → Value} {z : Obj} {ρ : Operand → Value} (s : St) (κ : Tg) (ho : ∀ c, o.op ≠ .defer c) (hz : ∀ w : World, (execOp ρ o).run P w = .ok (.value (T w.heap.size)) (w.alloc z)) : Hv P o ρ s fun v s1 => Al κ T z v s1 ∧ Tr No s s1 :=
  hvo (s.new z κ) (OpTo_value ho (hz s.w)) ⟨⟨s.w.heap.size, rfl, by simp [St.new], heap_new _ _⟩, Tr.new s _ κ⟩
theorem op_new_not {o : Oper} {T : Nat → Value} {z : Obj} {v : Value} {ρ : Operand → Value} {w : World} (hz : ∀ w : World, (execOp ρ o).run P w = .ok (.value (T w.heap.size)) (w.alloc z)) (h : OpTo P o ρ w v w) : False := by
  have hr := hz w
  obtain ⟨_, h | ⟨h, _⟩⟩ := h <;> rw [hr] at h <;> injection h with h1 h2
  · have := congrArg (fun w : World => w.heap.size) h2
    simp at this
  · cases h1
theorem new_uniq {o : Oper} {T T' : Nat → Value} {z z' : Obj} {ρ : Operand → Value} (h : ∀ w : World, (execOp ρ o).run P w = .ok (.value (T w.heap.size)) (w.alloc z)) (h' : ∀ w : World, (execOp ρ o).run P w = .ok (.value (T' w.heap.size)) (w.alloc z')) : T = T' ∧ z = z' := by
  have key : ∀ n : Nat, T n = T' n ∧ z = z' := by
    intro n
    let w : World := { (default : World) with heap := Array.replicate n (.cells #[] 0) }
    have hn : w.heap.size = n := by simp [w]
    have e := (h w).symm.trans (h' w)
    rw [hn] at e
    injection e with e1 e2
    injection e1 with e1
    have e3 : (w.heap.push z)[w.heap.size]? = (w.heap.push z')[w.heap.size]? := by
      have := congrArg (fun w : World => w.heap[n]?) e2
      rw [hn]; exact this
    simp at e3
    exact ⟨e1, e3⟩
  exact ⟨funext fun n => (key n).1, (key 0).2⟩

theorem OpW.congr {o : Oper} {ρ ρ' : Operand → Value} {w : World} {K : Value → World → Prop} (h : OpW P o ρ w K) (he : execOp ρ' o = execOp ρ o) : OpW P o ρ' w K := by
  unfold OpW at *
  rw [he]; exact h
theorem OpTo.congr {o : Oper} {ρ ρ' : Operand → Value} {w w' : World} {v : Value} (h : OpTo P o ρ w v w') (he : execOp ρ' o = execOp ρ o) : OpTo P o ρ' w v w' := by
  unfold OpTo at *
  rw [he]; exact h

theorem sub_cons {α : Type} {x : α} {l l' : List α} (h : ∀ y ∈ l', y ∈ l) : ∀ y ∈ x :: l', y ∈ x :: l := fun y hy => by
  rcases List.mem_cons.1 hy with rfl | hy
  · exact List.mem_cons_self
  · exact List.mem_cons_of_mem _ (h y hy)
theorem sub_app {α : Type} {l l' m m' : List α} (h : ∀ y ∈ l', y ∈ l) (k : ∀ y ∈ m', y ∈ m) : ∀ y ∈ l' ++ m', y ∈ l ++ m := fun y hy => by
  rcases List.mem_append.1 hy with hy | hy
  · exact List.mem_append_left _ (h y hy)
  · exact List.mem_append_right _ (k y hy)
theorem DR.less {bm : Array Nat} {ka : Nat} : ∀ {R hs rs fs hs' rs' fs' : List Nat} {a : Act} {s : St}, (∀ h ∈ hs', h ∈ hs) → (∀ r ∈ rs', r ∈ rs) → (∀ r ∈ fs', r ∈ fs) → DR P ops bm ka Q R hs rs fs a s → DR P ops bm ka Q R hs' rs' fs' a s
  | [], _, _, _, _, _, _, _, _, _, _, _, h => h
  | i :: R, hs, rs, fs, hs', rs', fs', a, s, hh, hr, hf, ⟨o, ho, h⟩ => by
    refine ⟨o, ho, ?_⟩
    have hhf := sub_app hh hf
    rcases h with ⟨hw, h⟩ | ⟨hw, v, hv, h⟩ | ⟨hw, v, hv, hb, h⟩ | ⟨hw, Z, hv, hb, h⟩ | ⟨hw, Z, hv, hb, h⟩ | ⟨hw, T, z, hv, hz, hb, h⟩ | ⟨hw, v, hv, hb, h⟩ | ⟨hw, Z, q, hv, hq, hb, hr2, h⟩
    · exact .inl ⟨hw, h.less hh hr hf⟩
    · exact .inr (.inl ⟨hw, v, hv, h.less hh hr hf⟩)
    · exact .inr (.inr (.inl ⟨hw, v, hv, fun k hk => hb k (hhf k hk), h.less hh (sub_cons hr) hf⟩))
    · exact .inr (.inr (.inr (.inl ⟨hw, Z, hv, fun k hk => hb k (hhf k hk), fun v s1 z => ⟨(h v s1 z).1.imp id (fun hc => ⟨hc.1, fun r hr' => hc.2 r (hr r hr')⟩), (h v s1 z).2.less (sub_cons hh) hr hf⟩⟩)))
    · exact .inr (.inr (.inr (.inr (.inl ⟨hw, Z, hv, fun k hk => hb k (hhf k hk), fun v s1 z t => (h v s1 z t).less hh hr (sub_cons hf)⟩))))
    · exact .inr (.inr (.inr (.inr (.inr (.inl ⟨hw, T, z, hv, hz, fun k hk => hb k (hh k hk), fun v s1 z t => (h v s1 z t).less hh hr (sub_cons hf)⟩)))))
    · exact .inr (.inr (.inr (.inr (.inr (.inr (.inl ⟨hw, v, hv, fun k hk => hb k (hhf k hk), h.less hh hr hf⟩))))))
    · exact .inr (.inr (.inr (.inr (.inr (.inr (.inr ⟨hw, Z, q, hv, hq, fun k hk => hb k (hhf k hk), fun r hr' => hr2 r (hr r hr'), fun v s1 z t => (h v s1 z t).less hh hr (sub_cons hf)⟩))))))

/-- What may come of an operation that comes up now. -/
def Case (P : Program) (ops : Array Oper) (bm : Array Nat) (ka : Nat) (Q : Act → World → Prop) (j : Nat) (oj : Oper) (R hs rs fs : List Nat) (a : Act) (s : St) : Prop :=
  (Region.wanted oj (yielded ops a.tmps) = false ∧ DR P ops bm ka Q R hs rs fs (a.put oj.dst undef) s) ∨
  (Region.wanted oj (yielded ops a.tmps) = true ∧ ∃ v, (∀ w, OpTo P oj a.eval w v w) ∧ DR P ops bm ka Q R hs rs fs (a.put oj.dst v) s) ∨
  (Region.wanted oj (yielded ops a.tmps) = true ∧ ∃ v, (∀ s', Tr No s s' → OpTo P oj a.eval s'.w v s'.w) ∧ (∀ h ∈ hs ++ fs, bef bm j h = true) ∧ DR P ops bm ka Q R hs rs fs (a.put oj.dst v) s) ∨
  (Region.wanted oj (yielded ops a.tmps) = true ∧ ∃ Z, Hv P oj a.eval s Z ∧ (∀ h ∈ hs ++ fs, bef bm j h = true) ∧ ∀ v s1, Z v s1 → (Tr No s s1 ∨ Le s s1 ∧ ∀ r ∈ rs, bef bm j r = true) ∧ DR P ops bm ka Q R hs rs fs (a.put oj.dst v) s1) ∨
  (Region.wanted oj (yielded ops a.tmps) = true ∧ ∃ T z, (∀ c, oj.op ≠ .defer c) ∧ (∀ w : World, (execOp a.eval oj).run P w = .ok (.value (T w.heap.size)) (w.alloc z)) ∧ (∀ h ∈ hs, bef bm j h = true) ∧ ∀ v s1, Al (ka, j) T z v s1 → Tr No s s1 → DR P ops bm ka Q R hs rs fs (a.put oj.dst v) s1)

theorem DR.pull {bm : Array Nat} {ka : Nat} {j : Nat} {oj : Oper} (hj : ops[j]? = some oj) (hsj : ∀ cs b, oj.op ≠ .select cs b) :
    ∀ {R1 R2 hs rs fs : List Nat} {a : Act} {s : St}, (∀ i ∈ R1, bef bm j i = false ∧ (bef bm i j = false → ∀ oi, ops[i]? = some oi → oi.apart ops oj = true ∧ ∀ cs b, oi.op ≠ .select cs b)) → (∀ i ∈ R1, bef bm i j = false) →
      DR P ops bm ka Q (R1 ++ j :: R2) hs rs fs a s → Case P ops bm ka Q j oj (R1 ++ R2) hs rs fs a s
  | [], R2, hs, rs, fs, a, s, _, _, ⟨o, ho, h⟩ => by
    have : o = oj := Option.some.inj (ho.symm.trans hj)
    subst this
    have sc : ∀ {l : List Nat}, ∀ y ∈ l, y ∈ j :: l := fun y hy => List.mem_cons_of_mem _ hy
    have si : ∀ {l : List Nat}, ∀ y ∈ l, y ∈ l := fun y hy => hy
    rcases h with ⟨hw, h⟩ | ⟨hw, v, hv, h⟩ | ⟨hw, v, hv, hb, h⟩ | ⟨hw, Z, hv, hb, h⟩ | ⟨hw, Z, hv, hb, h⟩ | ⟨hw, T, z, hv, hz, hb, h⟩ | ⟨hw, v, hv, hb, h⟩ | ⟨hw, Z, q, hv, hq, hb, hr2, h⟩
    · exact .inl ⟨hw, h⟩
    · exact .inr (.inl ⟨hw, v, hv, h⟩)
    · exact .inr (.inr (.inl ⟨hw, v, hv, hb, h.less si sc si⟩))
    · exact .inr (.inr (.inr (.inl ⟨hw, Z, hv, hb, fun v s1 z => ⟨(h v s1 z).1, (h v s1 z).2.less sc si si⟩⟩)))
    · exact .inr (.inr (.inr (.inl ⟨hw, _, hv s (Tr.refl _ _), hb, fun v s1 z => ⟨.inl z.2, (h v s1 z.1 z.2).less si si sc⟩⟩)))
    · exact .inr (.inr (.inr (.inr ⟨hw, T, z, hv, hz, hb, fun v s1 z t => (h v s1 z t).less si si sc⟩)))
    · exact .inr (.inr (.inl ⟨hw, v, fun s' t => hv s' t.le, hb, h⟩))
    · exact .inr (.inr (.inr (.inl ⟨hw, _, hv s (Tr.refl _ _), hb, fun v s1 z => ⟨.inr ⟨z.2.le, hr2⟩, (h v s1 z.1 z.2).less si si sc⟩⟩)))
  | i :: R1, R2, hs, rs, fs, a, s, hA, hB, ⟨oi, hoi, h⟩ => by
    obtain ⟨hbji, hap⟩ := hA i List.mem_cons_self
    obtain ⟨hap, hsi⟩ := hap (hB i List.mem_cons_self) oi hoi
    obtain ⟨p1, p2, p3⟩ := Oper.apart_spec hap
    have hA' : ∀ k ∈ R1, bef bm j k = false ∧ (bef bm k j = false → ∀ ok, ops[k]? = some ok → ok.apart ops oj = true ∧ ∀ cs b, ok.op ≠ .select cs b) := fun k hk => hA k (List.mem_cons_of_mem _ hk)
    have hB' : ∀ k ∈ R1, bef bm k j = false := fun k hk => hB k (List.mem_cons_of_mem _ hk)
    have wi : ∀ u, Region.wanted oi (yielded ops (a.put oj.dst u).tmps) = Region.wanted oi (yielded ops a.tmps) := fun u => wanted_put oi a oj.dst u p3
    have wj : ∀ u, Region.wanted oj (yielded ops (a.put oi.dst u).tmps) = Region.wanted oj (yielded ops a.tmps) := fun u => wanted_put oj a oi.dst u p1
    have ei : ∀ u, execOp (a.put oj.dst u).eval oi = execOp a.eval oi := fun u => execOp_put oi hsi a oj.dst u p3
    have ej : ∀ u, execOp (a.put oi.dst u).eval oj = execOp a.eval oj := fun u => execOp_put oj hsj a oi.dst u p1
    have cm : ∀ u v, (a.put oi.dst u).put oj.dst v = (a.put oj.dst v).put oi.dst u := fun u v => Act.put_comm a u v p2
    have nh : ¬ (bef bm j i = true) := by rw [hbji]; simp
    rcases h with ⟨hw, h⟩ | ⟨hw, v, hv, h⟩ | ⟨hw, v, hv, hb, h⟩ | ⟨hw, Y, hv, hb, h⟩ | ⟨hw, Y, hv, hb, h⟩ | ⟨hw, T, z, hv, hz, hb, h⟩ | ⟨hw, v, hv, hb, h⟩ | ⟨hw, Y, q, hv, hq, hb, hr2, h⟩
    · rcases DR.pull hj hsj hA' hB' h with ⟨gw, g⟩ | ⟨gw, u, gu, g⟩ | ⟨gw, u, gu, gb, g⟩ | ⟨gw, Z, gu, gb, g⟩ | ⟨gw, T', z', gu, gz, gb, g⟩
      · exact .inl ⟨by rw [← wj undef]; exact gw, oi, hoi, .inl ⟨by rw [wi]; exact hw, by rw [← cm]; exact g⟩⟩
      · exact .inr (.inl ⟨by rw [← wj undef]; exact gw, u, fun w => (gu w).congr (ej undef).symm, oi, hoi, .inl ⟨by rw [wi]; exact hw, by rw [← cm]; exact g⟩⟩)
      · exact .inr (.inr (.inl ⟨by rw [← wj undef]; exact gw, u, fun w hw => (gu w hw).congr (ej undef).symm, gb, oi, hoi, .inl ⟨by rw [wi]; exact hw, by rw [← cm]; exact g⟩⟩))
      · exact .inr (.inr (.inr (.inl ⟨by rw [← wj undef]; exact gw, Z, OpW.congr gu (ej undef).symm, gb, fun u s2 z => ⟨(g u s2 z).1, oi, hoi, .inl ⟨by rw [wi]; exact hw, by rw [← cm]; exact (g u s2 z).2⟩⟩⟩)))
      · exact .inr (.inr (.inr (.inr ⟨by rw [← wj undef]; exact gw, T', z', gu, (fun w => by rw [← ej undef]; exact gz w), gb, fun u s2 z t => ⟨oi, hoi, .inl ⟨by rw [wi]; exact hw, by rw [← cm]; exact g u s2 z t⟩⟩⟩)))
    · rcases DR.pull hj hsj hA' hB' h with ⟨gw, g⟩ | ⟨gw, u, gu, g⟩ | ⟨gw, u, gu, gb, g⟩ | ⟨gw, Z, gu, gb, g⟩ | ⟨gw, T', z', gu, gz, gb, g⟩
      · exact .inl ⟨by rw [← wj v]; exact gw, oi, hoi, .inr (.inl ⟨by rw [wi]; exact hw, v, fun w => (hv w).congr (ei _), by rw [← cm]; exact g⟩)⟩
      · exact .inr (.inl ⟨by rw [← wj v]; exact gw, u, fun w => (gu w).congr (ej v).symm, oi, hoi, .inr (.inl ⟨by rw [wi]; exact hw, v, fun w => (hv w).congr (ei _), by rw [← cm]; exact g⟩)⟩)
      · exact .inr (.inr (.inl ⟨by rw [← wj v]; exact gw, u, fun w hw => (gu w hw).congr (ej v).symm, gb, oi, hoi, .inr (.inl ⟨by rw [wi]; exact hw, v, fun w => (hv w).congr (ei _), by rw [← cm]; exact g⟩)⟩))
      · exact .inr (.inr (.inr (.inl ⟨by rw [← wj v]; exact gw, Z, OpW.congr gu (ej v).symm, gb, fun u s2 z => ⟨(g u s2 z).1, oi, hoi, .inr (.inl ⟨by rw [wi]; exact hw, v, fun w => (hv w).congr (ei _), by rw [← cm]; exact (g u s2 z).2⟩)⟩⟩)))
      · exact .inr (.inr (.inr (.inr ⟨by rw [← wj v]; exact gw, T', z', gu, (fun w => by rw [← ej v]; exact gz w), gb, fun u s2 z t => ⟨oi, hoi, .inr (.inl ⟨by rw [wi]; exact hw, v, fun w => (hv w).congr (ei _), by rw [← cm]; exact g u s2 z t⟩)⟩⟩)))
    · rcases DR.pull hj hsj hA' hB' h with ⟨gw, g⟩ | ⟨gw, u, gu, g⟩ | ⟨gw, u, gu, gb, g⟩ | ⟨gw, Z, gu, gb, g⟩ | ⟨gw, T', z', gu, gz, gb, g⟩
      · exact .inl ⟨by rw [← wj v]; exact gw, oi, hoi, .inr (.inr (.inl ⟨by rw [wi]; exact hw, v, fun s' hs' => (hv s' hs').congr (ei _), hb, by rw [← cm]; exact g⟩))⟩
      · exact .inr (.inl ⟨by rw [← wj v]; exact gw, u, fun w => (gu w).congr (ej v).symm, oi, hoi, .inr (.inr (.inl ⟨by rw [wi]; exact hw, v, fun s' hs' => (hv s' hs').congr (ei _), hb, by rw [← cm]; exact g⟩))⟩)
      · exact .inr (.inr (.inl ⟨by rw [← wj v]; exact gw, u, fun w hw => (gu w hw).congr (ej v).symm, gb, oi, hoi, .inr (.inr (.inl ⟨by rw [wi]; exact hw, v, fun s' hs' => (hv s' hs').congr (ei _), hb, by rw [← cm]; exact g⟩))⟩))
      · refine .inr (.inr (.inr (.inl ⟨by rw [← wj v]; exact gw, Z, OpW.congr gu (ej v).symm, gb, fun u s2 z => ?_⟩)))
        obtain ⟨gc, g⟩ := g u s2 z
        rcases gc with gc | gc
        · exact ⟨.inl gc, oi, hoi, .inr (.inr (.inl ⟨by rw [wi]; exact hw, v, fun s' hs' => (hv s' (gc.trans hs')).congr (ei _), hb, by rw [← cm]; exact g⟩))⟩
        · exact absurd (gc.2 i List.mem_cons_self) nh
      · exact .inr (.inr (.inr (.inr ⟨by rw [← wj v]; exact gw, T', z', gu, (fun w => by rw [← ej v]; exact gz w), gb, fun u s2 z t => ⟨oi, hoi, .inr (.inr (.inl ⟨by rw [wi]; exact hw, v, fun s' hs' => (hv s' (t.trans hs')).congr (ei _), hb, by rw [← cm]; exact g u s2 z t⟩))⟩⟩)))
    · obtain ⟨v0, _, s0, _, z0⟩ := hv.some
      have imem : ∀ {l : List Nat}, i ∈ (i :: hs) ++ l := List.mem_append_left _ List.mem_cons_self
      rcases DR.pull hj hsj hA' hB' (h v0 s0 z0).2 with ⟨gw, g⟩ | ⟨gw, u, gu, g⟩ | ⟨gw, u, gu, gb, g⟩ | ⟨gw, Z, gu, gb, g⟩ | ⟨gw, T', z', gu, gz, gb, g⟩
      · rw [wj v0] at gw
        refine .inl ⟨gw, oi, hoi, .inr (.inr (.inr (.inl ⟨by rw [wi]; exact hw, Y, OpW.congr hv (ei _), hb, fun v s1 z => ⟨(h v s1 z).1, ?_⟩⟩)))⟩
        rcases DR.pull hj hsj hA' hB' (h v s1 z).2 with ⟨fw, f⟩ | ⟨fw, _⟩ | ⟨fw, _⟩ | ⟨fw, _⟩ | ⟨fw, _⟩
        · rw [← cm]; exact f
        all_goals (rw [wj v, gw] at fw; cases fw)
      · rw [wj v0] at gw
        refine .inr (.inl ⟨gw, u, fun w => (gu w).congr (ej v0).symm, oi, hoi, .inr (.inr (.inr (.inl ⟨by rw [wi]; exact hw, Y, OpW.congr hv (ei _), hb, fun v s1 z => ⟨(h v s1 z).1, ?_⟩⟩)))⟩)
        rcases DR.pull hj hsj hA' hB' (h v s1 z).2 with ⟨fw, f⟩ | ⟨fw, u', fu, f⟩ | ⟨fw, u', fu, fb, f⟩ | ⟨fw, Z, fu, fb, f⟩ | ⟨fw, T', z', fu, fz, fb, f⟩
        · rw [wj v, gw] at fw; cases fw
        · have e1 := ((gu s1.w).congr (ej v0).symm).uniq ((fu s1.w).congr (ej v).symm)
          subst e1
          rw [← cm]; exact f
        · exact absurd (fb i imem) nh
        · exact absurd (fb i imem) nh
        · exact absurd (fb i List.mem_cons_self) nh
      · exact absurd (gb i imem) nh
      · exact absurd (gb i imem) nh
      · exact absurd (gb i List.mem_cons_self) nh
    · obtain ⟨v0, _, s0, _, z0, t0⟩ := (hv s (Tr.refl _ _)).some
      have imem : ∀ {l : List Nat}, i ∈ l ++ (i :: fs) := List.mem_append_right _ List.mem_cons_self
      rcases DR.pull hj hsj hA' hB' (h v0 s0 z0 t0) with ⟨gw, g⟩ | ⟨gw, u, gu, g⟩ | ⟨gw, u, gu, gb, g⟩ | ⟨gw, Z, gu, gb, g⟩ | ⟨gw, T', z', gu, gz, gb, g⟩
      · rw [wj v0] at gw
        refine .inl ⟨gw, oi, hoi, .inr (.inr (.inr (.inr (.inl ⟨by rw [wi]; exact hw, Y, fun s' t => OpW.congr (hv s' t) (ei _), hb, fun v s1 z t => ?_⟩))))⟩
        rcases DR.pull hj hsj hA' hB' (h v s1 z t) with ⟨fw, f⟩ | ⟨fw, _⟩ | ⟨fw, _⟩ | ⟨fw, _⟩ | ⟨fw, _⟩
        · rw [← cm]; exact f
        all_goals (rw [wj v, gw] at fw; cases fw)
      · rw [wj v0] at gw
        refine .inr (.inl ⟨gw, u, fun w => (gu w).congr (ej v0).symm, oi, hoi, .inr (.inr (.inr (.inr (.inl ⟨by rw [wi]; exact hw, Y, fun s' t => OpW.congr (hv s' t) (ei _), hb, fun v s1 z t => ?_⟩))))⟩)
        rcases DR.pull hj hsj hA' hB' (h v s1 z t) with ⟨fw, f⟩ | ⟨fw, u', fu, f⟩ | ⟨fw, u', fu, fb, f⟩ | ⟨fw, Z, fu, fb, f⟩ | ⟨fw, T', z', fu, fz, fb, f⟩
        · rw [wj v, gw] at fw; cases fw
        · have e1 := ((gu s1.w).congr (ej v0).symm).uniq ((fu s1.w).congr (ej v).symm)
          subst e1
          rw [← cm]; exact f
        · exact absurd (fb i imem) nh
        · exact absurd (fb i imem) nh
        · exact (op_new_not (fun w => by rw [← ej v]; exact fz w) ((gu s1.w).congr (ej v0).symm)).elim
      · exact absurd (gb i imem) nh
      · exact absurd (gb i imem) nh
      · rw [wj v0] at gw
        refine .inr (.inr (.inr (.inr ⟨gw, T', z', gu, (fun w => by rw [← ej v0]; exact gz w), gb, fun u s2 zu tu => ⟨oi, hoi, .inr (.inr (.inr (.inr (.inl ⟨by rw [wi]; exact hw, Y, fun s' t => OpW.congr (hv s' (tu.trans t)) (ei _), hb, fun v s3 z3 t3 => ?_⟩))))⟩⟩)))
        rcases DR.pull hj hsj hA' hB' (h v s3 z3 (tu.trans t3)) with ⟨fw, f⟩ | ⟨fw, u', fu, f⟩ | ⟨fw, u', fu, fb, f⟩ | ⟨fw, Z, fu, fb, f⟩ | ⟨fw, T2, z2, fu, fz, fb, f⟩
        · rw [wj v, gw] at fw; cases fw
        · exact (op_new_not (fun w => by rw [← ej v0]; exact gz w) ((fu s3.w).congr (ej v).symm)).elim
        · exact absurd (fb i imem) nh
        · exact absurd (fb i imem) nh
        · obtain ⟨eT, ez⟩ := new_uniq (fun w => by rw [← ej v]; exact fz w) (fun w => by rw [← ej v0]; exact gz w)
          subst eT
          subst ez
          rw [← cm]; exact f u s3 (zu.trN t3) (Tr.refl _ _)
    · obtain ⟨v0, _, s0, _, z0, t0⟩ := (op_new (P := P) (ρ := a.eval) s (ka, i) hv hz).some
      have imem : ∀ {l : List Nat}, i ∈ l ++ (i :: fs) := List.mem_append_right _ List.mem_cons_self
      rcases DR.pull hj hsj hA' hB' (h v0 s0 z0 t0) with ⟨gw, g⟩ | ⟨gw, u, gu, g⟩ | ⟨gw, u, gu, gb, g⟩ | ⟨gw, Z, gu, gb, g⟩ | ⟨gw, T', z', gu, gz, gb, g⟩
      · rw [wj v0] at gw
        refine .inl ⟨gw, oi, hoi, .inr (.inr (.inr (.inr (.inr (.inl ⟨by rw [wi]; exact hw, T, z, hv, (fun w => by rw [ei]; exact hz w), hb, fun v s1 z t => ?_⟩)))))⟩
        rcases DR.pull hj hsj hA' hB' (h v s1 z t) with ⟨fw, f⟩ | ⟨fw, _⟩ | ⟨fw, _⟩ | ⟨fw, _⟩ | ⟨fw, _⟩
        · rw [← cm]; exact f
        all_goals (rw [wj v, gw] at fw; cases fw)
      · rw [wj v0] at gw
        refine .inr (.inl ⟨gw, u, fun w => (gu w).congr (ej v0).symm, oi, hoi, .inr (.inr (.inr (.inr (.inr (.inl ⟨by rw [wi]; exact hw, T, z, hv, (fun w => by rw [ei]; exact hz w), hb, fun v s1 z t => ?_⟩)))))⟩)
        rcases DR.pull hj hsj hA' hB' (h v s1 z t) with ⟨fw, f⟩ | ⟨fw, u', fu, f⟩ | ⟨fw, u', fu, fb, f⟩ | ⟨fw, Z, fu, fb, f⟩ | ⟨fw, T', z', fu, fz, fb, f⟩
        · rw [wj v, gw] at fw; cases fw
        · have e1 := ((gu s1.w).congr (ej v0).symm).uniq ((fu s1.w).congr (ej v).symm)
          subst e1
          rw [← cm]; exact f
        · exact absurd (fb i imem) nh
        · exact absurd (fb i imem) nh
        · exact (op_new_not (fun w => by rw [← ej v]; exact fz w) ((gu s1.w).congr (ej v0).symm)).elim
      · exact absurd (gb i imem) nh
      · exact absurd (gb i imem) nh
      · rw [wj v0] at gw
        refine .inr (.inr (.inr (.inr ⟨gw, T', z', gu, (fun w => by rw [← ej v0]; exact gz w), gb, fun u s2 zu tu => ⟨oi, hoi, .inr (.inr (.inr (.inr (.inr (.inl ⟨by rw [wi]; exact hw, T, z, hv, (fun w => by rw [ei]; exact hz w), hb, fun v s3 z3 t3 => ?_⟩)))))⟩⟩)))
        rcases DR.pull hj hsj hA' hB' (h v s3 z3 (tu.trans t3)) with ⟨fw, f⟩ | ⟨fw, u', fu, f⟩ | ⟨fw, u', fu, fb, f⟩ | ⟨fw, Z, fu, fb, f⟩ | ⟨fw, T2, z2, fu, fz, fb, f⟩
        · rw [wj v, gw] at fw; cases fw
        · exact (op_new_not (fun w => by rw [← ej v0]; exact gz w) ((fu s3.w).congr (ej v).symm)).elim
        · exact absurd (fb i imem) nh
        · exact absurd (fb i imem) nh
        · obtain ⟨eT, ez⟩ := new_uniq (fun w => by rw [← ej v]; exact fz w) (fun w => by rw [← ej v0]; exact gz w)
          subst eT
          subst ez
          rw [← cm]; exact f u s3 (zu.trN t3) (Tr.refl _ _)

    · rcases DR.pull hj hsj hA' hB' h with ⟨gw, g⟩ | ⟨gw, u, gu, g⟩ | ⟨gw, u, gu, gb, g⟩ | ⟨gw, Z, gu, gb, g⟩ | ⟨gw, T', z', gu, gz, gb, g⟩
      · exact .inl ⟨by rw [← wj v]; exact gw, oi, hoi, .inr (.inr (.inr (.inr (.inr (.inr (.inl ⟨by rw [wi]; exact hw, v, fun s' hs' => (hv s' hs').congr (ei _), hb, by rw [← cm]; exact g⟩))))))⟩
      · exact .inr (.inl ⟨by rw [← wj v]; exact gw, u, fun w => (gu w).congr (ej v).symm, oi, hoi, .inr (.inr (.inr (.inr (.inr (.inr (.inl ⟨by rw [wi]; exact hw, v, fun s' hs' => (hv s' hs').congr (ei _), hb, by rw [← cm]; exact g⟩))))))⟩)
      · exact .inr (.inr (.inl ⟨by rw [← wj v]; exact gw, u, fun w hw => (gu w hw).congr (ej v).symm, gb, oi, hoi, .inr (.inr (.inr (.inr (.inr (.inr (.inl ⟨by rw [wi]; exact hw, v, fun s' hs' => (hv s' hs').congr (ei _), hb, by rw [← cm]; exact g⟩))))))⟩))
      · refine .inr (.inr (.inr (.inl ⟨by rw [← wj v]; exact gw, Z, OpW.congr gu (ej v).symm, gb, fun u s2 z => ?_⟩)))
        obtain ⟨gc, g⟩ := g u s2 z
        have hle : Le s s2 := gc.elim (fun t => t.le) (fun t => t.1)
        exact ⟨gc, oi, hoi, .inr (.inr (.inr (.inr (.inr (.inr (.inl ⟨by rw [wi]; exact hw, v, fun s' hs' => (hv s' (hle.trans hs')).congr (ei _), hb, by rw [← cm]; exact g⟩))))))⟩
      · exact .inr (.inr (.inr (.inr ⟨by rw [← wj v]; exact gw, T', z', gu, (fun w => by rw [← ej v]; exact gz w), gb, fun u s2 z t => ⟨oi, hoi, .inr (.inr (.inr (.inr (.inr (.inr (.inl ⟨by rw [wi]; exact hw, v, fun s' hs' => (hv s' (t.le.trans hs')).congr (ei _), hb, by rw [← cm]; exact g u s2 z t⟩))))))⟩⟩)))
    · have hq2 : ∀ n ∈ R1 ++ R2, ¬ q (ka, n) := fun n hn => hq n ((List.mem_append.1 hn).elim (fun h => List.mem_append_left _ h) fun h => List.mem_append_right _ (List.mem_cons_of_mem _ h))
      have hqj : ¬ q (ka, j) := hq j (List.mem_append_right _ List.mem_cons_self)
      obtain ⟨v0, _, s0, _, z0, t0⟩ := (hv s (Tr.refl _ _)).some
      have imem : ∀ {l : List Nat}, i ∈ l ++ (i :: fs) := List.mem_append_right _ List.mem_cons_self
      rcases DR.pull hj hsj hA' hB' (h v0 s0 z0 t0) with ⟨gw, g⟩ | ⟨gw, u, gu, g⟩ | ⟨gw, u, gu, gb, g⟩ | ⟨gw, Z, gu, gb, g⟩ | ⟨gw, T', z', gu, gz, gb, g⟩
      · rw [wj v0] at gw
        refine .inl ⟨gw, oi, hoi, .inr (.inr (.inr (.inr (.inr (.inr (.inr ⟨by rw [wi]; exact hw, Y, q, fun s' t => OpW.congr (hv s' t) (ei _), hq2, hb, hr2, fun v s1 z t => ?_⟩))))))⟩
        rcases DR.pull hj hsj hA' hB' (h v s1 z t) with ⟨fw, f⟩ | ⟨fw, _⟩ | ⟨fw, _⟩ | ⟨fw, _⟩ | ⟨fw, _⟩
        · rw [← cm]; exact f
        all_goals (rw [wj v, gw] at fw; cases fw)
      · rw [wj v0] at gw
        refine .inr (.inl ⟨gw, u, fun w => (gu w).congr (ej v0).symm, oi, hoi, .inr (.inr (.inr (.inr (.inr (.inr (.inr ⟨by rw [wi]; exact hw, Y, q, fun s' t => OpW.congr (hv s' t) (ei _), hq2, hb, hr2, fun v s1 z t => ?_⟩))))))⟩)
        rcases DR.pull hj hsj hA' hB' (h v s1 z t) with ⟨fw, f⟩ | ⟨fw, u', fu, f⟩ | ⟨fw, u', fu, fb, f⟩ | ⟨fw, Z, fu, fb, f⟩ | ⟨fw, T', z', fu, fz, fb, f⟩
        · rw [wj v, gw] at fw; cases fw
        · have e1 := ((gu s1.w).congr (ej v0).symm).uniq ((fu s1.w).congr (ej v).symm)
          subst e1
          rw [← cm]; exact f
        · exact absurd (fb i imem) nh
        · exact absurd (fb i imem) nh
        · exact (op_new_not (fun w => by rw [← ej v]; exact fz w) ((gu s1.w).congr (ej v0).symm)).elim
      · exact absurd (gb i imem) nh
      · exact absurd (gb i imem) nh
      · rw [wj v0] at gw
        refine .inr (.inr (.inr (.inr ⟨gw, T', z', gu, (fun w => by rw [← ej v0]; exact gz w), gb, fun u s2 zu tu => ⟨oi, hoi, .inr (.inr (.inr (.inr (.inr (.inr (.inr ⟨by rw [wi]; exact hw, Y, q, fun s' t => OpW.congr (hv s' (tu.trans t)) (ei _), hq2, hb, hr2, fun v s3 z3 t3 => ?_⟩))))))⟩⟩)))
        rcases DR.pull hj hsj hA' hB' (h v s3 z3 (tu.no.trans t3)) with ⟨fw, f⟩ | ⟨fw, u', fu, f⟩ | ⟨fw, u', fu, fb, f⟩ | ⟨fw, Z, fu, fb, f⟩ | ⟨fw, T2, z2, fu, fz, fb, f⟩
        · rw [wj v, gw] at fw; cases fw
        · exact (op_new_not (fun w => by rw [← ej v0]; exact gz w) ((fu s3.w).congr (ej v).symm)).elim
        · exact absurd (fb i imem) nh
        · exact absurd (fb i imem) nh
        · obtain ⟨eT, ez⟩ := new_uniq (fun w => by rw [← ej v]; exact fz w) (fun w => by rw [← ej v0]; exact gz w)
          subst eT
          subst ez
          rw [← cm]; exact f u s3 (zu.tr t3 hqj) (Tr.refl _ _)

/-- What is listed, and what waits for it. -/
structure LInv (ops : Array Oper) (bm : Array Nat) (listed : Array Bool) (R : List Nat) : Prop where
  topo : R.Pairwise fun i k => bef bm i k = false
  size : listed.size = ops.size
  mem : ∀ i, i ∈ R ↔ i < ops.size ∧ listed.getD i false = false
  nodup : R.Nodup
  closed : ∀ j oj, ops[j]? = some oj → listed.getD j false = true → ∀ e ∈ oj.after, Region.binds .any e = true → listed.getD e.on false = true

theorem getD_true_of {listed : Array Bool} {i : Nat} (h : listed.getD i true = false) : listed.getD i false = false ∧ i < listed.size := by
  rcases Nat.lt_or_ge i listed.size with h' | h'
  · simp [h'] at h ⊢; exact h
  · simp [Array.getElem?_eq_none h'] at h

theorem getD_of_lt {listed : Array Bool} {i : Nat} (h : i < listed.size) (d e : Bool) : listed.getD i d = listed.getD i e := by simp [h]

theorem bef_listed {bm : Array Nat} (hok : okD ops bm = true) {listed : Array Bool} {R : List Nat} (inv : LInv ops bm listed R) :
    ∀ (m j i : Nat) (oj : Oper), i < ops.size → ops[j]? = some oj → (∀ e ∈ oj.after, Region.binds .any e = true → listed.getD e.on false = true) → bef bm j i = true → j < m → listed.getD i false = true := by
  intro m
  induction m with
  | zero => intro j i oj _ _ _ _ h; omega
  | succ m ih =>
    intro j i oj hil hj hd hb hm
    have hjl : j < ops.size := (Array.getElem?_eq_some_iff.1 hj).1
    have h1 := List.all_eq_true.1 hok j (List.mem_range.2 hjl)
    rw [hj] at h1
    simp only [Bool.and_eq_true] at h1
    have h2 := List.all_eq_true.1 h1.2 i (List.mem_range.2 hil)
    simp only [Bool.and_eq_true, hb, Bool.not_true, Bool.false_or] at h2
    obtain ⟨e, he, he2⟩ := Array.any_eq_true'.1 h2.1
    simp only [Bool.and_eq_true, Bool.or_eq_true, beq_iff_eq] at he2
    rcases he2.2 with h3 | h3
    · rw [← h3]; exact hd e he he2.1
    · have hl := hd e he he2.1
      have hlt := Array.all_eq_true'.1 h1.1.2 e he
      rw [he2.1] at hlt
      have hlt : e.on < j := by simpa using hlt
      have hek : e.on < ops.size := by omega
      obtain ⟨ok, hok2⟩ : ∃ ok, ops[e.on]? = some ok := ⟨_, Array.getElem?_eq_getElem hek⟩
      exact ih e.on i ok hil hok2 (inv.closed e.on ok hok2 hl) h3 (by omega)

theorem LInv.take {bm : Array Nat} {listed : Array Bool} {R1 R2 : List Nat} {j : Nat} (inv : LInv ops bm listed (R1 ++ j :: R2)) (hj : j ∈ Region.ready .any ops listed) : LInv ops bm (listed.setIfInBounds j true) (R1 ++ R2) := by
  obtain ⟨hjun, oj, hoj, hall⟩ := mem_ready.1 hj
  have hjl : j < ops.size := (Array.getElem?_eq_some_iff.1 hoj).1
  have hnd := inv.nodup
  refine ⟨inv.topo.sublist (List.Sublist.append_left (List.sublist_cons_self _ _) _), by simp [inv.size], fun i => ?_, ?_, fun k ok hk hl e he hb => ?_⟩
  · by_cases hij : i = j
    · subst hij
      constructor
      · intro hm
        rw [List.nodup_append] at hnd
        rcases List.mem_append.1 hm with h | h
        · exact absurd rfl (hnd.2.2 i h i List.mem_cons_self)
        · exact absurd h (List.nodup_cons.1 hnd.2.1).1
      · rintro ⟨_, h⟩
        simp [inv.size, hjl] at h
    · rw [getD_set_ne false (Ne.symm hij), ← inv.mem i]
      simp [hij]
  · rw [List.nodup_append] at hnd ⊢
    exact ⟨hnd.1, (List.nodup_cons.1 hnd.2.1).2, fun a ha b hb => hnd.2.2 a ha b (List.mem_cons_of_mem _ hb)⟩
  · by_cases hkj : k = j
    · subst hkj
      have : ok = oj := Option.some.inj (hk.symm.trans hoj)
      subst this
      exact getD_set_true (hall e he hb)
    · rw [getD_set_ne false (Ne.symm hkj)] at hl
      exact getD_set_true (inv.closed k ok hk hl e he hb)

theorem split_at {α : Type} {x : α} : ∀ {l : List α}, x ∈ l → ∃ l1 l2, l = l1 ++ x :: l2
  | a :: l, h => by
    rcases List.mem_cons.1 h with rfl | h
    · exact ⟨[], l, rfl⟩
    · obtain ⟨l1, l2, rfl⟩ := split_at h
      exact ⟨a :: l1, l2, rfl⟩

/-- In whatever order the operations come up. -/
theorem DR.any {bm : Array Nat} {ka : Nat} {l : Option Nat} (hok : okD ops bm = true) {Q' : Exit → Act → World → Prop} (hQ : ∀ a w, Q a w → Q' .normal a w) :
    ∀ (f : Nat) (listed : Array Bool) (R : List Nat) (a : Act) (s : St), LInv ops bm listed R → R.length = f → DR P ops bm ka Q R [] [] [] a s → wpAnyIn (Fc l) 0 P .any ops Q' f listed a s.w := by
  intro f
  induction f with
  | zero =>
    intro listed R a s inv hl h
    have : R = [] := List.eq_nil_of_length_eq_zero hl
    subst this
    refine ⟨?_, hQ _ _ h⟩
    cases hr : Region.ready .any ops listed with
    | nil => rfl
    | cons x xs =>
      have hx : x ∈ Region.ready .any ops listed := by rw [hr]; exact List.mem_cons_self
      obtain ⟨h0, o, ho, _⟩ := mem_ready.1 hx
      have := (inv.mem x).2 ⟨(Array.getElem?_eq_some_iff.1 ho).1, (getD_true_of h0).1⟩
      cases this
  | succ f ih =>
    intro listed R a s inv hl h
    have least : ∀ (m : Nat), ∀ i ∈ R, i < m → ∃ k, k ∈ Region.ready .any ops listed := by
      intro m
      induction m with
      | zero => intro i _ h; omega
      | succ m ihm =>
        intro i hi hm
        obtain ⟨hil, hiu⟩ := (inv.mem i).1 hi
        obtain ⟨oi, hoi⟩ : ∃ oi, ops[i]? = some oi := ⟨_, Array.getElem?_eq_getElem hil⟩
        by_cases hall : ∀ e ∈ oi.after, Region.binds .any e = true → listed.getD e.on false = true
        · exact ⟨i, mem_ready.2 ⟨by rw [getD_of_lt (by rw [inv.size]; exact hil) true false]; exact hiu, oi, hoi, hall⟩⟩
        · obtain ⟨e, he⟩ := Classical.not_forall.1 hall
          obtain ⟨hem, he⟩ := Classical.not_imp.1 he
          obtain ⟨hb, he⟩ := Classical.not_imp.1 he
          have h1 := List.all_eq_true.1 hok i (List.mem_range.2 hil)
          rw [hoi] at h1
          simp only [Bool.and_eq_true] at h1
          have hlt := Array.all_eq_true'.1 h1.1.2 e hem
          rw [hb] at hlt
          have hlt : e.on < i := by simpa using hlt
          exact ihm e.on ((inv.mem e.on).2 ⟨by omega, by simpa using he⟩) (by omega)
    refine ⟨fun hnil => ?_, fun j hj => ?_⟩
    · cases R with
      | nil => simp at hl
      | cons i R =>
        obtain ⟨k, hk⟩ := least (i + 1) i List.mem_cons_self (by omega)
        rw [hnil] at hk; cases hk
    · obtain ⟨hjun, oj, hoj, hall⟩ := mem_ready.1 hj
      have hjl : j < ops.size := (Array.getElem?_eq_some_iff.1 hoj).1
      obtain ⟨R1, R2, rfl⟩ := split_at ((inv.mem j).2 ⟨hjl, (getD_true_of hjun).1⟩)
      have inv' := inv.take hj
      have hsel : ∀ (k : Nat) (ok : Oper), ops[k]? = some ok → ∀ cs b, ok.op ≠ .select cs b := by
        intro k ok hk cs b hop
        have h1 := List.all_eq_true.1 hok k (List.mem_range.2 (Array.getElem?_eq_some_iff.1 hk).1)
        rw [hk] at h1
        simp [hop] at h1
      have hun : ∀ i ∈ R1, i < ops.size ∧ listed.getD i false = false := fun i hi => (inv.mem i).1 (List.mem_append_left _ hi)
      have hbj : ∀ i ∈ R1, bef bm j i = false := by
        intro i hi
        cases hb : bef bm j i with
        | false => rfl
        | true =>
          have := bef_listed hok inv (j + 1) j i oj (hun i hi).1 hoj hall hb (by omega)
          rw [(hun i hi).2] at this; cases this
      have hne : ∀ i ∈ R1, i ≠ j := by
        intro i hi e
        subst e
        have hnd := inv.nodup
        rw [List.nodup_append] at hnd
        exact hnd.2.2 i hi i List.mem_cons_self rfl
      have hord : ∀ i ∈ R1, bef bm i j = false := fun i hi => (List.pairwise_append.1 inv.topo).2.2 i hi j List.mem_cons_self
      have hap : ∀ i ∈ R1, bef bm j i = false ∧ (bef bm i j = false → ∀ oi, ops[i]? = some oi → oi.apart ops oj = true ∧ ∀ cs b, oi.op ≠ .select cs b) := by
        intro i hi
        refine ⟨hbj i hi, fun hb oi hoi => ⟨?_, hsel i oi hoi⟩⟩
        have h1 := List.all_eq_true.1 hok j (List.mem_range.2 hjl)
        rw [hoj] at h1
        simp only [Bool.and_eq_true] at h1
        have h2 := List.all_eq_true.1 h1.2 i (List.mem_range.2 (hun i hi).1)
        simp only [hbj i hi, hb, hoi, Bool.not_false, Bool.true_or, Bool.true_and, Bool.false_or, Bool.or_false, Bool.or_eq_true, beq_iff_eq] at h2
        exact h2.resolve_left (hne i hi)
      have hlen : (R1 ++ R2).length = f := by simp at hl ⊢; omega
      unfold wpOpIn
      rw [hoj]
      simp only
      rcases DR.pull hoj (hsel j oj hoj) hap hord h with ⟨gw, g⟩ | ⟨gw, u, gu, g⟩ | ⟨gw, u, gu, gb, g⟩ | ⟨gw, Z, gu, gb, g⟩ | ⟨gw, T, z, gu, gz, gb, g⟩
      · rw [if_neg (by rw [gw]; simp)]
        exact ⟨fun _ _ => trivial, ih _ _ _ s inv' hlen g⟩
      · rw [if_pos gw]
        exact (gu s.w).use _ _ (ih _ _ _ s inv' hlen g)
      · rw [if_pos gw]
        exact (gu s (Tr.refl _ s)).use _ _ (ih _ _ _ s inv' hlen g)
      · rw [if_pos gw]
        exact OpW.use gu _ _ fun v w' ⟨s2, e, z⟩ => by subst e; exact ih _ _ _ s2 inv' hlen (g v s2 z).2
      · rw [if_pos gw]
        exact OpW.use (op_new s (ka, j) gu gz) _ _ fun v w' ⟨s2, e, z, t⟩ => by subst e; exact ih _ _ _ s2 inv' hlen (g v s2 z t)

/-- The order in which they are gone through: who waits for whom comes behind it. -/
def okR (ops : Array Oper) (bm : Array Nat) (R : List Nat) : Bool :=
  (List.range ops.size).all (fun i => R.contains i) && decide (R.length = ops.size) && R.all (fun i => decide (i < ops.size)) && pw R
where
  pw : List Nat → Bool
    | [] => true
    | i :: R => R.all (fun k => !bef bm i k && !(i == k)) && pw R

theorem pw_of {bm : Array Nat} : ∀ {R : List Nat}, okR.pw bm R = true → R.Pairwise (fun i k => bef bm i k = false) ∧ R.Nodup
  | [], _ => ⟨List.Pairwise.nil, List.nodup_nil⟩
  | i :: R, h => by
    simp only [okR.pw, Bool.and_eq_true] at h
    obtain ⟨h1, h2⟩ := pw_of h.2
    have h3 := List.all_eq_true.1 h.1
    refine ⟨List.Pairwise.cons (fun k hk => ?_) h1, List.nodup_cons.2 ⟨fun hi => ?_, h2⟩⟩
    · have := h3 k hk; simp at this; exact this.1
    · have := h3 i hi; simp at this

theorem G_draw {bm : Array Nat} {ka : Nat} {l : Option Nat} {id : Nat} {a : Act} {s : St} {Q' : Exit → Act → World → Prop} (hm : P.follows .mixedOrders = true) (R : List Nat) (hok : okD ops bm = true) (hR : okR ops bm R = true)
    (h : ∀ s', Tr No s s' → DR P ops bm ka (fun a w => Q' .normal a w) R [] [] [] a s') : G P l (.region id ops true) a s.w Q' := by
  let s0 : St := s.ext s.w.drew ⟨rfl, rfl, rfl, Nat.le_refl _, fun _ _ => rfl⟩
  have hd := h s0 (Tr.xt _)
  refine wpIn_region_any hm ?_
  simp only [okR, Bool.and_eq_true, decide_eq_true_eq] at hR
  obtain ⟨⟨⟨h1, h2⟩, h3⟩, h4⟩ := hR
  obtain ⟨p1, p2⟩ := pw_of h4
  refine DR.any (s := s0) hok (fun _ _ q => q) ops.size _ R a ⟨p1, by simp, fun i => ?_, p2, fun j oj hj hl => ?_⟩ h2 hd
  · constructor
    · intro hi
      have := List.all_eq_true.1 h3 i hi
      simp at this
      exact ⟨this, getD_replicate_false _ _⟩
    · rintro ⟨hi, _⟩
      have := List.all_eq_true.1 h1 i (List.mem_range.2 hi)
      simpa using this
  · rw [getD_replicate_false] at hl; cases hl

/-- As GL, for a region that draws. -/
def GD (P : Program) (ops : Array Oper) (bm : Array Nat) (ka : Nat) (R hs rs fs : List Nat) (a : Act) (s : St) (Q : Act → World → Prop) : Prop := DR P ops bm ka Q R hs rs fs a s

theorem G_drw (ka : Nat) {l : Option Nat} {id : Nat} {a : Act} {s : St} {Q' : Exit → Act → World → Prop} (hm : P.follows .mixedOrders = true) (R : List Nat) (hok : (okD ops (Region.before ops) && okR ops (Region.before ops) R) = true)
    (h : ∀ s', Tr No s s' → GD P ops (Region.before ops) ka R [] [] [] a s' fun a w => Q' .normal a w) : G P l (.region id ops true) a s.w Q' := by
  simp only [Bool.and_eq_true] at hok
  exact G_draw hm R hok.1 hok.2 h
end

section
variable {D : List Deferred} {n : Nat} {a : Act} {L : Vs} {P : Program} {ops : Array Oper} {Q : Act → World → Prop} {s : St} {bm : Array Nat} {ka i d : Nat} {R hs rs fs : List Nat} {o : Oper} {v : Value}

theorem gd_nil (h : Q a s.w) : GD P ops bm ka [] hs rs fs a s Q := h
/-- Whatever the world. -/
theorem dp (E : En D n a L) (ho : ops[i]? = some o) (hop : ∀ w, OpTo P o a.eval w v w) (hd : o.dst = some d) (hn : Nat.ble (d + 1) n = true) (hg : gdL ops L o.guard = some true)
    (k : ∀ a', En D n a' ((d, v) :: L) → GD P ops bm ka R hs rs fs a' s Q) : GD P ops bm ka (i :: R) hs rs fs a s Q :=
  ⟨o, ho, .inr (.inl ⟨E.wanted hg, v, hop, by rw [hd]; exact k _ (E.put hn v)⟩)⟩
/-- It reads, the same in whatever comes of s without a turn. -/
theorem dr (E : En D n a L) (ho : ops[i]? = some o) (hop : ∀ s', Tr No s s' → OpTo P o a.eval s'.w v s'.w) (hd : o.dst = some d) (hn : Nat.ble (d + 1) n = true) (hg : gdL ops L o.guard = some true) (hb : (hs ++ fs).all (bef bm i) = true)
    (k : ∀ a', En D n a' ((d, v) :: L) → GD P ops bm ka R hs (i :: rs) fs a' s Q) : GD P ops bm ka (i :: R) hs rs fs a s Q :=
  ⟨o, ho, .inr (.inr (.inl ⟨E.wanted hg, v, hop, fun x hx => List.all_eq_true.1 hb x hx, by rw [hd]; exact k _ (E.put hn v)⟩))⟩
/-- It writes, the same wherever new memory is laid: what reads stands ahead of it. -/
theorem dw (E : En D n a L) {Z : Value → St → Prop} {q : Tg → Prop} (ho : ops[i]? = some o) (hop : ∀ s', Tr No s s' → Hv P o a.eval s' fun v s1 => Z v s1 ∧ Tr q s' s1) (hq : ∀ n ∈ R, ¬ q (ka, n)) (hd : o.dst = some d) (hn : Nat.ble (d + 1) n = true) (hg : gdL ops L o.guard = some true) (hb : ((hs ++ fs).all (bef bm i) && rs.all (bef bm i)) = true)
    (k : ∀ a' v s', Z v s' → Tr q s s' → En D n a' ((d, v) :: L) → GD P ops bm ka R hs rs (i :: fs) a' s' Q) : GD P ops bm ka (i :: R) hs rs fs a s Q := by
  simp only [Bool.and_eq_true] at hb
  exact ⟨o, ho, .inr (.inr (.inr (.inr (.inr (.inr (.inr ⟨E.wanted hg, Z, q, hop, hq, fun x hx => List.all_eq_true.1 hb.1 x hx, fun x hx => List.all_eq_true.1 hb.2 x hx, fun v s' z t => by rw [hd]; exact k _ v s' z t (E.put hn v)⟩))))))⟩
/-- It reads what stays. -/
theorem dq (E : En D n a L) (ho : ops[i]? = some o) (hop : ∀ s', Le s s' → OpTo P o a.eval s'.w v s'.w) (hd : o.dst = some d) (hn : Nat.ble (d + 1) n = true) (hg : gdL ops L o.guard = some true) (hb : (hs ++ fs).all (bef bm i) = true)
    (k : ∀ a', En D n a' ((d, v) :: L) → GD P ops bm ka R hs rs fs a' s Q) : GD P ops bm ka (i :: R) hs rs fs a s Q :=
  ⟨o, ho, .inr (.inr (.inr (.inr (.inr (.inr (.inl ⟨E.wanted hg, v, hop, fun x hx => List.all_eq_true.1 hb x hx, by rw [hd]; exact k _ (E.put hn v)⟩))))))⟩
/-- It lays new memory. -/
theorem dh (E : En D n a L) {Rq : Value → St → Prop} (ho : ops[i]? = some o) (hop : Hv P o a.eval s Rq) (ht : ∀ v s', Rq v s' → Tr No s s') (hd : o.dst = some d) (hn : Nat.ble (d + 1) n = true) (hg : gdL ops L o.guard = some true) (hb : (hs ++ fs).all (bef bm i) = true)
    (k : ∀ a' v s', Rq v s' → En D n a' ((d, v) :: L) → GD P ops bm ka R (i :: hs) rs fs a' s' Q) : GD P ops bm ka (i :: R) hs rs fs a s Q :=
  ⟨o, ho, .inr (.inr (.inr (.inl ⟨E.wanted hg, Rq, hop, fun x hx => List.all_eq_true.1 hb x hx, fun v s' r => ⟨.inl (ht v s' r), by rw [hd]; exact k _ v s' r (E.put hn v)⟩⟩)))⟩
/-- .. wherever it stands. -/
theorem df (E : En D n a L) {Z : Value → St → Prop} (ho : ops[i]? = some o) (hop : ∀ s', Tr No s s' → Hv P o a.eval s' fun v s1 => Z v s1 ∧ Tr No s' s1) (hd : o.dst = some d) (hn : Nat.ble (d + 1) n = true) (hg : gdL ops L o.guard = some true) (hb : (hs ++ fs).all (bef bm i) = true)
    (k : ∀ a' v s', Z v s' → Tr No s s' → En D n a' ((d, v) :: L) → GD P ops bm ka R hs rs (i :: fs) a' s' Q) : GD P ops bm ka (i :: R) hs rs fs a s Q :=
  ⟨o, ho, .inr (.inr (.inr (.inr (.inl ⟨E.wanted hg, Z, hop, fun x hx => List.all_eq_true.1 hb x hx, fun v s' z t => by rw [hd]; exact k _ v s' z t (E.put hn v)⟩))))⟩
/-- It lays one new block. -/
theorem dn (E : En D n a L) {T : Nat → Value} {z : Obj} (ho : ops[i]? = some o) (hop : ∀ c, o.op ≠ .defer c) (hz : ∀ w : World, (execOp a.eval o).run P w = .ok (.value (T w.heap.size)) (w.alloc z)) (hd : o.dst = some d) (hn : Nat.ble (d + 1) n = true) (hg : gdL ops L o.guard = some true) (hb : hs.all (bef bm i) = true)
    (k : ∀ a' v s', Al (ka, i) T z v s' → Tr No s s' → En D n a' ((d, v) :: L) → GD P ops bm ka R hs rs (i :: fs) a' s' Q) : GD P ops bm ka (i :: R) hs rs fs a s Q :=
  ⟨o, ho, .inr (.inr (.inr (.inr (.inr (.inl ⟨E.wanted hg, T, z, hop, hz, fun x hx => List.all_eq_true.1 hb x hx, fun v s' r t => by rw [hd]; exact k _ v s' r t (E.put hn v)⟩)))))⟩
/-- A new variable. -/
theorem da (E : En D n a L) {T : TypeId} {z : Value} (ho : ops[i]? = some o) (hop : o.op = .alloc T) (hz : ∀ w, (zeroValue T).run P w = .ok z w) (hd : o.dst = some d) (hn : Nat.ble (d + 1) n = true) (hg : gdL ops L o.guard = some true) (hb : hs.all (bef bm i) = true)
    (k : ∀ a' v s', (∃ b, v = .pointer (some ⟨b, 0, none⟩) ∧ Own (ka, i) s' b z.cells T) → Tr No s s' → En D n a' ((d, v) :: L) → GD P ops bm ka R hs rs (i :: fs) a' s' Q) : GD P ops bm ka (i :: R) hs rs fs a s Q :=
  dn (T := fun b => .pointer (some ⟨b, 0, none⟩)) (z := .cells z.cells T) E ho (by rw [hop]; intro c h; cases h) (fun w => by
    obtain ⟨d', op, t, pos, af, g⟩ := o
    simp only at hop
    subst hop
    simp only [execOp]
    refine run_v' _ ?_
    simp [Instr.alloc, hz, newVar, newRow, newObj, Sem.run_bind, Sem.run, Result.andThen]) hd hn hg hb fun a' v s' ⟨b, h1, h2, h3⟩ t E => k a' v s' ⟨b, h1, h2, h3⟩ t E
/-- It writes: what reads stands ahead of it. -/
theorem dl (E : En D n a L) {Rq : Value → St → Prop} (ho : ops[i]? = some o) (hop : Hv P o a.eval s Rq) (hd : o.dst = some d) (hn : Nat.ble (d + 1) n = true) (hg : gdL ops L o.guard = some true) (hb : ((hs ++ fs).all (bef bm i) && rs.all (bef bm i)) = true)
    (k : ∀ a' v s', Rq v s' → En D n a' ((d, v) :: L) → GD P ops bm ka R (i :: hs) rs fs a' s' Q)
    (hl : ∀ v s', Rq v s' → Le s s' := by first | exact fun _ _ h => h.2.le | exact fun _ _ h => h.1.le | exact fun _ _ h => h.2.2.le | exact fun _ _ h => h.2.1.le | exact fun _ _ h => h.le) : GD P ops bm ka (i :: R) hs rs fs a s Q := by
  simp only [Bool.and_eq_true] at hb
  exact ⟨o, ho, .inr (.inr (.inr (.inl ⟨E.wanted hg, Rq, hop, fun x hx => List.all_eq_true.1 hb.1 x hx, fun v s' r => ⟨.inr ⟨hl v s' r, fun x hx => List.all_eq_true.1 hb.2 x hx⟩, by rw [hd]; exact k _ v s' r (E.put hn v)⟩⟩)))⟩
theorem dlN (E : En D n a L) {Rq : Value → St → Prop} (ho : ops[i]? = some o) (hop : Hv P o a.eval s Rq) (hd : o.dst = none) (hg : gdL ops L o.guard = some true) (hb : ((hs ++ fs).all (bef bm i) && rs.all (bef bm i)) = true)
    (k : ∀ v s', Rq v s' → GD P ops bm ka R (i :: hs) rs fs a s' Q)
    (hl : ∀ v s', Rq v s' → Le s s' := by first | exact fun _ _ h => h.2.le | exact fun _ _ h => h.1.le | exact fun _ _ h => h.2.2.le | exact fun _ _ h => h.2.1.le | exact fun _ _ h => h.le) : GD P ops bm ka (i :: R) hs rs fs a s Q := by
  simp only [Bool.and_eq_true] at hb
  exact ⟨o, ho, .inr (.inr (.inr (.inl ⟨E.wanted hg, Rq, hop, fun x hx => List.all_eq_true.1 hb.1 x hx, fun v s' r => ⟨.inr ⟨hl v s' r, fun x hx => List.all_eq_true.1 hb.2 x hx⟩, by rw [hd]; exact k v s' r⟩⟩)))⟩
/-- It is passed over. -/
theorem dk (E : En D n a L) (ho : ops[i]? = some o) (hd : o.dst = some d) (hn : Nat.ble (d + 1) n = true) (hg : gdL ops L o.guard = some false)
    (k : ∀ a', En D n a' ((d, undef) :: L) → GD P ops bm ka R hs rs fs a' s Q) : GD P ops bm ka (i :: R) hs rs fs a s Q :=
  ⟨o, ho, .inl ⟨E.wanted hg, by rw [hd]; exact k _ (E.put hn undef)⟩⟩
end
end Go.Proofs.YtdkfdmalbbfbmaaGreat
