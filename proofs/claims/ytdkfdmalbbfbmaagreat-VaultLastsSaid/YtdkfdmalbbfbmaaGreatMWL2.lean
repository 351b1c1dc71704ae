/- What each operation comes to. No project text. -/
import Derived.Test.YtdkfdmalbbfbmaaGreatMWL1
import Derived.ArgAppend
/- What each operation comes to. No project text. -/
namespace Go.Proofs.YtdkfdmalbbfbmaaGreat
open Go

section
variable {P : Program} {w : World} {s : St} {ρ : Operand → Value}
variable {d : Option Nat} {g : Option (Nat × Bool)} {t : Nat} {pos : String} {af : Array Edge} {x y z c : Operand} {v u r : Value} {k : IntKind} {T e sz B b : Nat} {κ : Tg} {α : Type} {K : Kd α} {xs ys : List α}

theorem run_v (m : Sem Value) (h : m.run P w = .ok v w) : ((do pure (Next.value (← m)) : Sem Next)).run P w = .ok (.value v) w := by simp [Sem.run_bind, h, Result.andThen]
theorem run_v' {w' : World} (m : Sem Value) (h : m.run P w = .ok v w') : ((do pure (Next.value (← m)) : Sem Next)).run P w = .ok (.value v) w' := by simp [Sem.run_bind, h, Result.andThen]
theorem run_u' {w' : World} (m : Sem Unit) (h : m.run P w = .ok () w') : ((do m; pure Next.skip : Sem Next)).run P w = .ok .skip w' := by simp [Sem.run_bind, h, Result.andThen]

theorem o_un {op : UnOp} {ty : TypeId} (hx : ρ x = u) (hv : ∀ w, (Op.unary op u).run P w = .ok v w) : OpTo P ⟨d, .unOp op ty x, t, pos, af, g⟩ ρ w v w :=
  (OpTo_value (by intro c h; cases h) (by simp only [execOp, hx]; exact run_v _ (hv w)))
theorem o_pickT (hc : ρ c = (.bool true)) (hx : ρ x = u) : OpTo P ⟨d, .pick c x y, t, pos, af, g⟩ ρ w u w :=
  (OpTo_value (by intro c h; cases h) (by simp only [execOp, hc, hx, asBool]; simp [Sem.run_bind, Result.andThen]))
theorem o_pickF (hc : ρ c = (.bool false)) (hy : ρ y = v) : OpTo P ⟨d, .pick c x y, t, pos, af, g⟩ ρ w v w :=
  (OpTo_value (by intro c h; cases h) (by simp only [execOp, hc, hy, asBool]; simp [Sem.run_bind, Result.andThen]))
theorem o_nc {p : Addr} (hx : ρ x = (.pointer (some p))) : OpTo P ⟨d, .nilCheck x, t, pos, af, g⟩ ρ w (.pointer (some p)) w :=
  (OpTo_value (by intro c h; cases h) (by simp only [execOp, hx]; rfl))
theorem o_cv {k' : IntKind} {src dst : TypeId} {i : Int} {ds : TypeDesc} (h1 : P.underlying src = some ds) (h2 : P.underlying dst = some (.int k)) (hx : ρ x = (.int k' i)) : OpTo P ⟨d, .convert src dst x, t, pos, af, g⟩ ρ w (.int k (k.wrap i)) w :=
  (OpTo_value (by intro c h; cases h) (by
    simp only [execOp, hx]
    refine run_v _ ?_
    simp only [convert, Sem.run_bind, run_underlying h1, run_underlying h2, Result.andThen]
    cases ds <;> simp [Conv.intToInt]))
theorem o_ext {vs : Array Value} {i : Nat} (hx : ρ x = (.tuple vs)) (hi : vs[i]? = some v) : OpTo P ⟨d, .extract x i, t, pos, af, g⟩ ρ w v w :=
  (OpTo_value (by intro c h; cases h) (by
    simp only [execOp, hx]
    refine run_v _ ?_
    simp [Instr.extract, hi]))
theorem o_fa {b o i : Nat} {fs : Array Field} {f : Field} {q : Nat} (hT : P.underlying T = some (.struct fs)) (hf : fs[i]? = some f) (hz : ∀ w, (sizeOf f.type).run P w = .ok (q + 1) w)
    (hx : ρ x = (.pointer (some ⟨b, o, none⟩))) : OpTo P ⟨d, .fieldAddr T x i, t, pos, af, g⟩ ρ w (.pointer (some ⟨b, o + f.offset, none⟩)) w :=
  (OpTo_value (by intro c h; cases h) (by
    simp only [execOp, hx]
    refine run_v _ ?_
    simp only [Instr.fieldAt, Sem.run_bind, run_underlying hT, Result.andThen, hf, Instr.sureAddr, fieldPlace, hz, Sem.run_pure]
    simp only [Nat.add_one_ne_zero, if_false, Sem.run_pure, Addr.add]
    split
    · rename_i h0; simp [h0]
    · rfl))
theorem o_len {ao : Option Addr} {m q : Nat} (hT : P.underlying T = some (.slice e)) (hx : ρ x = (.slice ao m q)) : OpTo P ⟨d, .call ⟨.builtin .len, #[x], #[T]⟩, t, pos, af, g⟩ ρ w (.int .i64 m) w :=
  (OpTo_value (by intro c h; cases h) (by
    simp only [execOp, resolve, Sem.run_bind, Sem.run_pure, Result.andThen, invoke, builtin]
    simp [Builtin.len_, hx, Sem.run_bind, run_underlying hT, Result.andThen, goInt]))
theorem o_min {i j : Int} {ts : Array TypeId} (hx : ρ x = (.int k i)) (hy : ρ y = (.int k j)) : OpTo P ⟨d, .call ⟨.builtin .min, #[x, y], ts⟩, t, pos, af, g⟩ ρ w (.int k (if j < i then j else i)) w :=
  (OpTo_value (by intro c h; cases h) (by
    simp only [execOp, resolve, Sem.run_bind, Sem.run_pure, Result.andThen, invoke, builtin]
    simp [Builtin.min_, Builtin.min2, hx, hy]))
/-- A shift by a constant. -/
theorem o_sh {op : BinOp} {ty ty' : TypeId} {k' : IntKind} {i j : Int} (hx : ρ x = (.int k i)) (hy : ρ y = (.int k' j)) (hj : decide (j < 0) = false) (hop : (match op with | .shl | .shr => true | _ => false) = true) : OpTo P ⟨d, .binOp op ty x y ty', t, pos, af, g⟩ ρ w (.int k (match op with | .shl => k.wrap (i * 2 ^ (min j.toNat k.bits)) | _ => i.fdiv (2 ^ (min j.toNat k.bits)))) w :=
  (OpTo_value (by intro c h; cases h) (by
    simp only [execOp, hx, hy]
    refine run_v _ ?_
    have hj' : ¬ j < 0 := by simpa using hj
    cases op <;> simp at hop <;> simp [eqGuard, binOp, Op.shift, hj', Sem.run_bind]))
/-- A division, or its rest, by what isn't 0. -/
theorem o_dv {op : BinOp} {ty ty' : TypeId} {i j : Int} (hx : ρ x = (.int k i)) (hy : ρ y = (.int k j)) (hj : (j == 0) = false) (hop : (match op with | .quo | .rem => true | _ => false) = true) : OpTo P ⟨d, .binOp op ty x y ty', t, pos, af, g⟩ ρ w (.int k (match op with | .quo => k.wrap (i.tdiv j) | _ => i.tmod j)) w :=
  (OpTo_value (by intro c h; cases h) (by
    simp only [execOp, hx, hy]
    refine run_v _ ?_
    have hj' : ¬ j = 0 := by simpa using hj
    cases op <;> simp at hop <;> simp [eqGuard, binOp, Op.intDiv, hj', Sem.run_bind]))
theorem o_ld {p : Addr} (hT : ∀ w, (isAgg T).run P w = .ok false w) (hx : ρ x = (.pointer (some p))) (hc : w.cell? p = some v) : OpTo P ⟨d, .load T x, t, pos, af, g⟩ ρ w v w :=
  (OpTo_value (by intro c h; cases h) (by
    simp only [execOp, hx]
    refine run_v _ ?_
    simp only [Instr.loadAt, Instr.sureAddr, loadVar, Sem.run_bind, Sem.run_pure, Result.andThen, hT, Bool.false_eq_true, if_false, load, Sem.run, hc]))
theorem o_lda {b o : Nat} (es : List Value) (hT : ∀ w, (isAgg T).run P w = .ok true w) (hz : ∀ w, (sizeOf T).run P w = .ok sz w) (hx : ρ x = (.pointer (some ⟨b, o, none⟩))) (hl : es.length = sz)
    (hc : ∀ j u, es[j]? = some u → w.cell? ⟨b, o + j, none⟩ = some u) : OpTo P ⟨d, .load T x, t, pos, af, g⟩ ρ w (.agg es.toArray) w :=
  (OpTo_value (by intro c h; cases h) (by
    simp only [execOp, hx]
    refine run_v _ ?_
    have hl' := run_loadCells_list (P := P) (w := w) ⟨b, o, none⟩ es (fun j u hu => by
      have := hc j u hu
      by_cases h0 : j = 0
      · subst h0; simpa [Addr.add] using this
      · simpa [Addr.add, h0] using this)
    rw [hl] at hl'
    simp only [Instr.loadAt, Instr.sureAddr, loadVar, Sem.run_bind, Sem.run_pure, Result.andThen, hT, hz, if_true, hl']))

theorem Sl.isS (h : Sl K s v xs) : ∃ a c, v = .slice a xs.length c := let ⟨a, c, h, _⟩ := h; ⟨a, c, h⟩
theorem Sl.at (hs : Sl K s v xs) {i : Nat} (hi : i < xs.length) : ∃ b o c, v = .slice (some ⟨b, o, none⟩) xs.length c ∧ At K s ⟨b, o + i * K.sz, none⟩ xs[i] := by
  obtain ⟨ao, c, rfl, hc, _, hh⟩ := hs
  rcases hh with rfl | ⟨b, o, cs, rfl, hm, hb, he, hx⟩
  · simp at hi
  · obtain ⟨es, h1, h2⟩ := he.get (List.getElem?_eq_getElem hi)
    exact ⟨b, o, c, rfl, rfl, hm, hb, es, h1, fun j u hu => by have := hx _ _ (h2 j u hu); rwa [← Nat.add_assoc] at this⟩

theorem o_mf {fn : Fn} {as : List Operand} {vs : List Value} (hv : as.map ρ = vs) : OpTo P ⟨d, .makeFunc fn #[] as.toArray, t, pos, af, g⟩ ρ w (.func fn #[] vs.toArray) w :=
  (OpTo_value (by intro c h; cases h) (by
    simp only [execOp, List.map_toArray, hv]
    simp [Instr.makeFunc, Sem.run_bind]))

theorem o_not {ty : TypeId} {b : Bool} (hx : ρ x = .bool b) : OpTo P ⟨d, .unOp .not ty x, t, pos, af, g⟩ ρ w (.bool !b) w := o_un hx (fun _ => rfl)
theorem o_pick {b : Bool} (hc : ρ c = .bool b) (hx : ρ x = u) (hy : ρ y = v) : OpTo P ⟨d, .pick c x y, t, pos, af, g⟩ ρ w (if b then u else v) w :=
  OpTo_value (by intro c h; cases h) (by simp only [execOp, hc, hx, hy, asBool]; simp [Sem.run_bind, Result.andThen])
theorem o_max {i j : Int} {ts : Array TypeId} (hx : ρ x = .int k i) (hy : ρ y = .int k j) : OpTo P ⟨d, .call ⟨.builtin .max, #[x, y], ts⟩, t, pos, af, g⟩ ρ w (.int k (if i < j then j else i)) w :=
  OpTo_value (by intro c h; cases h) (by
    simp only [execOp, resolve, Sem.run_bind, Sem.run_pure, Result.andThen, invoke, builtin]
    simp [Builtin.max_, Builtin.max2, hx, hy])
/-- The length of a slice of which it is known what it reads as. -/
theorem o_lenS (hT : P.underlying T = some (.slice e)) (hx : ρ x = v) (hs : ∃ a c, v = .slice a xs.length c) : OpTo P ⟨d, .call ⟨.builtin .len, #[x], #[T]⟩, t, pos, af, g⟩ ρ w (.int .i64 xs.length) w := by
  obtain ⟨a0, c0, rfl⟩ := hs
  exact o_len hT hx

/-- An operation that comes to some end that R takes. -/
def Hv (P : Program) (o : Oper) (ρ : Operand → Value) (s : St) (R : Value → St → Prop) : Prop := OpW P o ρ s.w fun v w' => ∃ s', w' = s'.w ∧ R v s'
theorem hvo {o : Oper} {R : Value → St → Prop} {v : Value} (s' : St) (h : OpTo P o ρ s.w v s'.w) (r : R v s') : Hv P o ρ s R := h.w ⟨s', rfl, r⟩

theorem run_ix {i : Int} {m cap b o : Nat} (hT : P.underlying T = some (.slice e)) (hz : ∀ w, (sizeOf e).run P w = .ok sz w) (h0 : 0 ≤ i) (h1 : i < m) :
    (Instr.indexAt T (.slice (some ⟨b, o, none⟩) m cap) (.int k i)).run P w = .ok (.pointer (some ⟨b, o + i.toNat * sz, none⟩)) w := by
  simp only [Instr.indexAt, asIntOf, Sem.run_bind, Sem.run_pure, Result.andThen, run_underlying hT]
  simp only [h0, h1, and_self, if_true, Sem.run_bind, hz, Result.andThen, Sem.run_pure, Addr.add]
  split
  · rename_i hq; simp [hq]
  · rfl
/-- The address of an element of a slice that stays. -/
theorem o_ix {i : Int} (hT : P.underlying T = some (.slice e)) (hz : ∀ w, (sizeOf e).run P w = .ok K.sz w) (hs : Sl K s v xs) (hx : ρ x = v) (hy : ρ y = .int k i) (h0 : 0 ≤ i) (h1 : i < xs.length) :
    ∃ b o, (∀ w, OpTo P ⟨d, .indexAddr T x y, t, pos, af, g⟩ ρ w (.pointer (some ⟨b, o, none⟩)) w) ∧ At K s ⟨b, o, none⟩ (xs[i.toNat]'(by omega)) := by
  obtain ⟨b, o, c, rfl, hat⟩ := hs.at (i := i.toNat) (by omega)
  refine ⟨b, _, fun w => OpTo_value (by intro c h; cases h) ?_, hat⟩
  simp only [execOp, hx, hy]
  exact run_v _ (run_ix hT hz h0 h1)

/-- A call of a function that is named. -/
theorem o_call {f : FuncId} {as : List Operand} {ts : Array TypeId} {vs : List Value} {K : Value → World → Prop} (hf : ∀ args w, (callFunc f args).run P w = .ok (.enter f args) w) (hv : as.map ρ = vs)
    (hF : ρ (.func f) = .func (.func f) #[] #[]) (hc : Calls P f vs.toArray w fun e w' => ∃ v, e = .returned v ∧ K v w') : OpW P ⟨d, .call ⟨.value (.func f), as.toArray, ts⟩, t, pos, af, g⟩ ρ w K :=
  OpW_enter (by intro c h; cases h) (by
    simp only [execOp, resolve, Sem.run_bind, Sem.run_pure, Result.andThen, hF, Deferred.ofValue, invoke, List.map_toArray, hv, Array.empty_append, Array.append_empty, hf]) hc
/-- A call of a function value. -/
theorem o_callv {f : FuncId} {q : Operand} {as : List Operand} {ts : Array TypeId} {vs cp : List Value} {K : Value → World → Prop} (hf : ∀ args w, (callFunc f args).run P w = .ok (.enter f args) w) (hg : ρ q = .func (.func f) #[] cp.toArray) (hv : as.map ρ = vs)
    (hc : Calls P f (vs ++ cp).toArray w fun e w' => ∃ v, e = .returned v ∧ K v w') : OpW P ⟨d, .call ⟨.value q, as.toArray, ts⟩, t, pos, af, g⟩ ρ w K :=
  OpW_enter (w1 := w) (by intro c h; cases h) (by
    simp only [execOp, resolve, Sem.run_bind, Sem.run_pure, Result.andThen, hg, Deferred.ofValue, invoke, List.map_toArray, hv, Array.empty_append]
    simp [hf]) hc

/-- A new block round a value, that stays. -/
theorem o_box (hx : ρ x = v) : Hv P ⟨d, .box T x, t, pos, af, g⟩ ρ s fun u s' => ∃ b, u = .pointer (some ⟨b, 0, none⟩) ∧ Stay s' b v.cells ∧ Tr No s s' :=
  hvo (s.lay (.cells v.cells T)) (OpTo_value (by intro c h; cases h) (by
    simp only [execOp, hx]
    refine run_v' _ (v := .pointer (some ⟨s.w.heap.size, 0, none⟩)) ?_
    simp [Instr.box, newVar, newRow, newObj, Sem.run_bind, Sem.run, Result.andThen, St.lay, St.ext])) ⟨_, rfl, Stay.lay s v.cells T, Tr.lay s _⟩
/-- .. one's own. -/
theorem o_boxo (κ : Tg) (hx : ρ x = v) : Hv P ⟨d, .box T x, t, pos, af, g⟩ ρ s fun u s' => ∃ b, u = .pointer (some ⟨b, 0, none⟩) ∧ Own κ s' b v.cells T ∧ Tr No s s' :=
  hvo (s.new (.cells v.cells T) κ) (OpTo_value (by intro c h; cases h) (by
    simp only [execOp, hx]
    refine run_v' _ (v := .pointer (some ⟨s.w.heap.size, 0, none⟩)) ?_
    simp [Instr.box, newVar, newRow, newObj, Sem.run_bind, Sem.run, Result.andThen, St.new])) ⟨_, rfl, Own.new s v.cells T κ, Tr.new s _ κ⟩
/-- A new block of zeros, one's own. -/
theorem o_al (κ : Tg) (hz : ∀ w, (zeroValue T).run P w = .ok v w) : Hv P ⟨d, .alloc T, t, pos, af, g⟩ ρ s fun u s' => ∃ b, u = .pointer (some ⟨b, 0, none⟩) ∧ Own κ s' b v.cells T ∧ Tr No s s' :=
  hvo (s.new (.cells v.cells T) κ) (OpTo_value (by intro c h; cases h) (by
    simp only [execOp]
    refine run_v' _ (v := .pointer (some ⟨s.w.heap.size, 0, none⟩)) ?_
    simp [Instr.alloc, hz, newVar, newRow, newObj, Sem.run_bind, Sem.run, Result.andThen, St.new])) ⟨_, rfl, Own.new s v.cells T κ, Tr.new s _ κ⟩
/-- A store into an own block, from the cell o on. -/
theorem o_st {o : Nat} {cs cs' : Array Value} {T' : TypeId} (hz : ∀ w, (sizeOf T).run P w = .ok v.cells.size w) (ho : Own κ s b cs T') (hx : ρ x = .pointer (some ⟨b, o, none⟩)) (hy : ρ y = v) (hfit : o + v.cells.size ≤ cs.size)
    (h1 : ∀ u ∈ v.cells.toList, u.oneCell' = true) (hcs : (cs.toList.take o ++ v.cells.toList ++ cs.toList.drop (o + v.cells.size)).toArray = cs') :
    Hv P ⟨none, .store T x y, t, pos, af, g⟩ ρ s fun u s' => Own κ s' b cs' T' ∧ Tr (· = κ) s s' :=
  hvo (s.row b cs') (OpTo_skip (by intro c h; cases h) (by
    simp only [execOp, hx, hy]
    refine run_u' _ ?_
    have := run_storeCells_at (P := P) b o T' v.cells.toList 0 cs s.w ho.2 (by simpa using hfit) h1
    simp only [Nat.add_zero, Array.length_toList, hcs] at this
    simp [Instr.storeAt, Instr.sureAddr, storeVar, Sem.run_bind, hz, Result.andThen, this, St.row])) ⟨ho.row cs', Tr.row ho.1 cs'⟩

/-- A slice literal. -/
theorem run_bs {parts : Array (Nat × Value)} {m : Nat} {z : Value} {cells : Array Value} (hT : P.underlying T = some (.slice e)) (hs : ∀ w, (sizeOf e).run P w = .ok sz w) (hz : ∀ w, (zeroValue e).run P w = .ok z w) (hm : (m * sz == 0) = false) (hm2 : Nat.ble (m * sz) 16777216 = true)
    (hfill : Instr.fill (fun i => some (i * sz, sz)) ((Array.range (m * sz)).map (z.cells[· % z.cells.size]!)) parts.toList = some cells) :
    (Instr.buildSlice T m parts).run P w = .ok (.slice (some ⟨w.heap.size, 0, none⟩) m m) (w.alloc (.cells cells e)) := by
  have hm' : ¬ m * sz = 0 := by simpa using hm
  have hm3 : ¬ m * sz > 2 ^ 24 := by have := Nat.le_of_ble_eq_true hm2; omega
  simp only [Instr.buildSlice, Sem.run_bind, run_underlying hT, Result.andThen, hs, if_neg hm', if_neg hm3, hz, Sem.run_pure, hfill]
  simp [newRow, newObj, Sem.run_bind, Sem.run, Result.andThen]
/-- .. that stays. -/
theorem o_bs {m : Nat} {z : Value} {cells : Array Value} {ps : Array (Nat × Operand)} {qs : Array (Nat × Value)} (hT : P.underlying T = some (.slice e)) (hs : ∀ w, (sizeOf e).run P w = .ok sz w) (hz : ∀ w, (zeroValue e).run P w = .ok z w)
    (hq : (ps.map fun (i, x) => (i, ρ x)) = qs) (hm : (m * sz == 0) = false) (hm2 : Nat.ble (m * sz) 16777216 = true) (hfill : Instr.fill (fun i => some (i * sz, sz)) ((Array.range (m * sz)).map (z.cells[· % z.cells.size]!)) qs.toList = some cells) :
    Hv P ⟨d, .buildSlice T m ps, t, pos, af, g⟩ ρ s fun u s' => ∃ b, u = .slice (some ⟨b, 0, none⟩) m m ∧ Stay s' b cells ∧ Tr No s s' :=
  hvo (s.lay (.cells cells e)) (OpTo_value (by intro c h; cases h) (by
    simp only [execOp, hq]
    exact run_v' _ (run_bs hT hs hz hm hm2 hfill))) ⟨_, rfl, Stay.lay s cells e, Tr.lay s _⟩
/-- .. one's own. -/
theorem o_bso (κ : Tg) {m : Nat} {z : Value} {cells : Array Value} {ps : Array (Nat × Operand)} {qs : Array (Nat × Value)} (hT : P.underlying T = some (.slice e)) (hs : ∀ w, (sizeOf e).run P w = .ok sz w) (hz : ∀ w, (zeroValue e).run P w = .ok z w)
    (hq : (ps.map fun (i, x) => (i, ρ x)) = qs) (hm : (m * sz == 0) = false) (hm2 : Nat.ble (m * sz) 16777216 = true) (hfill : Instr.fill (fun i => some (i * sz, sz)) ((Array.range (m * sz)).map (z.cells[· % z.cells.size]!)) qs.toList = some cells) :
    Hv P ⟨d, .buildSlice T m ps, t, pos, af, g⟩ ρ s fun u s' => ∃ b, u = .slice (some ⟨b, 0, none⟩) m m ∧ Own κ s' b cells e ∧ Tr No s s' :=
  hvo (s.new (.cells cells e) κ) (OpTo_value (by intro c h; cases h) (by
    simp only [execOp, hq]
    exact run_v' _ (run_bs hT hs hz hm hm2 hfill))) ⟨_, rfl, Own.new s cells e κ, Tr.new s _ κ⟩

theorem Own.bd {cells : Array Value} {m : Nat} (h : Own κ s b cells e) (hB : B ≤ b) (he : Encs K s xs cells.toList) (hm : xs.length = m) (hm2 : Nat.ble m 4294967296 = true) : Bd κ K e B s (.slice (some ⟨b, 0, none⟩) m m) xs := by
  subst hm
  have hl := he.len
  have hm3 := Nat.le_of_ble_eq_true hm2
  refine ⟨cells.toList, ⟨by simpa using hl, .inr ⟨b, _, cells, rfl, hB, h.2, Nat.le_refl _, by unfold maxLen; omega, by simpa using hl, ?_⟩⟩, he, fun k hk => by cases hk; exact h.1⟩
  rw [List.take_of_length_le (by rw [hl]; exact Nat.le_refl _)]
theorem Stay.sl {cells : Array Value} {m : Nat} (h : Stay s b cells) (he : Encs K s xs cells.toList) (hm : xs.length = m) : Sl K s (.slice (some ⟨b, 0, none⟩) m m) xs := by
  subst hm
  exact ⟨_, _, rfl, Nat.le_refl _, nofun, .inr ⟨b, 0, cells.toList, rfl, h.1, h.2.1, he, fun j u hu => by rw [Nat.zero_add, h.cell]; simpa using hu⟩⟩

theorem ownsRow_base {w : World} {B B' : Nat} {vs : List Value} {m : Nat} (h : w.ownsRow B e sz v m vs) (hb : B' ≤ B) : w.ownsRow B' e sz v m vs :=
  ⟨h.1, h.2.imp id fun ⟨g, cap, cur, h1, h2, r⟩ => ⟨g, cap, cur, h1, Nat.le_trans hb h2, r⟩⟩

theorem app_law {i : TypeInfo} {zv : Value} {by_ m q c : Nat} {cs ds : List Value} {ad : Addr} (hT : P.underlying T = some (.slice e)) (hi : P.info? e = some i) (hz : i.zero = some zv) (hsz : i.size = sz) (hby : i.bytes = by_) (hzs : zv.cells.size = sz) (hpos : 0 < sz)
    (hown : w.ownsRow B e sz v m cs) (hl : ds.length = q * sz) (hd : ∀ j u, ds[j]? = some u → w.cell? (ad.add j) = some u) (h1 : ∀ u ∈ ds, u.oneCell' = true) (h63 : m + q ≤ maxLen) (hbytes : (m + q) * by_ ≤ 140737488355328) (hB : B ≤ w.heap.size) :
    ∃ v' w', (Builtin.append_ #[T, T] t #[v, .slice (some ad) q c]).run P w = .ok v' w' ∧ w'.ownsRow B e sz v' (m + q) (cs ++ ds) ∧ w.grownBy w' v.ownBlock ∧ ∀ k, v'.ownBlock = some k → v.ownBlock = some k ∨ w.heap.size ≤ k := by
  have hown0 := hown
  obtain ⟨hlen, hh⟩ := hown
  rcases hh with ⟨rfl, rfl⟩ | ⟨g, cap, cur, rfl, hBg, hg, hnc, hcm, hcz, hx⟩
  · have hcs : cs = [] := by simpa using hlen
    subst hcs
    obtain ⟨v', w', hr, ho', hgr, _⟩ := run_append_own (P := P) w w.heap.size T t e i zv sz by_ hT hi hz hsz hby hzs hpos _ 0 [] (World.ownsRow_nil _ _ _ _) ad q c ds hl hd h1 h63 hbytes (Nat.le_refl _)
    exact ⟨v', w', hr, ownsRow_base ho' hB, hgr, fun k hk => .inr (ho'.lt k hk).1⟩
  · by_cases hroom : m + q ≤ cap
    · obtain ⟨v', w', hr, ho', hgr, _⟩ := run_append_own (P := P) w B T t e i zv sz by_ hT hi hz hsz hby hzs hpos _ m cs hown0 ad q c ds hl hd h1 h63 hbytes hB
      have hfit : m * i.size + ds.length ≤ cur.size := by
        rw [hl, hcz, hsz, ← Nat.add_mul]
        exact Nat.mul_le_mul_right _ hroom
      have hr2 := run_append_room (P := P) w T t e i hT hi g m cap cur hg ad q c ds (by rw [hsz]; exact hl) hd h1 hroom hfit
      rw [hr] at hr2
      injection hr2 with hv _
      subst hv
      exact ⟨_, w', hr, ho', hgr, fun k hk => .inl hk⟩
    · obtain ⟨v', w', hr, ho', hgr⟩ := run_append_arg_grows (P := P) (w := w) T t e i zv sz by_ hT hi hz hsz hby hzs hpos ⟨g, 0, none⟩ m cap cs hlen (fun j u hu => by
          rw [← hx, List.getElem?_take] at hu
          split at hu
          · rw [add_none, Nat.zero_add]; simpa [World.cell?, hg] using hu
          · cases hu) ad q c ds hl hd (by omega) h63 hbytes
      exact ⟨v', w', hr, ownsRow_base ho' hB, ⟨hgr.os, hgr.tape, hgr.output, hgr.size, fun k hk _ => hgr.block k hk (by simp)⟩, fun k hk => .inr (ho'.lt k hk).1⟩

/-- A slice that one may append to: one's own, or one that is full. -/
def Ap (κ : Tg) (K : Kd α) (T B : Nat) (s : St) (v : Value) (xs : List α) : Prop := Bd κ K T B s v xs ∨ (Sl K s v xs ∧ ∃ b o, v = .slice (some ⟨b, o, none⟩) xs.length xs.length)
theorem Ap.tr {p : Tg → Prop} {s' : St} (h : Ap κ K T B s v xs) (ht : Tr p s s') (hp : ¬ p κ) : Ap κ K T B s' v xs := h.imp (fun h => h.tr ht hp) fun ⟨h, r⟩ => ⟨h.tr ht, r⟩
theorem Ap.trN {s' : St} (h : Ap κ K T B s v xs) (ht : Tr No s s') : Ap κ K T B s' v xs := h.tr ht (fun h => h)
theorem Ap.isS (h : Ap κ K T B s v xs) : ∃ a c, v = .slice a xs.length c := h.elim (fun h => h.isS) (fun h => h.1.isS)
theorem Ap.rd (h : Ap κ K T B s v xs) : Rd K s v xs := h.elim (fun h => h.rd) (fun h => h.1.rd)

/-- An append to a slice of one's own. -/
theorem o_app {i : TypeInfo} {zv : Value} {by_ : Nat} (hT : P.underlying T = some (.slice e)) (hi : P.info? e = some i) (hz : i.zero = some zv) (hsz : i.size = K.sz) (hby : i.bytes = by_) (hzs : zv.cells.size = K.sz) (hpos : Nat.ble 1 K.sz = true) (hb32 : Nat.ble by_ 32768 = true)
    (hb : Bd κ K e B s v xs) (hu : Rd K s u ys) (hx : ρ x = v) (hy : ρ y = u) (hlen : xs.length + ys.length < 4294967296) (hB : B ≤ s.w.heap.size) :
    Hv P ⟨d, .call ⟨.builtin .append, #[x, y], #[T, T]⟩, t, pos, af, g⟩ ρ s fun v' s' => Bd κ K e B s' v' (xs ++ ys) ∧ Tr (· = κ) s s' := by
  obtain ⟨cs, hown, he, hM⟩ := hb
  obtain ⟨ad, c, ds, rfl, _, hd, hnone, hsome⟩ := hu
  have h32 := Nat.le_of_ble_eq_true hb32
  have hp := Nat.le_of_ble_eq_true hpos
  have hmul : (xs.length + ys.length) * by_ ≤ 140737488355328 := Nat.le_trans (Nat.mul_le_mul (show _ ≤ 4294967296 by omega) h32) (by decide)
  have run1 : ∀ w' v', (Builtin.append_ #[T, T] t #[v, .slice ad ys.length c]).run P s.w = .ok v' w' →
      (execOp ρ ⟨d, .call ⟨.builtin .append, #[x, y], #[T, T]⟩, t, pos, af, g⟩).run P s.w = .ok (.value v') w' := by
    intro w' v' hr
    simp only [execOp, resolve, Sem.run_bind, Sem.run_pure, Result.andThen, invoke, builtin]
    simp [hx, hy, hr, Sem.run_bind, Result.andThen]
  cases ad with
  | none =>
    obtain ⟨rfl, rfl⟩ := hnone rfl
    have hr := run_append_owned_none (P := P) (w := s.w) B T t e i K.sz hT hi v _ cs hown
    refine hvo s (OpTo_value (by intro c h; cases h) (run1 _ _ hr)) ⟨?_, Tr.refl _ _⟩
    rw [List.append_nil]; exact ⟨cs, hown, he, hM⟩
  | some ad =>
    obtain ⟨hspot, hcell⟩ := hsome ad rfl
    obtain ⟨v', w', hr, ho', hg, hv2⟩ := app_law (P := P) (w := s.w) (t := t) (c := c) hT hi hz hsz hby hzs (by omega) hown hd.len hcell hd.one (by unfold maxLen; omega) hmul hB
    have hlt : ∀ k, v'.ownBlock = some k → k < w'.heap.size := fun k hk => (ho'.lt k hk).2
    have htr := Tr.grown (s := s) (k := κ) hg hlt hM hv2
    refine hvo (s.grown w' hg.size v' κ hlt) (OpTo_value (by intro c h; cases h) (run1 _ _ hr)) ⟨?_, htr⟩
    exact ⟨cs ++ ds, by rw [List.length_append]; exact ho', (he.up htr.le).append (hd.up htr.le), fun k hk => by simp only [St.grown, hk, if_true]⟩

/-- An append of something to what one may append to. -/
theorem o_apA {i : TypeInfo} {zv : Value} {by_ : Nat} (hT : P.underlying T = some (.slice e)) (hi : P.info? e = some i) (hz : i.zero = some zv) (hsz : i.size = K.sz) (hby : i.bytes = by_) (hzs : zv.cells.size = K.sz) (hpos : Nat.ble 1 K.sz = true) (hb32 : Nat.ble by_ 32768 = true)
    (hb : Ap κ K e B s v xs) (hu : Rd K s u ys) (hx : ρ x = v) (hy : ρ y = u) (hlen : xs.length + ys.length < 4294967296) (hne : ys.isEmpty = false) (hB : B ≤ s.w.heap.size) :
    Hv P ⟨d, .call ⟨.builtin .append, #[x, y], #[T, T]⟩, t, pos, af, g⟩ ρ s fun v' s' => Bd κ K e B s' v' (xs ++ ys) ∧ Tr (· = κ) s s' := by
  rcases hb with hb | ⟨hsl, b, o, hv⟩
  · exact o_app hT hi hz hsz hby hzs hpos hb32 hb hu hx hy hlen hB
  obtain ⟨a0, c0, hv0, hc0, _, hh⟩ := hsl
  rw [hv] at hv0
  injection hv0 with e1 e2 e3
  subst e1; subst e3
  obtain ⟨ad, c, ds, rfl, _, hd, hnone, hsome⟩ := hu
  have h32 := Nat.le_of_ble_eq_true hb32
  have hp := Nat.le_of_ble_eq_true hpos
  have hq : 0 < ys.length := by cases ys with | nil => simp at hne | cons => simp
  have hmul : (xs.length + ys.length) * by_ ≤ 140737488355328 := Nat.le_trans (Nat.mul_le_mul (show _ ≤ 4294967296 by omega) h32) (by decide)
  cases ad with
  | none => obtain ⟨rfl, rfl⟩ := hnone rfl; simp at hq
  | some ad =>
    obtain ⟨hspot, hcell⟩ := hsome ad rfl
    have hcs : ∃ cs, Encs K s xs cs ∧ ∀ j u, cs[j]? = some u → s.w.cell? ((⟨b, o, none⟩ : Addr).add j) = some u := by
      rcases hh with rfl | ⟨b', o', cs, ha, hm, hb, he, hx⟩
      · exact ⟨[], rfl, fun j u hu => by simp at hu⟩
      · injection ha with ha
        injection ha with h1 h2
        subst h1; subst h2
        exact ⟨cs, he, fun j u hu => by rw [add_none]; exact hx j u hu⟩
    obtain ⟨cs, he, hcs⟩ := hcs
    obtain ⟨v', w', hr, ho', hgr⟩ := run_append_arg_grows (P := P) (w := s.w) T t e i zv K.sz by_ hT hi hz hsz hby hzs hp ⟨b, o, none⟩ xs.length xs.length cs (by rw [he.len]) hcs ad ys.length c ds hd.len hcell (by omega) (by unfold maxLen; omega) hmul
    have hg : s.w.grownBy w' none := hgr
    have hlt : ∀ k, v'.ownBlock = some k → k < w'.heap.size := fun k hk => (ho'.lt k hk).2
    have htr := Tr.grown (s := s) (k := κ) (v' := v') hg hlt (fun b h => by cases h) (fun k hk => .inr (ho'.lt k hk).1)
    refine hvo (v := v') (s.grown w' hg.size v' κ hlt) (OpTo_value (by intro c h; cases h) ?_) ⟨?_, htr⟩
    · simp only [execOp, resolve, Sem.run_bind, Sem.run_pure, Result.andThen, invoke, builtin]
      simp [hx, hy, hv, hr, Sem.run_bind, Result.andThen, St.grown]
    · exact ⟨cs ++ ds, by rw [List.length_append]; exact ownsRow_base ho' hB, (he.up htr.le).append (hd.up htr.le), fun k hk => by simp only [St.grown, hk, if_true]⟩
end

section
variable {D : List Deferred} {n : Nat} {a : Act} {L : Vs} {P : Program} {l : Option Nat} {ops : Array Oper} {os : List Oper} {Q : Act → World → Prop} {s : St} {d : Nat}

/-- The values of operands. -/
def evs (L : Vs) : List Operand → Option (List Value)
  | [] => some []
  | x :: xs => match evL L x with
    | none => none
    | some v => match evs L xs with
      | none => none
      | some vs => some (v :: vs)

theorem En.evs (E : En D n a L) : ∀ {xs : List Operand} {vs : List Value}, evs L xs = some vs → xs.map a.eval = vs
  | [], vs, h => by simp [YtdkfdmalbbfbmaaGreat.evs] at h; simp [h]
  | x :: xs, vs, h => by
    simp only [YtdkfdmalbbfbmaaGreat.evs] at h
    cases hx : evL L x with
    | none => simp [hx] at h
    | some v =>
      cases hs : YtdkfdmalbbfbmaaGreat.evs L xs with
      | none => simp [hx, hs] at h
      | some vs' =>
        simp only [hx, hs, Option.some.injEq] at h
        subst h
        simp [E.ev hx, E.evs hs]

/-- One operation that turns memory. -/
theorem sh (E : En D n a L) {o : Oper} {R : Value → St → Prop} (ho : Hv P o a.eval s R) (hd : o.dst = some d) (hn : Nat.ble (d + 1) n = true) (hg : gdL ops L o.guard = some true)
    (k : ∀ a v s', R v s' → En D n a ((d, v) :: L) → GL P l ops os a s'.w Q) : GL P l ops (o :: os) a s.w Q :=
  GL_consW (E.wanted hg) ho fun v w1 ⟨s', h1, r⟩ => by subst h1; rw [hd]; exact k _ _ _ r (E.put hn v)
theorem shN (E : En D n a L) {o : Oper} {R : Value → St → Prop} (ho : Hv P o a.eval s R) (hd : o.dst = none) (hg : gdL ops L o.guard = some true)
    (k : ∀ v s', R v s' → GL P l ops os a s'.w Q) : GL P l ops (o :: os) a s.w Q :=
  GL_consW (E.wanted hg) ho fun v w1 ⟨s', h1, r⟩ => by subst h1; rw [hd]; exact k _ _ r
end
end Go.Proofs.YtdkfdmalbbfbmaaGreat
