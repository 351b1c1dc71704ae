/- A range over a function: the rule for the loop, and for a function that holds one. No project text. -/
import Derived.Test.YtdkfdmalbbfbmaaB6
import Derived.RangeFuncRecord
namespace Go.Proofs.Ytdkfdmalbbfbmaa
open Go

section
variable {P : Program} {s s' s'' : St} {b : Nat} {o o' : Obj} {k : Tg} {p : Tg → Prop}
/-- The block b is k's own, with the object o. -/
def Hd (k : Tg) (s : St) (b : Nat) (o : Obj) : Prop := s.tag b = some k ∧ s.w.heap[b]? = some o
theorem Hd.tr (h : Hd k s b o) (t : Tr p s s') (hp : ¬ p k) : Hd k s' b o := let ⟨h1, h2⟩ := t.own b k h.1 hp; ⟨h1, h2.trans h.2⟩
theorem Hd.trN (h : Hd k s b o) (t : Tr No s s') : Hd k s' b o := h.tr t fun h => h
theorem Hd.lt (h : Hd k s b o) : b < s.w.heap.size := (Array.getElem?_eq_some_iff.1 h.2).1
def St.obj (s : St) (b : Nat) (o : Obj) : St := ⟨s.tag, s.w.putObj b o, fun i hi => by rw [World.putObj_size]; exact s.ok i hi⟩
theorem Tr.obj (h : s.tag b = some k) (o : Obj) : Tr (· = k) s (s.obj b o) :=
  ⟨rfl, rfl, rfl, by simp [St.obj], fun i hi hn => ⟨hn, World.putObj_heap_other (fun e => hn (by subst e; unfold St.M; rw [h]; simp))⟩,
    fun i t hi hn => ⟨hi, World.putObj_heap_other (fun e => hn (by subst e; rw [h] at hi; exact (Option.some.inj hi).symm))⟩⟩
theorem Hd.obj (h : Hd k s b o) (o' : Obj) : Hd k (s.obj b o') b o' := ⟨h.1, World.putObj_heap_same h.lt⟩
theorem Hd.new (s : St) (o : Obj) (k : Tg) : Hd k (s.new o k) s.w.heap.size o := ⟨by simp [St.new], heap_new _ _⟩

/-- A call of the function value yv. -/
def CallV (P : Program) (yv : Value) (args : List Value) (s : St) (R : Value → St → Prop) : Prop :=
  ∀ (d : Option Nat) (q : Operand) (as : List Operand) (ts : Array TypeId) (t : Nat) (pos : String) (af : Array Edge) (g : Option (Nat × Bool)) (ρ : Operand → Value), ρ q = yv → as.map ρ = args →
    Hv P ⟨d, .call ⟨.value q, as.toArray, ts⟩, t, pos, af, g⟩ ρ s R

theorem G.n {l : Option Nat} {c : Code} {a : Act} {w : World} {Q : Exit → Act → World → Prop} (h : G P l c a w Q) (n : Nat) : c.wpIn (Fc l) n P Q a w :=
  fun b k cs hro hb hr => h b k cs hro hb (Fc_room _ _)

theorem G_range {σ α : Type} {pg : Operand} {ps : Array Tmp} {assign body : Code} {a : Act} {Q : Exit → Act → World → Prop} {pf : FuncId} {cp : List Value}
    (hg : a.eval pg = .func (.func pf) #[] cp.toArray) (hpf : ∀ args w, (callFunc pf args).run P w = .ok (.enter pf args) w)
    (κ kJ : Nat) (hκ : κ ≠ kJ) (J : σ → St → Prop) (c : σ → α → Option σ) (enc : α → List Value) (pre : α → St → Prop) (hpre : ∀ x s s' p, pre x s → Tr p s s' → pre x s') (q : Tg → Prop) (hq : ∀ i, ¬ q (κ, i))
    (hJ' : ∀ k', k' ≠ kJ → ∀ st s s', J st s → Tr (Rt k') s s' → J st s') (hex : ∃ b i, s.tag b = some (kJ, i)) (st0 st1 : σ) (h0 : J st0 s) (hps : ∀ x, (enc x).length = ps.size)
    (hprod : ∀ (yv : Value) (J' : σ → St → Prop) (q' : Tg → Prop) (s1 : St), Tr No s s1 → (∀ k', (∀ b t, s1.tag b = some t → t.1 < k') → ∀ st s s', J' st s → Tr (Rt k') s s' → J' st s') →
      (∀ st x st' s, pre x s → J' st s → c st x = some st' → CallV P yv (enc x) s fun v s' => v = .bool true ∧ J' st' s' ∧ Tr q' s s') → J' st0 s1 →
      Ok P pf (yv :: cp).toArray s1 fun _ s' => J' st1 s' ∧ Tr q' s1 s')
    (hbody : ∀ l st x st' s2, Tr (Or q (Rt κ)) s s2 → pre x s2 → J st s2 → c st x = some st' →
      G P (some l) assign { tmps := (ps.zip (enc x).toArray).foldl (fun t (p, v) => t.setIfInBounds p v) a.tmps, defers := [] } s2.w (cutG (fun a1 w1 => ∃ s3, w1 = s3.w ∧ Tr q s2 s3 ∧
        ∀ s4, Tr (Rt κ) s3 s4 → G P (some l) body a1 s4.w (fun e _ w5 => e = .normal ∧ ∃ s5, w5 = s5.w ∧ J st' s5 ∧ Tr q s4 s5)) (fun _ _ _ => False)))
    (hdone : ∀ D' s', J st1 s' → Tr (Or q (Rt κ)) s s' → Hd (κ, 0) s' D' (.deferred (some [])) → Q .normal { a with defers := { target := .collected D', args := #[] } :: a.defers } s'.w) :
    G P none (.rangeFunc pg ps assign body) a s.w Q := by
  have hJ := hJ' κ hκ
  refine wpIn_rangeFunc fun fn _ => ?_
  obtain ⟨s1, hs1⟩ : ∃ x, x = s.new (.deferred (some [])) (κ, 0) := ⟨_, rfl⟩
  obtain ⟨rec, hrec⟩ : ∃ rec : LoopState → Option Code → Loop, rec = fun st pe => { state := st, pending := pe, fn, tmps := a.tmps, params := ps, assign, body, defers := s.w.heap.size } := ⟨_, rfl⟩
  obtain ⟨s2, hs2⟩ : ∃ x, x = s1.new (.loop (rec .ready none)) (κ, 1) := ⟨_, rfl⟩
  have hD0 : Hd (κ, 0) s1 s.w.heap.size (.deferred (some [])) := by rw [hs1]; exact Hd.new s _ _
  have t1 : Tr No s s1 := by rw [hs1]; exact Tr.new s _ _
  have t2 : Tr No s1 s2 := by rw [hs2]; exact Tr.new s1 _ _
  have hsz : s1.w.heap.size = s.w.heap.size + 1 := by rw [hs1]; exact World.size_alloc _ _
  have hL : Hd (κ, 1) s2 (s.w.heap.size + 1) (.loop (rec .ready none)) := by rw [hs2, ← hsz]; exact Hd.new s1 _ _
  have hD : Hd (κ, 0) s2 s.w.heap.size (.deferred (some [])) := hD0.trN t2
  obtain ⟨l, hl⟩ : ∃ l, l = s.w.heap.size + 1 := ⟨_, rfl⟩
  obtain ⟨D, hDe⟩ : ∃ D, D = s.w.heap.size := ⟨_, rfl⟩
  rw [← hl] at hL
  rw [← hDe] at hD
  refine ⟨l, [{ target := .collected D, args := #[] }], s2.w, { target := .fn (.func pf) cp.toArray, args := #[.func (.yield l) #[] #[]] }, s2.w, pf, #[.func (.yield l) #[] #[]] ++ cp.toArray, s2.w, ?_, ?_, ?_, ?_, fun h => (by simp [Fc, Fence.wide] at h), ?_⟩
  · rw [hs2, hs1, hrec, hl, hDe]; exact run_enterLoop_outer _ _ _ _ _
  · simp only [resolve, hg]
    simp [go_sem, hl]
  · intro f' _; trivial
  · simp [invoke, go_sem, hpf]
  · have hp := hprod (.func (.yield l) #[] #[]) (fun st s' => J st s' ∧ Hd (κ, 1) s' l (.loop (rec .ready none)) ∧ Hd (κ, 0) s' D (.deferred (some [])) ∧ Tr (Or q (Rt κ)) s s') (Or q (Rt κ)) s2 (t1.trans t2)
      (fun k' hk' st sa sb h t => by
        have n1 : k' ≠ kJ := by
          obtain ⟨b, i, hb⟩ := hex
          have := hk' b _ ((t1.trans t2).own b _ hb (fun h => h)).1
          simp at this; omega
        have n2 : κ ≠ k' := by have := hk' l _ hL.1; simp at this; omega
        exact ⟨hJ' k' n1 st sa sb h.1 t, h.2.1.tr t (nr n2), h.2.2.1.tr t (nr n2), h.2.2.2.step (n := k') (fun b t hb => hk' b t ((t1.trans t2).own b t hb (fun h => h)).1) t (fun t h => .inr (Nat.le_of_eq (Eq.symm h)))⟩)
      (fun st x st' s3 hpr ⟨hj, hl3, hd3, ht3⟩ hc => by
        intro d qo as ts t pos af g ρ hqo has
        have hy := run_yield (P := P) (args := (enc x).toArray) hl3.2 (by rw [hrec]; simp [hps x])
        refine ⟨fun _ h => by simp at h, ?_⟩
        have hex : (execOp ρ ⟨d, .call ⟨.value qo, as.toArray, ts⟩, t, pos, af, g⟩).run P s3.w = (Instr.yield l (enc x).toArray).run P s3.w := by
          simp only [execOp, resolve, Sem.run_bind, Sem.run_pure, Result.andThen, hqo, Deferred.ofValue, invoke, List.map_toArray, has]
          simp
        rw [hex, hy]
        simp only
        intro l' n'
        refine roundIn_of_wpIn trivial ?_
        have hb := hbody l st x st' s3 ht3 hpr hj hc
        have e1 : ((rec .ready none).params.zip (enc x).toArray).foldl (fun (tmps : Array Value) (x : Nat × Value) => match x with | (t, a) => tmps.setIfInBounds t a) (rec .ready none).tmps = (ps.zip (enc x).toArray).foldl (fun t (p, v) => t.setIfInBounds p v) a.tmps := by rw [hrec]
        have e2 : (rec .ready none).assign = assign := by rw [hrec]
        have e3 : (rec .ready none).body = body := by rw [hrec]
        rw [e1, e2, e3]
        refine wpIn_mono (hb.n n') fun e a1 w1 q1 => ?_
        cases e with
        | normal =>
          obtain ⟨s4, rfl, t4, q1⟩ := q1
          have hl4 : Hd (κ, 1) s4 l (.loop (rec .ready none)) := hl3.tr t4 (hq 1)
          have hd4 : Hd (κ, 0) s4 D (.deferred (some [])) := hd3.tr t4 (hq 0)
          refine ⟨_, run_beginRound hl4.2 (by rw [hrec]), ?_⟩
          have t5 : Tr (· = ((κ, 1) : Tg)) s4 (s4.obj l (.loop { rec .ready none with state := .busy })) := Tr.obj hl4.1 _
          have t5' : Tr (Rt κ) s4 (s4.obj l (.loop { rec .ready none with state := .busy })) := t5.mono (by intro t h; subst h; rfl)
          refine wpIn_mono ((q1 _ t5').n n') fun e a2 w2 q2 => ?_
          obtain ⟨rfl, s6, rfl, hj6, t6⟩ := q2
          have hl6 : Hd (κ, 1) s6 l (.loop { rec .ready none with state := .busy }) := (hl4.obj _).tr t6 (hq 1)
          have hd6 : Hd (κ, 0) s6 D (.deferred (some [])) := (hd4.tr t5 (by intro h; injection h with _ h; cases h)).tr t6 (hq 0)
          have t7 : Tr (· = ((κ, 1) : Tg)) s6 (s6.obj l (.loop (rec .ready none))) := Tr.obj hl6.1 _
          have t7' : Tr (Rt κ) s6 (s6.obj l (.loop (rec .ready none))) := t7.mono (by intro t h; subst h; rfl)
          have ht : Tr (Or q (Rt κ)) s3 (s6.obj l (.loop (rec .ready none))) := (((t4.mono fun _ h => .inl h).trans (t5'.mono fun _ h => .inr h)).trans (t6.mono fun _ h => .inl h)).trans (t7'.mono fun _ h => .inr h)
          refine ⟨_, _, run_endRound none hl6.2, _, rfl, s6.obj l (.loop (rec .ready none)), ?_, rfl, ⟨hJ _ _ _ hj6 t7', hl6.obj _, hd6.tr t7 (by intro h; injection h with _ h; cases h), ht3.trans ht⟩, ht⟩
          rw [hrec]; rfl
        | exit id => exact q1.elim
        | goto t => exact q1.elim
        | ret => exact q1.elim
        | panic ch => exact q1.elim
        | outgrown => exact q1.elim)
      ⟨hJ _ _ _ h0 (t1.trans t2).no, hL, hD, (t1.trans t2).no⟩
    refine CallsIn.mono (R := fun e w' => ∃ v, e = .returned v ∧ ∃ s', w' = s'.w ∧ (J st1 s' ∧ Hd (κ, 1) s' l (.loop (rec .ready none)) ∧ Hd (κ, 0) s' D (.deferred (some [])) ∧ Tr (Or q (Rt κ)) s s')) (callsIn_Fc (l := none) (n := 0 - 1) ?_) ?_
    · have e1 : #[Value.func (.yield l) #[] #[]] ++ cp.toArray = (Value.func (.yield l) #[] #[] :: cp).toArray := by simp
      rw [e1]
      exact Calls.mono hp fun e w' ⟨v, e, s', hw, r⟩ => ⟨v, e, s', hw, r.1⟩
    · rintro e w' ⟨v, rfl, s3, rfl, hj, hl3, hd3, ht3⟩
      obtain ⟨r0, hr0⟩ : ∃ r0, r0 = rec .ready none := ⟨_, rfl⟩
      have hpend : r0.pending = none := by rw [hr0, hrec]
      have hst : r0.state ≠ .busy := by rw [hr0, hrec]; simp
      rw [← hr0] at hl3
      obtain ⟨o, ho⟩ : ∃ o, o = Obj.loop { r0 with state := .exhausted } := ⟨_, rfl⟩
      have he : (Instr.endLoop l).run P s3.w = .ok none (s3.w.putObj l o) := by rw [ho, ← hpend]; exact run_endLoop hl3.2 hst
      have t4 : Tr (· = ((κ, 1) : Tg)) s3 (s3.obj l o) := Tr.obj hl3.1 _
      have t4' : Tr (Rt κ) s3 (s3.obj l o) := t4.mono (by intro t h; subst h; rfl)
      exact ⟨none, _, he, hdone D (s3.obj l o) (hJ _ _ _ hj t4') (ht3.trans (t4'.mono fun _ h => .inr h)) (hd3.tr t4 (by intro h; injection h with _ h; cases h))⟩

/-- A function that holds one such loop. -/
def fnPostD (P : Program) (fn : Func) (R : Value → World → Prop) : Exit → Act → World → Prop
  | .normal, a, w | .ret, a, w => ∃ D, a.defers = [{ target := .collected D, args := #[] }] ∧ w.heap[D]? = some (.deferred (some [])) ∧ ∃ v, (results fn a.tmps).run P (w.putObj D (.deferred none)) = .ok v (w.putObj D (.deferred none)) ∧ R v (w.putObj D (.deferred none))
  | _, _, _ => False

theorem leaves_mark {fn : Func} {tmps : Array Value} {R : Ending → World → Prop} {F : Fence} {n D : Nat} {w : World} {v : Value} (h1 : w.heap[D]? = some (.deferred (some []))) (h2 : (results fn tmps).run P (w.putObj D (.deferred none)) = .ok v (w.putObj D (.deferred none)))
    (hR : R (.returned v) (w.putObj D (.deferred none))) : LeavesInM F n P fn tmps R [{ target := .collected D, args := #[] }] .returning w :=
  ⟨by simp, .inl ⟨D, _, rfl, run_takeDeferred h1, by simp only [LeavesInM, LeavesIn]; exact ⟨v, h2, hR⟩⟩⟩

theorem ok_ofD {f : FuncId} {fn : Func} {c : Code} {R : Value → St → Prop} {n : Nat} (args : List Value) (hf : P.funcs[f]? = some fn) (hb : fn.body = some c) (L : Vs) (hn : args.length + (fn.ntmps - args.length) = n) (hL : (args.zipIdx.map fun (v, i) => (i, v)) = L)
    (h : ∀ a, En [] n a L → G P none c a s.w (fnPostD P fn (Rs R))) : Ok P f args.toArray s R := by
  have E := En.start args.toArray (fn.ntmps - args.length)
  simp only [List.size_toArray, hn] at E
  have e2 : (args.toArray.toList.zipIdx.map fun (v, i) => (i, v)) = L := by simpa using hL
  rw [e2] at E
  refine callsIn_wide.1 (callsIn_of_wp_marks (n := 0) (F := Fence.wide) hf hb trivial (wpIn_mono (h _ (by simpa using E)) fun e a w q => ?_))
  cases e with
  | normal => obtain ⟨D, hd, h1, v, h2, hR⟩ := q; show LeavesInM _ _ P fn a.tmps _ a.defers .returning w; rw [hd]; exact leaves_mark h1 h2 ⟨v, rfl, hR⟩
  | ret => obtain ⟨D, hd, h1, v, h2, hR⟩ := q; show LeavesInM _ _ P fn a.tmps _ a.defers .returning w; rw [hd]; exact leaves_mark h1 h2 ⟨v, rfl, hR⟩
  | exit id => exact q.elim
  | goto t => exact q.elim
  | panic ch => exact q.elim
  | outgrown => exact q.elim

/-- Its end. -/
theorem finD {fn : Func} {R : Value → St → Prop} {n : Nat} {a : Act} {L : Vs} {D κ : Nat} (E : En [{ target := .collected D, args := #[] }] n a L) (hD : Hd (κ, 0) s D (.deferred (some [])))
    (h : ∀ s', Tr (· = ((κ, 0) : Tg)) s s' → ∃ v s2, s'.w = s2.w ∧ (results fn a.tmps).run P s'.w = .ok v s'.w ∧ R v s2) : fnPostD P fn (Rs R) .ret a s.w := by
  obtain ⟨v, s2, hw, h1, h2⟩ := h (s.obj D (.deferred none)) (Tr.obj hD.1 _)
  exact ⟨D, E.defs, hD.2, v, h1, s2, hw, h2⟩
theorem res1 {fn : Func} {n : Nat} {a : Act} {L : Vs} {D : List Deferred} {w : World} (E : En D n a L) {r : ResultVar} {v : Value} (hr : fn.results = #[r]) (h1 : rv1 P L w r v) : (results fn a.tmps).run P w = .ok v w := by
  have e1 := rv1_run E h1
  simp [results_eq, hr, e1, Sem.run_bind, Result.andThen]
theorem res2 {fn : Func} {n : Nat} {a : Act} {L : Vs} {D : List Deferred} {w : World} (E : En D n a L) {r r' : ResultVar} {v v' : Value} (hr : fn.results = #[r, r']) (h1 : rv1 P L w r v) (h2 : rv1 P L w r' v') : (results fn a.tmps).run P w = .ok (.tuple #[v, v']) w := by
  have e1 := rv1_run E h1
  have e2 := rv1_run E h2
  simp [results_eq, hr, e1, e2, Sem.run_bind, Result.andThen]

/-- A round's temporaries. -/
theorem En.round1 {n : Nat} {a : Act} {L : Vs} {D : List Deferred} (E : En D n a L) {p : Nat} {v : Value} (hp : Nat.ble (p + 1) n = true) :
    En [] n { tmps := (#[p].zip [v].toArray).foldl (fun t (p, v) => t.setIfInBounds p v) a.tmps, defers := [] } ((p, v) :: L) := by
  have := E.put hp v
  refine ⟨by simpa [Act.put] using this.size, rfl, fun k u hk => ?_⟩
  have h2 := this.get k u hk
  simpa [Act.put] using h2
theorem En.round2 {n : Nat} {a : Act} {L : Vs} {D : List Deferred} (E : En D n a L) {p p' : Nat} {v v' : Value} (hp : Nat.ble (p + 1) n = true) (hp' : Nat.ble (p' + 1) n = true) :
    En [] n { tmps := (#[p, p'].zip [v, v'].toArray).foldl (fun t (p, v) => t.setIfInBounds p v) a.tmps, defers := [] } ((p', v') :: (p, v) :: L) := by
  have := (E.put hp v).put hp' v'
  refine ⟨by simpa [Act.put] using this.size, rfl, fun k u hk => ?_⟩
  have h2 := this.get k u hk
  simpa [Act.put] using h2
end
end Go.Proofs.Ytdkfdmalbbfbmaa
