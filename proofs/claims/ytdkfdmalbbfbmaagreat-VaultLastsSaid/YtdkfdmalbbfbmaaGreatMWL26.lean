/- A range over a function, where more than one thing turns; a function that holds one on some of its ways; chunks of a slice. -/
import Derived.Test.YtdkfdmalbbfbmaaGreatMWL25
/- A range over a function, where more than one thing turns; a function that holds one on some of its ways; chunks of a slice. -/
namespace Go.Proofs.YtdkfdmalbbfbmaaGreat
open Go
set_option maxRecDepth 4000

section
variable {P : Program} {s s' s'' : St} {b : Nat} {o o' : Obj} {k : Tg} {p : Tg → Prop}
theorem G_range2 {σ α : Type} {pg : Operand} {ps : Array Tmp} {assign body : Code} {a : Act} {Q : Exit → Act → World → Prop} {pf : FuncId} {cp : List Value}
    (hg : a.eval pg = .func (.func pf) #[] cp.toArray) (hpf : ∀ args w, (callFunc pf args).run P w = .ok (.enter pf args) w)
    (κ : Nat) (J : σ → St → Prop) (c : σ → α → Option σ) (enc : α → List Value) (pre : α → St → Prop) (hpre : ∀ x s s' p, pre x s → Tr p s s' → pre x s') (q : Tg → Prop) (hq : ∀ i, ¬ q (κ, i))
    (hJ' : ∀ k', (k' = κ ∨ ∀ b t, s.tag b = some t → t.1 < k') → ∀ st s s', J st s → Tr (Rt k') s s' → J st s') (st0 st1 : σ) (h0 : J st0 s) (hps : ∀ x, (enc x).length = ps.size)
    (hprod : ∀ (yv : Value) (J' : σ → St → Prop) (q' : Tg → Prop) (s1 : St), Tr No s s1 → (∀ k', (∀ b t, s1.tag b = some t → t.1 < k') → ∀ st s s', J' st s → Tr (Rt k') s s' → J' st s') →
      (∀ st x st' s, pre x s → J' st s → c st x = some st' → CallV P yv (enc x) s fun v s' => v = .bool true ∧ J' st' s' ∧ Tr q' s s') → J' st0 s1 →
      Ok P pf (yv :: cp).toArray s1 fun _ s' => J' st1 s' ∧ Tr q' s1 s')
    (hbody : ∀ l st x st' s2, Tr (Or q (Rt κ)) s s2 → pre x s2 → J st s2 → c st x = some st' →
      G P (some l) assign { tmps := (ps.zip (enc x).toArray).foldl (fun t (p, v) => t.setIfInBounds p v) a.tmps, defers := [] } s2.w (cutG (fun a1 w1 => ∃ s3, w1 = s3.w ∧ Tr q s2 s3 ∧
        ∀ s4, Tr (Rt κ) s3 s4 → G P (some l) body a1 s4.w (fun e _ w5 => e = .normal ∧ ∃ s5, w5 = s5.w ∧ J st' s5 ∧ Tr q s4 s5)) (fun _ _ _ => False)))
    (hdone : ∀ D' s', J st1 s' → Tr (Or q (Rt κ)) s s' → Hd (κ, 0) s' D' (.deferred (some [])) → Q .normal { a with defers := { target := .collected D', args := #[] } :: a.defers } s'.w) :
    G P none (.rangeFunc pg ps assign body) a s.w Q := by
  have hJ := hJ' κ (.inl rfl)
  refine wpIn_rangeFunc fun fn _ => ?_
  obtain ⟨s1, hs1⟩ : ∃ x, x = s.new (.deferred (some [])) (κ, 0) := ⟨_, rfl⟩
  obtain ⟨rec, hrec⟩ : ∃ rec : LoopState → Option Code → Loop, rec = fun st pe => { state := st, pending := pe, fn, tmps := a.tmps, params := ps, assign, body, defers := s.w.heap.size } := ⟨_, rfl⟩
  obtain ⟨s2, hs2⟩ : ∃ x, x = s1.new (.loop (rec .ready none)) (κ, 1) := ⟨_, rfl⟩
  have hD0 : Hd (κ, 0) s1 s.w.heap.size (.deferred (some [])) := by rw [hs1]; exact Hd.new s _ _
  have t1 : Tr No s s1 := by rw [hs1]; exact Tr.new s _ _
  have t2 : Tr No s1 s2 := by rw [hs2]; exact Tr.new s1 _ _
  have hsz : s1.w.heap.size = s.w.heap.size + 1 := by rw [hs1]; exact World.size_alloc _ _
  have hL : Hd (κ, 1) s2 (s.w.heap.size + 1) (.loop (rec .ready none)) := by rw [hs2, ← hsz]; exact Hd.new s1 _ _
  have hD : Hd (κ, 0) s2 s.w.heap.size (.deferred (some [])) := hD0.trN t2
  obtain ⟨l, hl⟩ : ∃ l, l = s.w.heap.size + 1 := ⟨_, rfl⟩
  obtain ⟨D, hDe⟩ : ∃ D, D = s.w.heap.size := ⟨_, rfl⟩
  rw [← hl] at hL
  rw [← hDe] at hD
  refine ⟨l, [{ target := .collected D, args := #[] }], s2.w, { target := .fn (.func pf) cp.toArray, args := #[.func (.yield l) #[] #[]] }, s2.w, pf, #[.func (.yield l) #[] #[]] ++ cp.toArray, s2.w, ?_, ?_, ?_, ?_, fun h => (by simp [Fc, Fence.wide] at h), ?_⟩
  · rw [hs2, hs1, hrec, hl, hDe]; exact run_enterLoop_outer _ _ _ _ _
  · simp only [resolve, hg]
    simp [go_sem, hl]
  · intro f' _; trivial
  · simp [invoke, go_sem, hpf]
  · have hp := hprod (.func (.yield l) #[] #[]) (fun st s' => J st s' ∧ Hd (κ, 1) s' l (.loop (rec .ready none)) ∧ Hd (κ, 0) s' D (.deferred (some [])) ∧ Tr (Or q (Rt κ)) s s') (Or q (Rt κ)) s2 (t1.trans t2)
      (fun k' hk' st sa sb h t => by
        have n1 : ∀ b t, s.tag b = some t → t.1 < k' := fun b t hb => hk' b t ((t1.trans t2).own b t hb (fun h => h)).1
        have n2 : κ ≠ k' := by have := hk' l _ hL.1; simp at this; omega
        exact ⟨hJ' k' (.inr n1) st sa sb h.1 t, h.2.1.tr t (nr n2), h.2.2.1.tr t (nr n2), h.2.2.2.step (n := k') (fun b t hb => hk' b t ((t1.trans t2).own b t hb (fun h => h)).1) t (fun t h => .inr (Nat.le_of_eq (Eq.symm h)))⟩)
      (fun st x st' s3 hpr ⟨hj, hl3, hd3, ht3⟩ hc => by
        intro d qo az ts t pos af g ρ hqo has
        have hy := run_yield (P := P) (args := (enc x).toArray) hl3.2 (by rw [hrec]; simp [hps x])
        refine ⟨fun _ h => by simp at h, ?_⟩
        have hex : (execOp ρ ⟨d, .call ⟨.value qo, az.toArray, ts⟩, t, pos, af, g⟩).run P s3.w = (Instr.yield l (enc x).toArray).run P s3.w := by
          simp only [execOp, resolve, Sem.run_bind, Sem.run_pure, Result.andThen, hqo, Deferred.ofValue, invoke, List.map_toArray, has]
          simp
        rw [hex, hy]
        simp only
        intro l' n'
        refine roundIn_of_wpIn trivial ?_
        have hb := hbody l st x st' s3 ht3 hpr hj hc
        have e1 : ((rec .ready none).params.zip (enc x).toArray).foldl (fun (tmps : Array Value) (x : Nat × Value) => match x with | (t, a) => tmps.setIfInBounds t a) (rec .ready none).tmps = (ps.zip (enc x).toArray).foldl (fun t (p, v) => t.setIfInBounds p v) a.tmps := by rw [hrec]
        have e2 : (rec .ready none).assign = assign := by rw [hrec]
        have e3 : (rec .ready none).body = body := by rw [hrec]
        rw [e1, e2, e3]
        refine wpIn_mono (hb.n n') fun e a1 w1 q1 => ?_
        cases e with
        | normal =>
          obtain ⟨s4, rfl, t4, q1⟩ := q1
          have hl4 : Hd (κ, 1) s4 l (.loop (rec .ready none)) := hl3.tr t4 (hq 1)
          have hd4 : Hd (κ, 0) s4 D (.deferred (some [])) := hd3.tr t4 (hq 0)
          refine ⟨_, run_beginRound hl4.2 (by rw [hrec]), ?_⟩
          have t5 : Tr (· = ((κ, 1) : Tg)) s4 (s4.obj l (.loop { rec .ready none with state := .busy })) := Tr.obj hl4.1 _
          have t5' : Tr (Rt κ) s4 (s4.obj l (.loop { rec .ready none with state := .busy })) := t5.mono (by intro t h; subst h; rfl)
          refine wpIn_mono ((q1 _ t5').n n') fun e a2 w2 q2 => ?_
          obtain ⟨rfl, s6, rfl, hj6, t6⟩ := q2
          have hl6 : Hd (κ, 1) s6 l (.loop { rec .ready none with state := .busy }) := (hl4.obj _).tr t6 (hq 1)
          have hd6 : Hd (κ, 0) s6 D (.deferred (some [])) := (hd4.tr t5 (by intro h; injection h with _ h; cases h)).tr t6 (hq 0)
          have t7 : Tr (· = ((κ, 1) : Tg)) s6 (s6.obj l (.loop (rec .ready none))) := Tr.obj hl6.1 _
          have t7' : Tr (Rt κ) s6 (s6.obj l (.loop (rec .ready none))) := t7.mono (by intro t h; subst h; rfl)
          have ht : Tr (Or q (Rt κ)) s3 (s6.obj l (.loop (rec .ready none))) := (((t4.mono fun _ h => .inl h).trans (t5'.mono fun _ h => .inr h)).trans (t6.mono fun _ h => .inl h)).trans (t7'.mono fun _ h => .inr h)
          refine ⟨_, _, run_endRound none hl6.2, _, rfl, s6.obj l (.loop (rec .ready none)), ?_, rfl, ⟨hJ _ _ _ hj6 t7', hl6.obj _, hd6.tr t7 (by intro h; injection h with _ h; cases h), ht3.trans ht⟩, ht⟩
          rw [hrec]; rfl
        | exit id => exact q1.elim
        | goto t => exact q1.elim
        | ret => exact q1.elim
        | panic ch => exact q1.elim
        | outgrown => exact q1.elim)
      ⟨hJ _ _ _ h0 (t1.trans t2).no, hL, hD, (t1.trans t2).no⟩
    refine CallsIn.mono (R := fun e w' => ∃ v, e = .returned v ∧ ∃ s', w' = s'.w ∧ (J st1 s' ∧ Hd (κ, 1) s' l (.loop (rec .ready none)) ∧ Hd (κ, 0) s' D (.deferred (some [])) ∧ Tr (Or q (Rt κ)) s s')) (callsIn_Fc (l := none) (n := 0 - 1) ?_) ?_
    · have e1 : #[Value.func (.yield l) #[] #[]] ++ cp.toArray = (Value.func (.yield l) #[] #[] :: cp).toArray := by simp
      rw [e1]
      exact Calls.mono hp fun e w' ⟨v, e, s', hw, r⟩ => ⟨v, e, s', hw, r.1⟩
    · rintro e w' ⟨v, rfl, s3, rfl, hj, hl3, hd3, ht3⟩
      obtain ⟨r0, hr0⟩ : ∃ r0, r0 = rec .ready none := ⟨_, rfl⟩
      have hpend : r0.pending = none := by rw [hr0, hrec]
      have hst : r0.state ≠ .busy := by rw [hr0, hrec]; simp
      rw [← hr0] at hl3
      obtain ⟨o, ho⟩ : ∃ o, o = Obj.loop { r0 with state := .exhausted } := ⟨_, rfl⟩
      have he : (Instr.endLoop l).run P s3.w = .ok none (s3.w.putObj l o) := by rw [ho, ← hpend]; exact run_endLoop hl3.2 hst
      have t4 : Tr (· = ((κ, 1) : Tg)) s3 (s3.obj l o) := Tr.obj hl3.1 _
      have t4' : Tr (Rt κ) s3 (s3.obj l o) := t4.mono (by intro t h; subst h; rfl)
      exact ⟨none, _, he, hdone D (s3.obj l o) (hJ _ _ _ hj t4') (ht3.trans (t4'.mono fun _ h => .inr h)) (hd3.tr t4 (by intro h; injection h with _ h; cases h))⟩


def fnPostE (P : Program) (fn : Func) (R : Value → World → Prop) : Exit → Act → World → Prop := fun e a w => fnPost P fn R e a w ∨ fnPostD P fn R e a w
theorem ok_ofE {f : FuncId} {fn : Func} {c : Code} {R : Value → St → Prop} {n : Nat} (args : List Value) (hf : P.funcs[f]? = some fn) (hb : fn.body = some c) (L : Vs) (hn : args.length + (fn.ntmps - args.length) = n) (hL : (args.zipIdx.map fun (v, i) => (i, v)) = L)
    (h : ∀ a, En [] n a L → G P none c a s.w (fnPostE P fn (Rs R))) : Ok P f args.toArray s R := by
  have E := En.start args.toArray (fn.ntmps - args.length)
  simp only [List.size_toArray, hn] at E
  have e2 : (args.toArray.toList.zipIdx.map fun (v, i) => (i, v)) = L := by simpa using hL
  rw [e2] at E
  refine callsIn_wide.1 (callsIn_of_wp_marks (n := 0) (F := Fence.wide) hf hb trivial (wpIn_mono (h _ (by simpa using E)) fun e a w q => ?_))
  rcases q with q | q
  · cases e with
    | normal => obtain ⟨hd, v, h2, hR⟩ := q; show LeavesInM _ _ P fn a.tmps _ a.defers .returning w; rw [hd]; simp only [LeavesInM, LeavesIn]; exact ⟨v, h2, v, rfl, hR⟩
    | ret => obtain ⟨hd, v, h2, hR⟩ := q; show LeavesInM _ _ P fn a.tmps _ a.defers .returning w; rw [hd]; simp only [LeavesInM, LeavesIn]; exact ⟨v, h2, v, rfl, hR⟩
    | exit id => exact q.elim
    | goto t => exact q.elim
    | panic ch => exact q.elim
    | outgrown => exact q.elim
  · cases e with
    | normal => obtain ⟨D, hd, h1, v, h2, hR⟩ := q; show LeavesInM _ _ P fn a.tmps _ a.defers .returning w; rw [hd]; exact leaves_mark h1 h2 ⟨v, rfl, hR⟩
    | ret => obtain ⟨D, hd, h1, v, h2, hR⟩ := q; show LeavesInM _ _ P fn a.tmps _ a.defers .returning w; rw [hd]; exact leaves_mark h1 h2 ⟨v, rfl, hR⟩
    | exit id => exact q.elim
    | goto t => exact q.elim
    | panic ch => exact q.elim
    | outgrown => exact q.elim

variable {α : Type} {K : Kd α} {ρ : Operand → Value} {v : Value} {xs ys : List α} {T e : Nat}
/-- A part of a slice, that ends where it ends. -/
theorem sl_mid {l h : Int} (hs : Sl K s v xs) (hy : sl xs l h = some ys) (hT : P.underlying T = some (.slice e)) (hz : ∀ w, (sizeOf e).run P w = .ok K.sz w) :
    ∃ u, (∀ (w : World) (d g t pos af ρ) (x lo hi mx : Operand), ρ x = v → ρ lo = .int .i64 l → ρ hi = .int .i64 h → ρ mx = .int .i64 h → OpTo P ⟨d, .slice T x (some lo) (some hi) (some mx), t, pos, af, g⟩ ρ w u w) ∧ Sl K s u ys := by
  obtain ⟨h0, h1, h2, rfl⟩ := sl_some hy
  have hs0 := hs
  obtain ⟨ao, c, rfl, hc, _, _⟩ := hs0
  refine ⟨_, fun w d g t pos af ρ x lo hi mx hx hl hh hm => OpTo_value (by intro c h; cases h) ?_, hs.cut (l := l.toNat) (h := h.toNat) (q := h.toNat) (by omega) (by omega) (by omega) (by omega)⟩
  simp only [execOp, hx, Option.map_some, hl, hh, hm]
  refine run_v _ ?_
  have e1 : (Instr.sliceBounds true xs.length c (some (.int .i64 l)) (some (.int .i64 h)) (some (.int .i64 h))).run P w = .ok (l.toNat, h.toNat, h.toNat) w := by
    have h3 : h ≤ (c : Int) := by omega
    have h4 : h ≤ (h.toNat : Int) := by omega
    have h7 : l ≤ (h.toNat : Int) := by omega
    have h5 := run_sliceBound (P := P) (w := w) .i64 h c .slice3Acap (by omega) h3
    have h6 := run_sliceBound (P := P) (w := w) .i64 h h.toNat .slice3B (by omega) h4
    have h8 := run_sliceBound (P := P) (w := w) .i64 l h.toNat .slice3C h0 h7
    simp only [Instr.sliceBounds, Sem.run_bind, Result.andThen, if_true, h5, h6, h8, Option.isSome_some, Sem.run_pure]
  simp only [Instr.sliceAt, Instr.slice, Sem.run_bind, run_underlying hT, Result.andThen, e1, hz]
  rfl
end

theorem Tr.ws3 {a b c : Nat} {s s' : St} (t : Tr (Or (Ws [a, b]) (Rt c)) s s') : Tr (Ws [a, b, c]) s s' := t.mono fun x e => by
  rcases e with e | e
  · have e : x.1 = a ∨ x.1 = b := by simpa [Ws] using e
    simp only [Ws, List.mem_cons, List.not_mem_nil, or_false]
    exact e.elim .inl fun e => .inr (.inl e)
  · have e : x.1 = c := e
    simp [Ws, e]
theorem Tr.tw {r i : Nat} {W : List Nat} {s s' : St} (h : r ∈ W) (t : Tr (· = ((r, i) : Tg)) s s') : Tr (Ws W) s s' := t.mono fun x e => by
  subst e; exact h
theorem Tr.ww {W W' : List Nat} {s s' : St} (h : ∀ r ∈ W, r ∈ W') (t : Tr (Ws W) s s') : Tr (Ws W') s s' := t.mono fun x e => h _ e
theorem VaultAt.zero {k l d : Nat} {s : St} {b : Nat} {X : VaultM} (h : VaultAt k l d s b X) : ∃ u, Vault0At k d u s b ⟨X.area, X.at_, X.stored⟩ := by
  obtain ⟨w0, b1, h, h0, h1⟩ := h
  exact ⟨_, w0, h, h0⟩

theorem ok_59 (s : St) {x0 : List Int} {w1 : Value} {x1 : Int} (h1 : Sl kU s w1 x0) (hx : gd (!decide (x1 < 1)) (some ()) = some ()) :
    Ok Tryz.prog 35 ([w1, .int .i64 x1] : List Value).toArray s fun v s' => Tr No s s' ∧ ∃ b1 b2 w2, v = .func (.func 65) #[] #[.pointer (some ⟨b1, 0, none⟩), .pointer (some ⟨b2, 0, none⟩)] ∧ Stay s' b1 #[w2] ∧ Stay s' b2 #[.int .i64 x1] ∧ Sl kU s' w2 x0 := by
  refine ok_of (n := 9) _ Tryz.func35 rfl _ rfl rfl fun a E => ?_
  refine G_seq ?_
  refine G_region ?_
  obtain ⟨a1, c1, rfl⟩ := h1.isS
  refine sh E (o_box (E.ev rfl)) rfl rfl rfl ?_
  rintro a _ s1 ⟨b1, rfl, o1, t1⟩ E
  refine sh E (o_box (E.ev rfl)) rfl rfl rfl ?_
  rintro a _ s2 ⟨b2, rfl, o2, t2⟩ E
  refine sd E (o_as (E.ev rfl)) rfl rfl rfl fun a E => ?_
  refine GL_nil ?_
  refine tgn ?_
  refine G_seq ?_
  refine G_seq ?_
  refine G_region ?_
  refine sd E (o_ld Tryz.isAgg3 (E.ev rfl) ((o2.cell _).trans rfl)) rfl rfl rfl fun a E => ?_
  refine sd E (o_bi (E.ev rfl) (E.ev rfl) rfl) rfl rfl rfl fun a E => ?_
  refine GL_nil ?_
  refine tgn ?_
  have hx2 : decide (x1 < 1) = false := by simpa using (gd_some hx).1
  refine G_cond (E.ev rfl) (fun ht => absurd (ht.symm.trans hx2) (by decide)) (fun ht => ?_)
  refine G_skip ?_
  refine tgn ?_
  refine G_seq ?_
  refine G_region ?_
  refine sd E (o_mf (E.evs rfl)) rfl rfl rfl fun a E => ?_
  refine sd E (o_as (E.ev rfl)) rfl rfl rfl fun a E => ?_
  refine GL_nil ?_
  refine tgn ?_
  refine G_ret ?_
  exact fin1 E rfl rfl ⟨t1.trans t2, b1, b2, _, rfl, o1.tr t2, o2, (h1.tr t1).tr t2⟩

noncomputable def m_78_1b {σ : Type} (c : σ → List Int → Option σ) (xs : List Int) (n : Int) : (Int × σ) → Option (Lo (Int × σ) (Int × σ)) := fun (x4, u) =>
  bif decide (x4 < (xs.length : Int)) then (ob (sl xs x4 (xs.length : Int)) fun z => ob (sl xs x4 (IntKind.wrap .i64 (x4 + (if (z.length : Int) < n then (z.length : Int) else n)))) fun ch => ob (c u ch) fun u' => some (.inl (IntKind.wrap .i64 (x4 + n), u'))) else some (.inr (x4, u))
noncomputable def m_78 {σ : Type} (c : σ → List Int → Option σ) (xs : List Int) (n : Int) (u0 : σ) : Option σ := ob (loopO (m_78_1b c xs n) (0, u0)) fun r => some r.2
theorem ok_78 {σ : Type} (s : St) {b1 b2 : Nat} {n : Int} {xs : List Int} {w1 : Value} (o1 : Stay s b1 #[w1]) (h1 : Sl kU s w1 xs) (o2 : Stay s b2 #[.int .i64 n]) (c : σ → List Int → Option σ) (yv : Value) (J' : σ → St → Prop) (q' : Tg → Prop) (hl : ∀ k, (∀ b t, s.tag b = some t → t.1 < k) → ∀ st s s', J' st s → Tr (Rt k) s s' → J' st s')
    (hy : ∀ st ch st' s w2, Sl kU s w2 ch → J' st s → c st ch = some st' → CallV Tryz.prog yv [w2] s fun v s' => v = .bool true ∧ J' st' s' ∧ Tr q' s s') {u0 u1y : σ} (hj0 : J' u0 s) (hm : m_78 c xs n u0 = some u1y) :
    Ok Tryz.prog 65 ([yv, .pointer (some ⟨b1, 0, none⟩), .pointer (some ⟨b2, 0, none⟩)] : List Value).toArray s fun _ s' => J' u1y s' ∧ Tr q' s s' := by
  unfold m_78 at hm
  obtain ⟨k, hk⟩ := s.fresh
  have hL : ∀ st s s', J' st s → Tr (Rt k) s s' → J' st s' := hl k hk
  refine ok_of (n := 31) _ Tryz.func65 rfl _ rfl rfl fun a E => ?_
  refine G_seq ?_
  refine G_region ?_
  refine sd E (o_as (E.ev rfl)) rfl rfl rfl fun a E => ?_
  refine GL_nil ?_
  refine tgn ?_
  obtain ⟨r1, hl1, hm⟩ := ob_some hm
  refine G_mid1 (fun a' w' => ∃ x3 x5 s', some (x3, x5).2 = some u1y ∧ w' = s'.w ∧ Tr (Or q' (Rt k)) s s' ∧ J' x5 s' ∧ En [] 31 a' [(4, .int .i64 x3), (0, yv), (1, .pointer (some ⟨b1, 0, none⟩)), (2, .pointer (some ⟨b2, 0, none⟩))]) ?_ ?_
  · refine G_block ?_
    refine G_lp hl1 (fun st a' w' => ∃ x3 x5 s', st = (x3, x5) ∧ w' = s'.w ∧ Tr (Or q' (Rt k)) s s' ∧ J' x5 s' ∧ En [] 31 a' [(4, .int .i64 x3), (0, yv), (1, .pointer (some ⟨b1, 0, none⟩)), (2, .pointer (some ⟨b2, 0, none⟩))]) ⟨_, _, _, rfl, rfl, (Tr.refl _ _), hj0, ((((E.nil.ad E rfl rfl).ad E rfl rfl).ad E rfl rfl).ad E rfl rfl)⟩ ?_
    rintro _ a _ x ⟨x6, x8, s1, rfl, rfl, t1, hj1, E⟩ hf1
    dsimp only [m_78_1b] at hf1
    refine G_seq ?_
    refine G_seq ?_
    refine G_region ?_
    refine sd E (o_mv (E.ev rfl)) rfl rfl rfl fun a E => ?_
    refine sd E (o_ld Tryz.isAgg36 (E.ev rfl) (((o1.tr t1).cell _).trans rfl)) rfl rfl rfl fun a E => ?_
    refine sd E (o_lenS (xs := xs) Tryz.underlying36 (E.ev rfl) h1.isS) rfl rfl rfl fun a E => ?_
    refine sd E (o_bi (E.ev rfl) (E.ev rfl) rfl) rfl rfl rfl fun a E => ?_
    refine GL_nil ?_
    refine tgn ?_
    refine G_cond (E.ev rfl) (fun ht => ?_) (fun ht => ?_)
    · have hf1 := cT ht hf1
      refine G_skip ?_
      refine tgn ?_
      refine G_seq ?_
      refine G_block ?_
      refine G_seq ?_
      refine G_drw k (by rfl) [0, 1, 2, 3, 4, 5, 6] (by kernel_rfl) ?_
      intro s2 t2
      refine dr E rfl (fun s' t => (o_ld Tryz.isAgg3 (E.ev rfl) (((((o2.tr t1).tr t2).tr t).cell _).trans rfl))) rfl rfl rfl rfl fun a E => ?_
      refine dr E rfl (fun s' t => (o_ld Tryz.isAgg36 (E.ev rfl) (((((o1.tr t1).tr t2).tr t).cell _).trans rfl))) rfl rfl rfl rfl fun a E => ?_
      refine dp E rfl (fun w => (o_mv (E.ev rfl))) rfl rfl rfl fun a E => ?_
      obtain ⟨z, hx1, hf1⟩ := ob_some hf1
      obtain ⟨w3, g1, h2⟩ := ((h1.tr t1).tr t2).sl hx1
      refine dp E rfl (fun w => (o_slL Tryz.underlying36 Tryz.sizeOf39 g1 (E.ev rfl) (E.ev rfl))) rfl rfl rfl fun a E => ?_
      refine dp E rfl (fun w => (o_lenS (xs := z) Tryz.underlying36 (E.ev rfl) h2.isS)) rfl rfl rfl fun a E => ?_
      refine dp E rfl (fun w => (o_min (E.ev rfl) (E.ev rfl))) rfl rfl rfl fun a E => ?_
      refine dp E rfl (fun w => (o_as (E.ev rfl))) rfl rfl rfl fun a E => ?_
      refine gd_nil ?_
      refine tgn ?_
      refine G_seq ?_
      refine G_region ?_
      refine sd E (o_mv (E.ev rfl)) rfl rfl rfl fun a E => ?_
      refine sd E (o_ld Tryz.isAgg36 (E.ev rfl) ((((o1.tr t1).tr t2).cell _).trans rfl)) rfl rfl rfl fun a E => ?_
      refine sd E (o_mv (E.ev rfl)) rfl rfl rfl fun a E => ?_
      refine sd E (o_mv (E.ev rfl)) rfl rfl rfl fun a E => ?_
      refine sd E (o_mv (E.ev rfl)) rfl rfl rfl fun a E => ?_
      refine sd E (o_bi (E.ev rfl) (E.ev rfl) rfl) rfl rfl rfl fun a E => ?_
      refine sd E (o_mv (E.ev rfl)) rfl rfl rfl fun a E => ?_
      refine sd E (o_mv (E.ev rfl)) rfl rfl rfl fun a E => ?_
      refine sd E (o_bi (E.ev rfl) (E.ev rfl) rfl) rfl rfl rfl fun a E => ?_
      obtain ⟨ch, hx2, hf1⟩ := ob_some hf1
      obtain ⟨w4, g2, h3⟩ := sl_mid ((h1.tr t1).tr t2) hx2 Tryz.underlying36 Tryz.sizeOf39
      refine sd E (g2 _ _ _ _ _ _ _ _ _ _ _ (E.ev rfl) (E.ev rfl) (E.ev rfl) (E.ev rfl)) rfl rfl rfl fun a E => ?_
      obtain ⟨u2, hx3, hf1⟩ := ob_some hf1
      refine sh E (hy _ _ _ _ _ h3 (hL _ _ _ hj1 t2.no) hx3 _ _ _ _ _ _ _ _ _ (E.ev rfl) (E.evs rfl)) rfl rfl rfl ?_
      rintro a _ s3 ⟨rfl, hj2, t3⟩ E
      refine sd E (o_not (E.ev rfl)) rfl rfl rfl fun a E => ?_
      refine GL_nil ?_
      refine tgn ?_
      refine G_cond (t := false) (E.ev rfl) nofun (fun _ => ?_)
      refine G_skip ?_
      refine ebn ?_
      refine tgn ?_
      refine G_region ?_
      refine sd E (o_mv (E.ev rfl)) rfl rfl rfl fun a E => ?_
      refine sd E (o_ld Tryz.isAgg3 (E.ev rfl) (((((o2.tr t1).tr t2).tr t3).cell _).trans rfl)) rfl rfl rfl fun a E => ?_
      refine sd E (o_bi (E.ev rfl) (E.ev rfl) rfl) rfl rfl rfl fun a E => ?_
      refine sd E (o_as (E.ev rfl)) rfl rfl rfl fun a E => ?_
      refine GL_nil ?_
      obtain rfl := Option.some.inj hf1
      exact lpn ⟨_, _, _, rfl, rfl, ((t1.trans t2.no).trans (t3.mono fun _ h => .inl h)), hj2, ((((E.nil.ad E rfl rfl).ad E rfl rfl).ad E rfl rfl).ad E rfl rfl)⟩
    · have hf1 := cF ht hf1
      refine G_exit ?_
      refine tge ?_
      obtain rfl := Option.some.inj hf1
      refine lpe fun hr => ?_
      subst hr
      refine ebk ?_
      refine ctn ?_
      exact ⟨_, _, _, hm, rfl, t1, hj1, ((((E.nil.ad E rfl rfl).ad E rfl rfl).ad E rfl rfl).ad E rfl rfl)⟩
  · rintro a _ ⟨x12, x13, s8, hm, rfl, t9, hj4, E⟩
    cases hm
    exact fin0 E rfl ⟨hj4, ((Tr.refl q' s).step hk t9 (fun t h => h.elim .inl fun h => .inr (Nat.le_of_eq (Eq.symm h))))⟩
end Go.Proofs.YtdkfdmalbbfbmaaGreat
