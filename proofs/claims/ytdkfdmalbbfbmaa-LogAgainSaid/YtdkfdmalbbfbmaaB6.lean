/- Calls, ends of functions, what a model says, and more operations. No project text. -/
import Derived.Test.YtdkfdmalbbfbmaaB5
import Derived.Laws.Slices
namespace Go.Proofs.Ytdkfdmalbbfbmaa
open Go

/-- The call of f comes back, in some state, as R says. -/
def Rs (R : Value → St → Prop) : Value → World → Prop := fun v w => ∃ s, w = s.w ∧ R v s
def Ok (P : Program) (f : FuncId) (args : Array Value) (s : St) (R : Value → St → Prop) : Prop := Calls P f args s.w fun e w' => ∃ v, e = .returned v ∧ Rs R v w'

section
variable {P : Program} {f : FuncId} {fn : Func} {c : Code} {s : St} {R : Value → St → Prop} {n : Nat} {a : Act} {L : Vs} {D : List Deferred}

theorem Ok.mono {args : Array Value} {R' : Value → St → Prop} (h : Ok P f args s R) (k : ∀ v s', R v s' → R' v s') : Ok P f args s R' :=
  Calls.mono h fun _ _ ⟨v, e, s', hw, r⟩ => ⟨v, e, s', hw, k v s' r⟩

/-- A function's body is gone through. -/
theorem ok_of (args : List Value) (hf : P.funcs[f]? = some fn) (hb : fn.body = some c) (L : Vs) (hn : args.length + (fn.ntmps - args.length) = n) (hL : (args.zipIdx.map fun (v, i) => (i, v)) = L)
    (h : ∀ a, En [] n a L → G P none c a s.w (fnPost P fn (Rs R))) : Ok P f args.toArray s R := by
  have E := En.start args.toArray (fn.ntmps - args.length)
  simp only [List.size_toArray, hn] at E
  have e2 : (args.toArray.toList.zipIdx.map fun (v, i) => (i, v)) = L := by simpa using hL
  rw [e2] at E
  exact Calls_of_G (args := args.toArray) (R := Rs R) hf hb (h _ (by simpa using E))

/-- A result. -/
def rv1 (P : Program) (L : Vs) (w : World) : ResultVar → Value → Prop
  | .tmp t, v => lk L t = some v
  | .cell a t, v => ∃ p, lk L a = some (.pointer (some p)) ∧ (loadVar t p).run P w = .ok v w

def rvR (tmps : Array Value) : ResultVar → Sem Value
  | .tmp t => pure (tmps.getD t undef)
  | .cell a t => do loadVar t (← asAddr (tmps.getD a undef))
theorem results_eq (fn : Func) (tmps : Array Value) : results fn tmps = (do let vs ← fn.results.mapM (rvR tmps); pure (if h : vs.size = 1 then vs[0] else .tuple vs)) := by
  unfold results
  congr 1
theorem rv1_run (E : En D n a L) {w : World} {r : ResultVar} {v : Value} (h : rv1 P L w r v) : (rvR a.tmps r).run P w = .ok v w := by
  cases r with
  | tmp t =>
    have := E.get t v h
    simp [rvR, this]
  | cell x t =>
    obtain ⟨p, h1, h2⟩ := h
    have := E.get x _ h1
    simp only [rvR, Array.getD_eq_getD_getElem?, this, Option.getD_some, asAddr, Sem.run_bind, Sem.run_pure, Result.andThen, h2]

theorem fin0 (E : En [] n a L) (hr : fn.results = #[]) (h : R (.tuple #[]) s) : fnPost P fn (Rs R) .ret a s.w :=
  ⟨E.defs, .tuple #[], results_none hr _ _ _, s, rfl, h⟩
theorem fin1 (E : En [] n a L) {r : ResultVar} {v : Value} (hr : fn.results = #[r]) (h1 : rv1 P L s.w r v) (h : R v s) : fnPost P fn (Rs R) .ret a s.w :=
  ⟨E.defs, v, by
    have e1 := rv1_run E h1
    simp [results_eq, hr, e1, Sem.run_bind, Result.andThen], s, rfl, h⟩
theorem fin2 (E : En [] n a L) {r r' : ResultVar} {v v' : Value} (hr : fn.results = #[r, r']) (h1 : rv1 P L s.w r v) (h2 : rv1 P L s.w r' v') (h : R (.tuple #[v, v']) s) : fnPost P fn (Rs R) .ret a s.w :=
  ⟨E.defs, _, by
    have e1 := rv1_run E h1
    have e2 := rv1_run E h2
    simp [results_eq, hr, e1, e2, Sem.run_bind, Result.andThen], s, rfl, h⟩
theorem fin3 (E : En [] n a L) {r r' r'' : ResultVar} {v v' v'' : Value} (hr : fn.results = #[r, r', r'']) (h1 : rv1 P L s.w r v) (h2 : rv1 P L s.w r' v') (h3 : rv1 P L s.w r'' v'') (h : R (.tuple #[v, v', v'']) s) : fnPost P fn (Rs R) .ret a s.w :=
  ⟨E.defs, _, by
    have e1 := rv1_run E h1
    have e2 := rv1_run E h2
    have e3 := rv1_run E h3
    simp [results_eq, hr, e1, e2, e3, Sem.run_bind, Result.andThen], s, rfl, h⟩
end

/-! What a model says. -/
/-- Then. -/
def ob {α β : Type} (x : Option α) (f : α → Option β) : Option β := match x with | none => none | some a => f a
section
variable {α β : Type} {x : Option α} {f : α → Option β} {y : β} {t : Bool} {A B : Option β}
theorem ob_some (h : ob x f = some y) : ∃ a, x = some a ∧ f a = some y := by
  cases x with
  | none => cases h
  | some a => exact ⟨a, rfl, h⟩
theorem cT (ht : t = true) (h : (bif t then A else B) = some y) : A = some y := by rw [ht] at h; exact h
theorem cF (ht : t = false) (h : (bif t then A else B) = some y) : B = some y := by rw [ht] at h; exact h
/-- Only if. -/
def gd (t : Bool) (A : Option β) : Option β := bif t then A else none
theorem gd_some (h : gd t A = some y) : t = true ∧ A = some y := by
  cases t
  · cases h
  · exact ⟨rfl, h⟩
/-- The element at i. -/
def gt (xs : List α) (i : Int) : Option α := bif decide (0 ≤ i) then xs[i.toNat]? else none
theorem gt_some {xs : List α} {i : Int} {x : α} (h : gt xs i = some x) : 0 ≤ i ∧ ∃ h : i.toNat < xs.length, xs[i.toNat] = x := by
  unfold gt at h
  by_cases h0 : 0 ≤ i
  · simp only [h0, decide_true, cond_true] at h
    exact ⟨h0, List.getElem?_eq_some_iff.1 h⟩
  · simp [h0] at h
/-- The part from lo to hi. -/
def sl (xs : List α) (lo hi : Int) : Option (List α) := bif decide (0 ≤ lo) && decide (lo ≤ hi) && decide (hi ≤ xs.length) then some ((xs.take hi.toNat).drop lo.toNat) else none
theorem sl_some {xs ys : List α} {lo hi : Int} (h : sl xs lo hi = some ys) : 0 ≤ lo ∧ lo ≤ hi ∧ hi ≤ xs.length ∧ (xs.take hi.toNat).drop lo.toNat = ys := by
  unfold sl at h
  cases hc : (decide (0 ≤ lo) && decide (lo ≤ hi) && decide (hi ≤ xs.length)) with
  | false => rw [hc] at h; cases h
  | true =>
    rw [hc] at h
    simp only [Bool.and_eq_true, decide_eq_true_eq] at hc
    exact ⟨hc.1.1, hc.1.2, hc.2, Option.some.inj h⟩
/-- One behind the other, of a size that Go has room for. -/
def ap (xs ys : List α) : Option (List α) := bif Nat.blt (xs.length + ys.length) 4294967296 then some (xs ++ ys) else none
theorem ap_some {xs ys zs : List α} (h : ap xs ys = some zs) : xs.length + ys.length < 4294967296 ∧ xs ++ ys = zs := by
  unfold ap at h
  cases hc : Nat.blt (xs.length + ys.length) 4294967296 with
  | false => rw [hc] at h; cases h
  | true => rw [hc] at h; exact ⟨by have := Nat.le_of_ble_eq_true hc; omega, Option.some.inj h⟩
end

/-! How a piece of code ends, by name. -/
section
variable {P : Program} {l : Option Nat} {x y : Code} {a : Act} {w : World} {Q : Exit → Act → World → Prop} {i : Nat}
theorem tgn (h : G P l y a w Q) : thenG P l y Q .normal a w := h
theorem tge (h : Q (.exit i) a w) : thenG P l y Q (.exit i) a w := h
theorem tgr (h : Q .ret a w) : thenG P l y Q .ret a w := h
theorem ebn (h : Q .normal a w) : Exit.inBlock i Q .normal a w := h
theorem ebk (h : Q .normal a w) : Exit.inBlock i Q (.exit i) a w := by simpa only [Exit.inBlock, if_true] using h
theorem ebo {j : Nat} (hn : Nat.beq j i = false) (h : Q (.exit j) a w) : Exit.inBlock i Q (.exit j) a w := by
  have : ¬ j = i := fun e => by subst e; simp at hn
  simpa only [Exit.inBlock, this, if_false] using h
theorem ebr (h : Q .ret a w) : Exit.inBlock i Q .ret a w := h
def cutG (mid : Act → World → Prop) (Q : Exit → Act → World → Prop) : Exit → Act → World → Prop
  | .normal, a, w => mid a w
  | e, a, w => Q e a w
theorem G_mid (mid : Act → World → Prop) (h : G P l x a w (cutG mid Q)) (k : ∀ a' w', mid a' w' → G P l y a' w' Q) : G P l (.seq x y) a w Q :=
  G_cut mid (h.mono fun e a' w' q => by cases e <;> exact q) k
theorem G_mid1 (mid : Act → World → Prop) (h : G P l x a w (cutG mid Q)) (k : ∀ a' w', mid a' w' → Q .normal a' w') : G P l x a w Q :=
  h.mono fun e a' w' q => by cases e <;> first | exact k _ _ q | exact q
theorem ctn {mid : Act → World → Prop} (h : mid a w) : cutG mid Q .normal a w := h
theorem cte {mid : Act → World → Prop} (h : Q (.exit i) a w) : cutG mid Q (.exit i) a w := h
theorem ctr {mid : Act → World → Prop} (h : Q .ret a w) : cutG mid Q .ret a w := h
def lpG {σ ρ : Type} (I : σ → Act → World → Prop) (r : ρ) (Q : Exit → Act → World → Prop) (x : Lo σ ρ) (e : Exit) (a : Act) (w : World) : Prop :=
  match x with
  | .inl s' => e = .normal ∧ I s' a w
  | .inr r' => e ≠ .normal ∧ (r' = r → Q e a w)
theorem G_lp {c : Code} {σ ρ : Type} {f : σ → Option (Lo σ ρ)} {s : σ} {r : ρ} (hm : loopO f s = some r) (I : σ → Act → World → Prop) (h0 : I s a w)
    (round : ∀ s a w x, I s a w → f s = some x → G P l c a w (lpG I r Q x)) : G P l (.loop c) a w Q :=
  G_loop f I s r hm h0 fun s a w x h hf => (round s a w x h hf).mono fun e a' w' q => by cases x <;> exact q
theorem lpn {σ ρ : Type} {I : σ → Act → World → Prop} {r : ρ} {s' : σ} (h : I s' a w) : lpG I r Q (.inl s') .normal a w := ⟨rfl, h⟩
theorem lpe {σ ρ : Type} {I : σ → Act → World → Prop} {r r' : ρ} (h : r' = r → Q (.exit i) a w) : lpG I r Q (.inr r') (.exit i) a w := ⟨nofun, h⟩
theorem lpr {σ ρ : Type} {I : σ → Act → World → Prop} {r r' : ρ} (h : r' = r → Q .ret a w) : lpG I r Q (.inr r') .ret a w := ⟨nofun, h⟩
/-- A region, what holds behind it being named. -/
theorem G_regm {id : Nat} {os : List Oper} (mid : Act → World → Prop) (h : GL P l os.toArray os a w mid) (k : ∀ a' w', mid a' w' → Q .normal a' w') : G P l (.region id os.toArray false) a w Q :=
  wpIn_mono (wpIn_region_lit h) fun e a w q => by obtain ⟨rfl, q⟩ := q; exact k _ _ q
theorem bcase {p : Prop} {b : Bool} {v : Value} (_ : v = .bool b) (ht : b = true → p) (hf : b = false → p) : p := by cases b; exact hf rfl; exact ht rfl
end

section
variable {D : List Deferred} {n : Nat} {a : Act} {L L' : Vs}
theorem En.nil (E : En D n a L) : En D n a [] := E.weak fun _ _ h => by cases h
theorem En.ad (E' : En D n a L') (E : En D n a L) {k : Nat} {v v' : Value} (h : lk L k = some v') (e : v' = v) : En D n a ((k, v) :: L') :=
  ⟨E.size, E.defs, fun i u hi => by
    rw [lk_cons] at hi
    by_cases hk : k = i
    · rw [if_pos hk] at hi; subst hk; cases hi; subst e; exact E.get _ _ h
    · rw [if_neg hk] at hi; exact E'.get _ _ hi⟩
end

section
variable {α β : Type} {P : Program} {w : World} {s : St} {ρ : Operand → Value} {K : Kd α}
variable {d : Option Nat} {g : Option (Nat × Bool)} {t : Nat} {pos : String} {af : Array Edge} {x y z c : Operand} {v u r : Value} {k : IntKind} {T e sz B b : Nat} {κ : Tg} {xs ys : List α}

/-- A call of a named function by its contract. -/
theorem o_ok {f : FuncId} {as : List Operand} {ts : Array TypeId} {vs : List Value} {R : Value → St → Prop} (hf : ∀ args w, (callFunc f args).run P w = .ok (.enter f args) w) (hv : as.map ρ = vs)
    (hF : ρ (.func f) = .func (.func f) #[] #[]) (hc : Ok P f vs.toArray s R) : Hv P ⟨d, .call ⟨.value (.func f), as.toArray, ts⟩, t, pos, af, g⟩ ρ s R :=
  o_call hf hv hF hc

theorem At.cell {p : Addr} {x : Int} (h : At (kInt k) s p x) : s.w.cell? p = some (.int k x) := by
  obtain ⟨h1, h2, h3, cs, rfl, hc⟩ := h
  obtain ⟨b, o, sp⟩ := p
  simp only at h1; subst h1
  exact hc 0 _ rfl
theorem At.cellB {p : Addr} {x : Bool} (h : At kBool s p x) : s.w.cell? p = some (.bool x) := by
  obtain ⟨h1, h2, h3, cs, rfl, hc⟩ := h
  obtain ⟨b, o, sp⟩ := p
  simp only at h1; subst h1
  exact hc 0 _ rfl

/-- Where an element lies. -/
def IxTo (v : Value) (i : Int) (n sz b o : Nat) : Prop := ∃ o0 c, v = .slice (some ⟨b, o0, none⟩) n c ∧ o = o0 + i.toNat * sz ∧ 0 ≤ i ∧ i < n
theorem Sl.gt {i : Int} {q : α} (hs : Sl K s v xs) (hq : gt xs i = some q) : ∃ b o, IxTo v i xs.length K.sz b o ∧ At K s ⟨b, o, none⟩ q := by
  obtain ⟨h0, h1, rfl⟩ := gt_some hq
  obtain ⟨b, o, c, rfl, hat⟩ := hs.at (i := i.toNat) h1
  exact ⟨b, _, ⟨o, c, rfl, rfl, h0, by omega⟩, hat⟩
theorem o_ixg {i : Int} {m o : Nat} (hT : P.underlying T = some (.slice e)) (hz : ∀ w, (sizeOf e).run P w = .ok sz w) (h : IxTo v i m sz b o) (hx : ρ x = v) (hy : ρ y = .int k i) : OpTo P ⟨d, .indexAddr T x y, t, pos, af, g⟩ ρ w (.pointer (some ⟨b, o, none⟩)) w := by
  obtain ⟨o0, c, rfl, rfl, h0, h1⟩ := h
  refine OpTo_value (by intro c h; cases h) ?_
  simp only [execOp, hx, hy]
  exact run_v _ (run_ix hT hz h0 h1)

theorem Encs.cut {cs : List Value} {l h : Nat} (he : Encs K s xs cs) : Encs K s ((xs.take h).drop l) ((cs.take (h * K.sz)).drop (l * K.sz)) := (he.take h).drop l

theorem Sl.cut {ao : Option Addr} {m cap l h q : Nat} (hs : Sl K s (.slice ao m cap) xs) (h1 : l ≤ h) (h2 : h ≤ m) (h3 : h ≤ q) (h4 : q ≤ cap) :
    Sl K s (.slice (if q = l then ao else ao.map (·.add (l * K.sz))) (h - l) (q - l)) ((xs.take h).drop l) := by
  obtain ⟨a', c', e, hc, hn, hh⟩ := hs
  injection e with e1 e2 e3
  subst e1; subst e3; subst e2
  have hlen : ((xs.take h).drop l).length = h - l := by simp; omega
  refine ⟨_, _, by rw [hlen], by rw [hlen]; omega, fun h0 => ?_, ?_⟩
  · by_cases hq : q = l
    · omega
    · rw [if_neg hq] at h0
      cases ao with
      | none => have := hn rfl; omega
      | some a => cases h0
  rcases hh with rfl | ⟨b, o, cs, rfl, hm, hb, he, hx⟩
  · left; simp
  · by_cases hq : q = l
    · left
      have : h = l := by omega
      subst this
      simp
    · right
      rw [if_neg hq]
      refine ⟨b, o + l * K.sz, _, by simp [add_none], hm, hb, he.cut (l := l) (h := h), fun j u hu => ?_⟩
      rw [List.getElem?_drop] at hu
      rw [List.getElem?_take] at hu
      split at hu
      · have := hx _ _ hu
        rwa [← Nat.add_assoc] at this
      · cases hu

/-- A part of a slice. -/
def CutTo (v : Value) (l h : Int) (n sz : Nat) (u : Value) : Prop := ∃ ao cap, v = .slice ao n cap ∧ u = .slice (if cap = l.toNat then ao else ao.map (·.add (l.toNat * sz))) (h.toNat - l.toNat) (cap - l.toNat) ∧ 0 ≤ l ∧ l ≤ h ∧ h ≤ n ∧ n ≤ cap
theorem Sl.sl {l h : Int} {ys : List α} (hs : Sl K s v xs) (hy : sl xs l h = some ys) : ∃ u, CutTo v l h xs.length K.sz u ∧ Sl K s u ys := by
  obtain ⟨h0, h1, h2, rfl⟩ := sl_some hy
  have hs0 := hs
  obtain ⟨ao, cap, rfl, hc, _, _⟩ := hs0
  exact ⟨_, ⟨ao, cap, rfl, rfl, h0, h1, h2, hc⟩, hs.cut (l := l.toNat) (h := h.toNat) (q := cap) (by omega) (by omega) (by omega) (Nat.le_refl _)⟩
theorem run_cut {lo hi : Option Value} {l h : Int} {kl kh : IntKind} {m : Nat} (hT : P.underlying T = some (.slice e)) (hz : ∀ w, (sizeOf e).run P w = .ok sz w) (hc : CutTo v l h m sz u)
    (hlo : lo = none ∧ l = 0 ∨ lo = some (.int kl l)) (hhi : hi = none ∧ h = m ∨ hi = some (.int kh h)) : (Instr.sliceAt T v lo hi none).run P w = .ok u w := by
  obtain ⟨ao, cap, rfl, rfl, h0, h1, h2, hc⟩ := hc
  have eh : (h.toNat : Int) = h := Int.toNat_of_nonneg (by omega)
  have e1 : (Instr.sliceBounds true m cap lo hi none).run P w = .ok (l.toNat, h.toNat, cap) w := by
    rcases hlo with ⟨rfl, rfl⟩ | rfl <;> rcases hhi with ⟨rfl, rfl⟩ | rfl
    · simp [Instr.sliceBounds, Sem.run_bind, Result.andThen]
    · have : h ≤ (cap : Int) := by omega
      simp [Instr.sliceBounds, Sem.run_bind, Result.andThen, run_sliceBound, *]
    · simp [Instr.sliceBounds, Sem.run_bind, Result.andThen, run_sliceBound, *]
    · have : h ≤ (cap : Int) := by omega
      have : 0 ≤ h := by omega
      simp [Instr.sliceBounds, Sem.run_bind, Result.andThen, run_sliceBound, *]
  simp only [Instr.sliceAt, Instr.slice, Sem.run_bind, run_underlying hT, Result.andThen, e1, hz]
  rfl
theorem o_slLH {l h : Int} {kl kh : IntKind} {lo hi : Operand} {m : Nat} (hT : P.underlying T = some (.slice e)) (hz : ∀ w, (sizeOf e).run P w = .ok sz w) (hc : CutTo v l h m sz u) (hx : ρ x = v) (hl : ρ lo = .int kl l) (hh : ρ hi = .int kh h) :
    OpTo P ⟨d, .slice T x (some lo) (some hi) none, t, pos, af, g⟩ ρ w u w :=
  OpTo_value (by intro c h; cases h) (by simp only [execOp, hx, Option.map_some, Option.map_none, hl, hh]; exact run_v _ (run_cut hT hz hc (.inr rfl) (.inr rfl)))
theorem o_slL {l : Int} {kl : IntKind} {lo : Operand} {m : Nat} (hT : P.underlying T = some (.slice e)) (hz : ∀ w, (sizeOf e).run P w = .ok sz w) (hc : CutTo v l m m sz u) (hx : ρ x = v) (hl : ρ lo = .int kl l) :
    OpTo P ⟨d, .slice T x (some lo) none none, t, pos, af, g⟩ ρ w u w :=
  OpTo_value (by intro c h; cases h) (by simp only [execOp, hx, Option.map_some, Option.map_none, hl]; exact run_v _ (run_cut (kh := .i64) hT hz hc (.inr rfl) (.inl ⟨rfl, rfl⟩)))
theorem o_slH {h : Int} {kh : IntKind} {hi : Operand} {m : Nat} (hT : P.underlying T = some (.slice e)) (hz : ∀ w, (sizeOf e).run P w = .ok sz w) (hc : CutTo v 0 h m sz u) (hx : ρ x = v) (hh : ρ hi = .int kh h) :
    OpTo P ⟨d, .slice T x none (some hi) none, t, pos, af, g⟩ ρ w u w :=
  OpTo_value (by intro c h; cases h) (by simp only [execOp, hx, Option.map_some, Option.map_none, hh]; exact run_v _ (run_cut (kl := .i64) hT hz hc (.inl ⟨rfl, rfl⟩) (.inr rfl)))

/-- A struct's literal. -/
theorem o_bd {parts : Array (Nat × Operand)} {fs : Array Field} {places : Array (Nat × Nat)} {z : Value} {qs : Array (Nat × Value)} {cells : Array Value} (hz : ∀ w, (zeroValue T).run P w = .ok z w) (hT : P.underlying T = some (.struct fs))
    (hp : ∀ w, (fs.mapM fun f => (do pure (f.offset, ← sizeOf f.type) : Sem (Nat × Nat))).run P w = .ok places w) (hq : (parts.map fun (i, x) => (i, ρ x)) = qs) (hf : Instr.fill (places[·]?) z.cells qs.toList = some cells) :
    OpTo P ⟨d, .build T parts, t, pos, af, g⟩ ρ w (.agg cells) w :=
  OpTo_value (by intro c h; cases h) (by
    simp only [execOp, hq]
    refine run_v _ ?_
    simp only [Instr.build, Sem.run_bind, hz, Result.andThen, run_underlying hT, hp, hf]
    rfl)
/-- .. an array's. -/
theorem o_bda {parts : Array (Nat × Operand)} {m : Nat} {z : Value} {qs : Array (Nat × Value)} {cells : Array Value} (hz : ∀ w, (zeroValue T).run P w = .ok z w) (hT : P.underlying T = some (.array m e))
    (hs : ∀ w, (sizeOf e).run P w = .ok sz w) (hq : (parts.map fun (i, x) => (i, ρ x)) = qs) (hf : Instr.fill (fun i => some (i * sz, sz)) z.cells qs.toList = some cells) :
    OpTo P ⟨d, .build T parts, t, pos, af, g⟩ ρ w (.agg cells) w :=
  OpTo_value (by intro c h; cases h) (by
    simp only [execOp, hq]
    refine run_v _ ?_
    simp only [Instr.build, Sem.run_bind, hz, Result.andThen, run_underlying hT, hs, hf]
    rfl)

/-- A whole block's load. -/
theorem o_ldc {cs : Array Value} (hT : ∀ w, (isAgg T).run P w = .ok true w) (hz : ∀ w, (sizeOf T).run P w = .ok cs.size w) (hx : ρ x = .pointer (some ⟨b, 0, none⟩)) (hc : ∀ j, w.cell? ⟨b, j, none⟩ = cs[j]?) :
    OpTo P ⟨d, .load T x, t, pos, af, g⟩ ρ w (.agg cs) w := by
  have := o_lda (P := P) (w := w) (ρ := ρ) (d := d) (g := g) (t := t) (pos := pos) (af := af) (x := x) (b := b) (o := 0) cs.toList hT hz hx (by simp) (fun j u hu => by rw [Nat.zero_add, hc]; simpa using hu)
  simpa using this
/-- A result that lies in a block. -/
theorem rv_cell {L : Vs} {a : Nat} {cs : Array Value} (hp : lk L a = some (.pointer (some ⟨b, 0, none⟩))) (hT : ∀ w, (isAgg T).run P w = .ok true w) (hz : ∀ w, (sizeOf T).run P w = .ok cs.size w) (hc : ∀ j, w.cell? ⟨b, j, none⟩ = cs[j]?) :
    rv1 P L w (.cell a T) (.agg cs) := by
  refine ⟨_, hp, ?_⟩
  have hl' := run_loadCells_list (P := P) (w := w) ⟨b, 0, none⟩ cs.toList (fun j u hu => by rw [add_none, Nat.zero_add, hc]; simpa using hu)
  simp only [Array.length_toList] at hl'
  simp only [loadVar, Sem.run_bind, hT, Result.andThen, if_true, hz, hl']
  simp
theorem rv_cell1 {L : Vs} {a : Nat} (hp : lk L a = some (.pointer (some ⟨b, 0, none⟩))) (hT : ∀ w, (isAgg T).run P w = .ok false w) (hc : w.cell? ⟨b, 0, none⟩ = some v) :
    rv1 P L w (.cell a T) v := by
  refine ⟨_, hp, ?_⟩
  simp only [loadVar, Sem.run_bind, hT, Result.andThen, Bool.false_eq_true, if_false, load, Sem.run, hc]
end

section
variable {P : Program} {ops : Array Oper} {Q : Act → World → Prop} {bm : Array Nat} {R hs rs : List Nat} {a : Act} {s : St}
theorem DR.mono {ka : Nat} {Q' : Act → World → Prop} (k : ∀ a' w', Q a' w' → Q' a' w') : ∀ {R hs rs fs : List Nat} {a : Act} {s : St}, DR P ops bm ka Q R hs rs fs a s → DR P ops bm ka Q' R hs rs fs a s
  | [], _, _, _, _, _, h => k _ _ h
  | i :: R, hs, rs, fs, a, s, ⟨o, ho, h⟩ => by
    refine ⟨o, ho, ?_⟩
    rcases h with ⟨hw, h⟩ | ⟨hw, v, hv, h⟩ | ⟨hw, v, hv, hb, h⟩ | ⟨hw, Z, hv, hb, h⟩ | ⟨hw, Z, hv, hb, h⟩ | ⟨hw, T, z, hv, hz, hb, h⟩ | ⟨hw, v, hv, hb, h⟩ | ⟨hw, Z, q, hv, hq, hb, hr2, h⟩
    · exact .inl ⟨hw, h.mono k⟩
    · exact .inr (.inl ⟨hw, v, hv, h.mono k⟩)
    · exact .inr (.inr (.inl ⟨hw, v, hv, hb, h.mono k⟩))
    · exact .inr (.inr (.inr (.inl ⟨hw, Z, hv, hb, fun v s1 z => ⟨(h v s1 z).1, (h v s1 z).2.mono k⟩⟩)))
    · exact .inr (.inr (.inr (.inr (.inl ⟨hw, Z, hv, hb, fun v s1 z t => (h v s1 z t).mono k⟩))))
    · exact .inr (.inr (.inr (.inr (.inr (.inl ⟨hw, T, z, hv, hz, hb, fun v s1 z t => (h v s1 z t).mono k⟩)))))
    · exact .inr (.inr (.inr (.inr (.inr (.inr (.inl ⟨hw, v, hv, hb, h.mono k⟩))))))
    · exact .inr (.inr (.inr (.inr (.inr (.inr (.inr ⟨hw, Z, q, hv, hq, hb, hr2, fun v s1 z t => (h v s1 z t).mono k⟩))))))
theorem G_drwm (ka : Nat) {l : Option Nat} {id : Nat} {Q' : Exit → Act → World → Prop} (hm : P.follows .mixedOrders = true) (R : List Nat) (hok : (okD ops (Region.before ops) && okR ops (Region.before ops) R) = true) (mid : Act → World → Prop)
    (h : ∀ s', Tr No s s' → GD P ops (Region.before ops) ka R [] [] [] a s' mid) (k : ∀ a' w', mid a' w' → Q' .normal a' w') : G P l (.region id ops true) a s.w Q' :=
  G_drw ka hm R hok fun s' t => DR.mono k (h s' t)
end

section
variable {α β : Type} {s s' : St} {K : Kd α} {p : Addr} {x : α} {q : Tg → Prop}
/-- A cell beside what stays, later. -/
theorem At.ck (h : At K s p x) (t : Tr q s s') {j : Nat} {u : Value} (hc : s.w.cell? ⟨p.block, j, none⟩ = some u) : s'.w.cell? ⟨p.block, j, none⟩ = some u := by
  obtain ⟨h1, h2, h3, _⟩ := h
  exact (World.cell?_of_block (a := ⟨p.block, j, none⟩) (t.stay _ h3 h2).2).trans hc
end

section
variable {α : Type} {P : Program} {w : World} {s : St} {ρ : Operand → Value} {K : Kd α}
variable {d : Option Nat} {g : Option (Nat × Bool)} {t : Nat} {pos : String} {af : Array Edge} {x : Operand} {u v : Value} {T e sz B b o : Nat}
theorem o_ld2 (hT : ∀ w, (isAgg T).run P w = .ok true w) (hz : ∀ w, (sizeOf T).run P w = .ok 2 w) (hx : ρ x = .pointer (some ⟨b, o, none⟩)) (c0 : w.cell? ⟨b, o, none⟩ = some u) (c1 : w.cell? ⟨b, o + 1, none⟩ = some v) :
    OpTo P ⟨d, .load T x, t, pos, af, g⟩ ρ w (.agg #[u, v]) w :=
  o_lda [u, v] hT hz hx rfl fun j z hj => by
    match j with
    | 0 => simp at hj; subst hj; exact c0
    | 1 => simp at hj; subst hj; exact c1
    | j + 2 => simp at hj
theorem o_bs0 (κ : Tg) (hT : P.underlying T = some (.slice e)) (hs : ∀ w, (sizeOf e).run P w = .ok K.sz w) (hB : B ≤ s.w.heap.size) :
    Hv P ⟨d, .buildSlice T 0 #[], t, pos, af, g⟩ ρ s fun v s' => Bd κ K e B s' v [] ∧ Tr No s s' :=
  hvo (s.new (.cells #[] e) κ) (OpTo_value (by intro c h; cases h) (by
    simp only [execOp]
    refine run_v' (v := .slice (some ⟨s.w.heap.size, 0, none⟩) 0 0) _ ?_
    simp [Instr.buildSlice, Sem.run_bind, run_underlying hT, Result.andThen, hs, newRow, newObj, Sem.run, Instr.fill, St.new, Array.range_zero'])) ⟨(Own.new s #[] e κ).bd hB rfl rfl rfl, Tr.new s _ κ⟩
end

section
variable {P : Program} {w : World} {ρ : Operand → Value} {d : Option Nat} {g : Option (Nat × Bool)} {t : Nat} {pos : String} {af : Array Edge} {x y : Operand} {k k' : IntKind} {ty ty' : TypeId} {i j : Int}
theorem o_quo (hx : ρ x = .int k i) (hy : ρ y = .int k j) (hj : (j == 0) = false) : OpTo P ⟨d, .binOp .quo ty x y ty', t, pos, af, g⟩ ρ w (.int k (k.wrap (Int.tdiv i j))) w := o_dv hx hy hj rfl
theorem o_rem (hx : ρ x = .int k i) (hy : ρ y = .int k j) (hj : (j == 0) = false) : OpTo P ⟨d, .binOp .rem ty x y ty', t, pos, af, g⟩ ρ w (.int k (Int.tmod i j)) w := o_dv hx hy hj rfl
theorem o_shl (hx : ρ x = .int k i) (hy : ρ y = .int k' j) (hj : decide (j < 0) = false) : OpTo P ⟨d, .binOp .shl ty x y ty', t, pos, af, g⟩ ρ w (.int k (k.wrap (i * 2 ^ min (Int.toNat j) k.bits))) w := o_sh hx hy hj rfl
theorem o_shr (hx : ρ x = .int k i) (hy : ρ y = .int k' j) (hj : decide (j < 0) = false) : OpTo P ⟨d, .binOp .shr ty x y ty', t, pos, af, g⟩ ρ w (.int k (Int.fdiv i (2 ^ min (Int.toNat j) k.bits))) w := o_sh hx hy hj rfl
end
theorem hv_swap {P : Program} {o : Oper} {ρ : Operand → Value} {s : St} {Z : Value → St → Prop} (h : Hv P o ρ s fun v s1 => Tr No s s1 ∧ Z v s1) : Hv P o ρ s fun v s1 => Z v s1 ∧ Tr No s s1 :=
  OpW.mono h fun _ _ ⟨s1, e, t, z⟩ => ⟨s1, e, z, t⟩
end Go.Proofs.Ytdkfdmalbbfbmaa
