/- Calls, ends of functions, what a model says, and more operations. No project text. -/
import Derived.Test.YtdkfdmalbbfbmaaGreatMWL3
import Derived.Laws.Slices
import Derived.RangeFuncRecord
/- Calls, ends of functions, what a model says, and more operations. No project text. -/
namespace Go.Proofs.YtdkfdmalbbfbmaaGreat
open Go

/-- The call of f comes back, in some state, as R says. -/
def Rs (R : Value → St → Prop) : Value → World → Prop := fun v w => ∃ s, w = s.w ∧ R v s
def Ok (P : Program) (f : FuncId) (args : Array Value) (s : St) (R : Value → St → Prop) : Prop := Calls P f args s.w fun e w' => ∃ v, e = .returned v ∧ Rs R v w'

section
variable {P : Program} {f : FuncId} {fn : Func} {c : Code} {s : St} {R : Value → St → Prop} {n : Nat} {a : Act} {L : Vs} {D : List Deferred}

theorem Ok.mono {args : Array Value} {R' : Value → St → Prop} (h : Ok P f args s R) (k : ∀ v s', R v s' → R' v s') : Ok P f args s R' :=
  Calls.mono h fun _ _ ⟨v, e, s', hw, r⟩ => ⟨v, e, s', hw, k v s' r⟩

/-- A function's body is gone through. -/
theorem ok_of (args : List Value) (hf : P.funcs[f]? = some fn) (hb : fn.body = some c) (L : Vs) (hn : args.length + (fn.ntmps - args.length) = n) (hL : (args.zipIdx.map fun (v, i) => (i, v)) = L)
    (h : ∀ a, En [] n a L → G P none c a s.w (fnPost P fn (Rs R))) : Ok P f args.toArray s R := by
  have E := En.start args.toArray (fn.ntmps - args.length)
  simp only [List.size_toArray, hn] at E
  have e2 : (args.toArray.toList.zipIdx.map fun (v, i) => (i, v)) = L := by simpa using hL
  rw [e2] at E
  exact Calls_of_G (args := args.toArray) (R := Rs R) hf hb (h _ (by simpa using E))

/-- A result. -/
def rv1 (P : Program) (L : Vs) (w : World) : ResultVar → Value → Prop
  | .tmp t, v => lk L t = some v
  | .cell a t, v => ∃ p, lk L a = some (.pointer (some p)) ∧ (loadVar t p).run P w = .ok v w

def rvR (tmps : Array Value) : ResultVar → Sem Value
  | .tmp t => pure (tmps.getD t undef)
  | .cell a t => do loadVar t (← asAddr (tmps.getD a undef))
theorem results_eq (fn : Func) (tmps : Array Value) : results fn tmps = (do let vs ← fn.results.mapM (rvR tmps); pure (if h : vs.size = 1 then vs[0] else .tuple vs)) := by
  unfold results
  congr 1
theorem rv1_run (E : En D n a L) {w : World} {r : ResultVar} {v : Value} (h : rv1 P L w r v) : (rvR a.tmps r).run P w = .ok v w := by
  cases r with
  | tmp t =>
    have := E.get t v h
    simp [rvR, this]
  | cell x t =>
    obtain ⟨p, h1, h2⟩ := h
    have := E.get x _ h1
    simp only [rvR, Array.getD_eq_getD_getElem?, this, Option.getD_some, asAddr, Sem.run_bind, Sem.run_pure, Result.andThen, h2]

theorem fin0 (E : En [] n a L) (hr : fn.results = #[]) (h : R (.tuple #[]) s) : fnPost P fn (Rs R) .ret a s.w :=
  ⟨E.defs, .tuple #[], results_none hr _ _ _, s, rfl, h⟩
theorem fin1 (E : En [] n a L) {r : ResultVar} {v : Value} (hr : fn.results = #[r]) (h1 : rv1 P L s.w r v) (h : R v s) : fnPost P fn (Rs R) .ret a s.w :=
  ⟨E.defs, v, by
    have e1 := rv1_run E h1
    simp [results_eq, hr, e1, Sem.run_bind, Result.andThen], s, rfl, h⟩
theorem fin2 (E : En [] n a L) {r r' : ResultVar} {v v' : Value} (hr : fn.results = #[r, r']) (h1 : rv1 P L s.w r v) (h2 : rv1 P L s.w r' v') (h : R (.tuple #[v, v']) s) : fnPost P fn (Rs R) .ret a s.w :=
  ⟨E.defs, _, by
    have e1 := rv1_run E h1
    have e2 := rv1_run E h2
    simp [results_eq, hr, e1, e2, Sem.run_bind, Result.andThen], s, rfl, h⟩
theorem fin3 (E : En [] n a L) {r r' r'' : ResultVar} {v v' v'' : Value} (hr : fn.results = #[r, r', r'']) (h1 : rv1 P L s.w r v) (h2 : rv1 P L s.w r' v') (h3 : rv1 P L s.w r'' v'') (h : R (.tuple #[v, v', v'']) s) : fnPost P fn (Rs R) .ret a s.w :=
  ⟨E.defs, _, by
    have e1 := rv1_run E h1
    have e2 := rv1_run E h2
    have e3 := rv1_run E h3
    simp [results_eq, hr, e1, e2, e3, Sem.run_bind, Result.andThen], s, rfl, h⟩
end

/-! What a model says. -/
/-- Then. -/
def ob {α β : Type} (x : Option α) (f : α → Option β) : Option β := match x with | none => none | some a => f a
section
variable {α β : Type} {x : Option α} {f : α → Option β} {y : β} {t : Bool} {A B : Option β}
theorem ob_some (h : ob x f = some y) : ∃ a, x = some a ∧ f a = some y := by
  cases x with
  | none => cases h
  | some a => exact ⟨a, rfl, h⟩
theorem cT (ht : t = true) (h : (bif t then A else B) = some y) : A = some y := by rw [ht] at h; exact h
theorem cF (ht : t = false) (h : (bif t then A else B) = some y) : B = some y := by rw [ht] at h; exact h
/-- Only if. -/
def gd (t : Bool) (A : Option β) : Option β := bif t then A else none
theorem gd_some (h : gd t A = some y) : t = true ∧ A = some y := by
  cases t
  · cases h
  · exact ⟨rfl, h⟩
/-- The element at i. -/
def gt (xs : List α) (i : Int) : Option α := bif decide (0 ≤ i) then xs[i.toNat]? else none
theorem gt_some {xs : List α} {i : Int} {x : α} (h : gt xs i = some x) : 0 ≤ i ∧ ∃ h : i.toNat < xs.length, xs[i.toNat] = x := by
  unfold gt at h
  by_cases h0 : 0 ≤ i
  · simp only [h0, decide_true, cond_true] at h
    exact ⟨h0, List.getElem?_eq_some_iff.1 h⟩
  · simp [h0] at h
/-- The part from lo to hi. -/
def sl (xs : List α) (lo hi : Int) : Option (List α) := bif decide (0 ≤ lo) && decide (lo ≤ hi) && decide (hi ≤ xs.length) then some ((xs.take hi.toNat).drop lo.toNat) else none
theorem sl_some {xs ys : List α} {lo hi : Int} (h : sl xs lo hi = some ys) : 0 ≤ lo ∧ lo ≤ hi ∧ hi ≤ xs.length ∧ (xs.take hi.toNat).drop lo.toNat = ys := by
  unfold sl at h
  cases hc : (decide (0 ≤ lo) && decide (lo ≤ hi) && decide (hi ≤ xs.length)) with
  | false => rw [hc] at h; cases h
  | true =>
    rw [hc] at h
    simp only [Bool.and_eq_true, decide_eq_true_eq] at hc
    exact ⟨hc.1.1, hc.1.2, hc.2, Option.some.inj h⟩
/-- One behind the other, of a size that Go has room for. -/
def ap (xs ys : List α) : Option (List α) := bif Nat.blt (xs.length + ys.length) 4294967296 then some (xs ++ ys) else none
theorem ap_some {xs ys zs : List α} (h : ap xs ys = some zs) : xs.length + ys.length < 4294967296 ∧ xs ++ ys = zs := by
  unfold ap at h
  cases hc : Nat.blt (xs.length + ys.length) 4294967296 with
  | false => rw [hc] at h; cases h
  | true => rw [hc] at h; exact ⟨by have := Nat.le_of_ble_eq_true hc; omega, Option.some.inj h⟩
end

/-! How a piece of code ends, by name. -/
section
variable {P : Program} {l : Option Nat} {x y : Code} {a : Act} {w : World} {Q : Exit → Act → World → Prop} {i : Nat}
theorem tgn (h : G P l y a w Q) : thenG P l y Q .normal a w := h
theorem tge (h : Q (.exit i) a w) : thenG P l y Q (.exit i) a w := h
theorem tgr (h : Q .ret a w) : thenG P l y Q .ret a w := h
theorem ebn (h : Q .normal a w) : Exit.inBlock i Q .normal a w := h
theorem ebk (h : Q .normal a w) : Exit.inBlock i Q (.exit i) a w := by simpa only [Exit.inBlock, if_true] using h
theorem ebo {j : Nat} (hn : Nat.beq j i = false) (h : Q (.exit j) a w) : Exit.inBlock i Q (.exit j) a w := by
  have : ¬ j = i := fun e => by subst e; simp at hn
  simpa only [Exit.inBlock, this, if_false] using h
theorem ebr (h : Q .ret a w) : Exit.inBlock i Q .ret a w := h
def cutG (mid : Act → World → Prop) (Q : Exit → Act → World → Prop) : Exit → Act → World → Prop
  | .normal, a, w => mid a w
  | e, a, w => Q e a w
theorem G_mid (mid : Act → World → Prop) (h : G P l x a w (cutG mid Q)) (k : ∀ a' w', mid a' w' → G P l y a' w' Q) : G P l (.seq x y) a w Q :=
  G_cut mid (h.mono fun e a' w' q => by cases e <;> exact q) k
theorem G_mid1 (mid : Act → World → Prop) (h : G P l x a w (cutG mid Q)) (k : ∀ a' w', mid a' w' → Q .normal a' w') : G P l x a w Q :=
  h.mono fun e a' w' q => by cases e <;> first | exact k _ _ q | exact q
theorem ctn {mid : Act → World → Prop} (h : mid a w) : cutG mid Q .normal a w := h
theorem cte {mid : Act → World → Prop} (h : Q (.exit i) a w) : cutG mid Q (.exit i) a w := h
theorem ctr {mid : Act → World → Prop} (h : Q .ret a w) : cutG mid Q .ret a w := h
def lpG {σ ρ : Type} (I : σ → Act → World → Prop) (r : ρ) (Q : Exit → Act → World → Prop) (x : Lo σ ρ) (e : Exit) (a : Act) (w : World) : Prop :=
  match x with
  | .inl s' => e = .normal ∧ I s' a w
  | .inr r' => e ≠ .normal ∧ (r' = r → Q e a w)
theorem G_lp {c : Code} {σ ρ : Type} {f : σ → Option (Lo σ ρ)} {s : σ} {r : ρ} (hm : loopO f s = some r) (I : σ → Act → World → Prop) (h0 : I s a w)
    (round : ∀ s a w x, I s a w → f s = some x → G P l c a w (lpG I r Q x)) : G P l (.loop c) a w Q :=
  G_loop f I s r hm h0 fun s a w x h hf => (round s a w x h hf).mono fun e a' w' q => by cases x <;> exact q
theorem lpn {σ ρ : Type} {I : σ → Act → World → Prop} {r : ρ} {s' : σ} (h : I s' a w) : lpG I r Q (.inl s') .normal a w := ⟨rfl, h⟩
theorem lpe {σ ρ : Type} {I : σ → Act → World → Prop} {r r' : ρ} (h : r' = r → Q (.exit i) a w) : lpG I r Q (.inr r') (.exit i) a w := ⟨nofun, h⟩
theorem lpr {σ ρ : Type} {I : σ → Act → World → Prop} {r r' : ρ} (h : r' = r → Q .ret a w) : lpG I r Q (.inr r') .ret a w := ⟨nofun, h⟩
/-- A region, what holds behind it being named. -/
theorem G_regm {id : Nat} {os : List Oper} (mid : Act → World → Prop) (h : GL P l os.toArray os a w mid) (k : ∀ a' w', mid a' w' → Q .normal a' w') : G P l (.region id os.toArray false) a w Q :=
  wpIn_mono (wpIn_region_lit h) fun e a w q => by obtain ⟨rfl, q⟩ := q; exact k _ _ q
theorem bcase {p : Prop} {b : Bool} {v : Value} (_ : v = .bool b) (ht : b = true → p) (hf : b = false → p) : p := by cases b; exact hf rfl; exact ht rfl
end

section
variable {D : List Deferred} {n : Nat} {a : Act} {L L' : Vs}
theorem En.nil (E : En D n a L) : En D n a [] := E.weak fun _ _ h => by cases h
theorem En.ad (E' : En D n a L') (E : En D n a L) {k : Nat} {v v' : Value} (h : lk L k = some v') (e : v' = v) : En D n a ((k, v) :: L') :=
  ⟨E.size, E.defs, fun i u hi => by
    rw [lk_cons] at hi
    by_cases hk : k = i
    · rw [if_pos hk] at hi; subst hk; cases hi; subst e; exact E.get _ _ h
    · rw [if_neg hk] at hi; exact E'.get _ _ hi⟩
end

section
variable {α β : Type} {P : Program} {w : World} {s : St} {ρ : Operand → Value} {K : Kd α}
variable {d : Option Nat} {g : Option (Nat × Bool)} {t : Nat} {pos : String} {af : Array Edge} {x y z c : Operand} {v u r : Value} {k : IntKind} {T e sz B b : Nat} {κ : Tg} {xs ys : List α}

/-- A call of a named function by its contract. -/
theorem o_ok {f : FuncId} {as : List Operand} {ts : Array TypeId} {vs : List Value} {R : Value → St → Prop} (hf : ∀ args w, (callFunc f args).run P w = .ok (.enter f args) w) (hv : as.map ρ = vs)
    (hF : ρ (.func f) = .func (.func f) #[] #[]) (hc : Ok P f vs.toArray s R) : Hv P ⟨d, .call ⟨.value (.func f), as.toArray, ts⟩, t, pos, af, g⟩ ρ s R :=
  o_call hf hv hF hc

theorem At.cell {p : Addr} {x : Int} (h : At (kInt k) s p x) : s.w.cell? p = some (.int k x) := by
  obtain ⟨h1, h2, h3, cs, rfl, hc⟩ := h
  obtain ⟨b, o, sp⟩ := p
  simp only at h1; subst h1
  exact hc 0 _ rfl
theorem At.cellB {p : Addr} {x : Bool} (h : At kBool s p x) : s.w.cell? p = some (.bool x) := by
  obtain ⟨h1, h2, h3, cs, rfl, hc⟩ := h
  obtain ⟨b, o, sp⟩ := p
  simp only at h1; subst h1
  exact hc 0 _ rfl

/-- Where an element lies. -/
def IxTo (v : Value) (i : Int) (n sz b o : Nat) : Prop := ∃ o0 c, v = .slice (some ⟨b, o0, none⟩) n c ∧ o = o0 + i.toNat * sz ∧ 0 ≤ i ∧ i < n
theorem Sl.gt {i : Int} {q : α} (hs : Sl K s v xs) (hq : gt xs i = some q) : ∃ b o, IxTo v i xs.length K.sz b o ∧ At K s ⟨b, o, none⟩ q := by
  obtain ⟨h0, h1, rfl⟩ := gt_some hq
  obtain ⟨b, o, c, rfl, hat⟩ := hs.at (i := i.toNat) h1
  exact ⟨b, _, ⟨o, c, rfl, rfl, h0, by omega⟩, hat⟩
theorem o_ixg {i : Int} {m o : Nat} (hT : P.underlying T = some (.slice e)) (hz : ∀ w, (sizeOf e).run P w = .ok sz w) (h : IxTo v i m sz b o) (hx : ρ x = v) (hy : ρ y = .int k i) : OpTo P ⟨d, .indexAddr T x y, t, pos, af, g⟩ ρ w (.pointer (some ⟨b, o, none⟩)) w := by
  obtain ⟨o0, c, rfl, rfl, h0, h1⟩ := h
  refine OpTo_value (by intro c h; cases h) ?_
  simp only [execOp, hx, hy]
  exact run_v _ (run_ix hT hz h0 h1)

theorem Encs.cut {cs : List Value} {l h : Nat} (he : Encs K s xs cs) : Encs K s ((xs.take h).drop l) ((cs.take (h * K.sz)).drop (l * K.sz)) := (he.take h).drop l

theorem Sl.cut {ao : Option Addr} {m cap l h q : Nat} (hs : Sl K s (.slice ao m cap) xs) (h1 : l ≤ h) (h2 : h ≤ m) (h3 : h ≤ q) (h4 : q ≤ cap) :
    Sl K s (.slice (if q = l then ao else ao.map (·.add (l * K.sz))) (h - l) (q - l)) ((xs.take h).drop l) := by
  obtain ⟨a', c', e, hc, hn, hh⟩ := hs
  injection e with e1 e2 e3
  subst e1; subst e3; subst e2
  have hlen : ((xs.take h).drop l).length = h - l := by simp; omega
  refine ⟨_, _, by rw [hlen], by rw [hlen]; omega, fun h0 => ?_, ?_⟩
  · by_cases hq : q = l
    · omega
    · rw [if_neg hq] at h0
      cases ao with
      | none => have := hn rfl; omega
      | some a => cases h0
  rcases hh with rfl | ⟨b, o, cs, rfl, hm, hb, he, hx⟩
  · left; simp
  · by_cases hq : q = l
    · left
      have : h = l := by omega
      subst this
      simp
    · right
      rw [if_neg hq]
      refine ⟨b, o + l * K.sz, _, by simp [add_none], hm, hb, he.cut (l := l) (h := h), fun j u hu => ?_⟩
      rw [List.getElem?_drop] at hu
      rw [List.getElem?_take] at hu
      split at hu
      · have := hx _ _ hu
        rwa [← Nat.add_assoc] at this
      · cases hu

/-- A part of a slice. -/
def CutTo (v : Value) (l h : Int) (n sz : Nat) (u : Value) : Prop := ∃ ao cap, v = .slice ao n cap ∧ u = .slice (if cap = l.toNat then ao else ao.map (·.add (l.toNat * sz))) (h.toNat - l.toNat) (cap - l.toNat) ∧ 0 ≤ l ∧ l ≤ h ∧ h ≤ n ∧ n ≤ cap
theorem Sl.sl {l h : Int} {ys : List α} (hs : Sl K s v xs) (hy : sl xs l h = some ys) : ∃ u, CutTo v l h xs.length K.sz u ∧ Sl K s u ys := by
  obtain ⟨h0, h1, h2, rfl⟩ := sl_some hy
  have hs0 := hs
  obtain ⟨ao, cap, rfl, hc, _, _⟩ := hs0
  exact ⟨_, ⟨ao, cap, rfl, rfl, h0, h1, h2, hc⟩, hs.cut (l := l.toNat) (h := h.toNat) (q := cap) (by omega) (by omega) (by omega) (Nat.le_refl _)⟩
theorem run_cut {lo hi : Option Value} {l h : Int} {kl kh : IntKind} {m : Nat} (hT : P.underlying T = some (.slice e)) (hz : ∀ w, (sizeOf e).run P w = .ok sz w) (hc : CutTo v l h m sz u)
    (hlo : lo = none ∧ l = 0 ∨ lo = some (.int kl l)) (hhi : hi = none ∧ h = m ∨ hi = some (.int kh h)) : (Instr.sliceAt T v lo hi none).run P w = .ok u w := by
  obtain ⟨ao, cap, rfl, rfl, h0, h1, h2, hc⟩ := hc
  have eh : (h.toNat : Int) = h := Int.toNat_of_nonneg (by omega)
  have e1 : (Instr.sliceBounds true m cap lo hi none).run P w = .ok (l.toNat, h.toNat, cap) w := by
    rcases hlo with ⟨rfl, rfl⟩ | rfl <;> rcases hhi with ⟨rfl, rfl⟩ | rfl
    · simp [Instr.sliceBounds, Sem.run_bind, Result.andThen]
    · have : h ≤ (cap : Int) := by omega
      simp [Instr.sliceBounds, Sem.run_bind, Result.andThen, run_sliceBound, *]
    · simp [Instr.sliceBounds, Sem.run_bind, Result.andThen, run_sliceBound, *]
    · have : h ≤ (cap : Int) := by omega
      have : 0 ≤ h := by omega
      simp [Instr.sliceBounds, Sem.run_bind, Result.andThen, run_sliceBound, *]
  simp only [Instr.sliceAt, Instr.slice, Sem.run_bind, run_underlying hT, Result.andThen, e1, hz]
  rfl
theorem o_slLH {l h : Int} {kl kh : IntKind} {lo hi : Operand} {m : Nat} (hT : P.underlying T = some (.slice e)) (hz : ∀ w, (sizeOf e).run P w = .ok sz w) (hc : CutTo v l h m sz u) (hx : ρ x = v) (hl : ρ lo = .int kl l) (hh : ρ hi = .int kh h) :
    OpTo P ⟨d, .slice T x (some lo) (some hi) none, t, pos, af, g⟩ ρ w u w :=
  OpTo_value (by intro c h; cases h) (by simp only [execOp, hx, Option.map_some, Option.map_none, hl, hh]; exact run_v _ (run_cut hT hz hc (.inr rfl) (.inr rfl)))
theorem o_slL {l : Int} {kl : IntKind} {lo : Operand} {m : Nat} (hT : P.underlying T = some (.slice e)) (hz : ∀ w, (sizeOf e).run P w = .ok sz w) (hc : CutTo v l m m sz u) (hx : ρ x = v) (hl : ρ lo = .int kl l) :
    OpTo P ⟨d, .slice T x (some lo) none none, t, pos, af, g⟩ ρ w u w :=
  OpTo_value (by intro c h; cases h) (by simp only [execOp, hx, Option.map_some, Option.map_none, hl]; exact run_v _ (run_cut (kh := .i64) hT hz hc (.inr rfl) (.inl ⟨rfl, rfl⟩)))
theorem o_slH {h : Int} {kh : IntKind} {hi : Operand} {m : Nat} (hT : P.underlying T = some (.slice e)) (hz : ∀ w, (sizeOf e).run P w = .ok sz w) (hc : CutTo v 0 h m sz u) (hx : ρ x = v) (hh : ρ hi = .int kh h) :
    OpTo P ⟨d, .slice T x none (some hi) none, t, pos, af, g⟩ ρ w u w :=
  OpTo_value (by intro c h; cases h) (by simp only [execOp, hx, Option.map_some, Option.map_none, hh]; exact run_v _ (run_cut (kl := .i64) hT hz hc (.inl ⟨rfl, rfl⟩) (.inr rfl)))

/-- A struct's literal. -/
theorem o_bd {parts : Array (Nat × Operand)} {fs : Array Field} {places : Array (Nat × Nat)} {z : Value} {qs : Array (Nat × Value)} {cells : Array Value} (hz : ∀ w, (zeroValue T).run P w = .ok z w) (hT : P.underlying T = some (.struct fs))
    (hp : ∀ w, (fs.mapM fun f => (do pure (f.offset, ← sizeOf f.type) : Sem (Nat × Nat))).run P w = .ok places w) (hq : (parts.map fun (i, x) => (i, ρ x)) = qs) (hf : Instr.fill (places[·]?) z.cells qs.toList = some cells) :
    OpTo P ⟨d, .build T parts, t, pos, af, g⟩ ρ w (.agg cells) w :=
  OpTo_value (by intro c h; cases h) (by
    simp only [execOp, hq]
    refine run_v _ ?_
    simp only [Instr.build, Sem.run_bind, hz, Result.andThen, run_underlying hT, hp, hf]
    rfl)
/-- .. an array's. -/
theorem o_bda {parts : Array (Nat × Operand)} {m : Nat} {z : Value} {qs : Array (Nat × Value)} {cells : Array Value} (hz : ∀ w, (zeroValue T).run P w = .ok z w) (hT : P.underlying T = some (.array m e))
    (hs : ∀ w, (sizeOf e).run P w = .ok sz w) (hq : (parts.map fun (i, x) => (i, ρ x)) = qs) (hf : Instr.fill (fun i => some (i * sz, sz)) z.cells qs.toList = some cells) :
    OpTo P ⟨d, .build T parts, t, pos, af, g⟩ ρ w (.agg cells) w :=
  OpTo_value (by intro c h; cases h) (by
    simp only [execOp, hq]
    refine run_v _ ?_
    simp only [Instr.build, Sem.run_bind, hz, Result.andThen, run_underlying hT, hs, hf]
    rfl)

/-- A whole block's load. -/
theorem o_ldc {cs : Array Value} (hT : ∀ w, (isAgg T).run P w = .ok true w) (hz : ∀ w, (sizeOf T).run P w = .ok cs.size w) (hx : ρ x = .pointer (some ⟨b, 0, none⟩)) (hc : ∀ j, w.cell? ⟨b, j, none⟩ = cs[j]?) :
    OpTo P ⟨d, .load T x, t, pos, af, g⟩ ρ w (.agg cs) w := by
  have := o_lda (P := P) (w := w) (ρ := ρ) (d := d) (g := g) (t := t) (pos := pos) (af := af) (x := x) (b := b) (o := 0) cs.toList hT hz hx (by simp) (fun j u hu => by rw [Nat.zero_add, hc]; simpa using hu)
  simpa using this
/-- A result that lies in a block. -/
theorem rv_cell {L : Vs} {a : Nat} {cs : Array Value} (hp : lk L a = some (.pointer (some ⟨b, 0, none⟩))) (hT : ∀ w, (isAgg T).run P w = .ok true w) (hz : ∀ w, (sizeOf T).run P w = .ok cs.size w) (hc : ∀ j, w.cell? ⟨b, j, none⟩ = cs[j]?) :
    rv1 P L w (.cell a T) (.agg cs) := by
  refine ⟨_, hp, ?_⟩
  have hl' := run_loadCells_list (P := P) (w := w) ⟨b, 0, none⟩ cs.toList (fun j u hu => by rw [add_none, Nat.zero_add, hc]; simpa using hu)
  simp only [Array.length_toList] at hl'
  simp only [loadVar, Sem.run_bind, hT, Result.andThen, if_true, hz, hl']
  simp
theorem rv_cell1 {L : Vs} {a : Nat} (hp : lk L a = some (.pointer (some ⟨b, 0, none⟩))) (hT : ∀ w, (isAgg T).run P w = .ok false w) (hc : w.cell? ⟨b, 0, none⟩ = some v) :
    rv1 P L w (.cell a T) v := by
  refine ⟨_, hp, ?_⟩
  simp only [loadVar, Sem.run_bind, hT, Result.andThen, Bool.false_eq_true, if_false, load, Sem.run, hc]
end

section
variable {P : Program} {ops : Array Oper} {Q : Act → World → Prop} {bm : Array Nat} {R hs rs : List Nat} {a : Act} {s : St}
theorem DR.mono {ka : Nat} {Q' : Act → World → Prop} (k : ∀ a' w', Q a' w' → Q' a' w') : ∀ {R hs rs fs : List Nat} {a : Act} {s : St}, DR P ops bm ka Q R hs rs fs a s → DR P ops bm ka Q' R hs rs fs a s
  | [], _, _, _, _, _, h => k _ _ h
  | i :: R, hs, rs, fs, a, s, ⟨o, ho, h⟩ => by
    refine ⟨o, ho, ?_⟩
    rcases h with ⟨hw, h⟩ | ⟨hw, v, hv, h⟩ | ⟨hw, v, hv, hb, h⟩ | ⟨hw, Z, hv, hb, h⟩ | ⟨hw, Z, hv, hb, h⟩ | ⟨hw, T, z, hv, hz, hb, h⟩ | ⟨hw, v, hv, hb, h⟩ | ⟨hw, Z, q, hv, hq, hb, hr2, h⟩
    · exact .inl ⟨hw, h.mono k⟩
    · exact .inr (.inl ⟨hw, v, hv, h.mono k⟩)
    · exact .inr (.inr (.inl ⟨hw, v, hv, hb, h.mono k⟩))
    · exact .inr (.inr (.inr (.inl ⟨hw, Z, hv, hb, fun v s1 z => ⟨(h v s1 z).1, (h v s1 z).2.mono k⟩⟩)))
    · exact .inr (.inr (.inr (.inr (.inl ⟨hw, Z, hv, hb, fun v s1 z t => (h v s1 z t).mono k⟩))))
    · exact .inr (.inr (.inr (.inr (.inr (.inl ⟨hw, T, z, hv, hz, hb, fun v s1 z t => (h v s1 z t).mono k⟩)))))
    · exact .inr (.inr (.inr (.inr (.inr (.inr (.inl ⟨hw, v, hv, hb, h.mono k⟩))))))
    · exact .inr (.inr (.inr (.inr (.inr (.inr (.inr ⟨hw, Z, q, hv, hq, hb, hr2, fun v s1 z t => (h v s1 z t).mono k⟩))))))
theorem G_drwm (ka : Nat) {l : Option Nat} {id : Nat} {Q' : Exit → Act → World → Prop} (hm : P.follows .mixedOrders = true) (R : List Nat) (hok : (okD ops (Region.before ops) && okR ops (Region.before ops) R) = true) (mid : Act → World → Prop)
    (h : ∀ s', Tr No s s' → GD P ops (Region.before ops) ka R [] [] [] a s' mid) (k : ∀ a' w', mid a' w' → Q' .normal a' w') : G P l (.region id ops true) a s.w Q' :=
  G_drw ka hm R hok fun s' t => DR.mono k (h s' t)
end

section
variable {α β : Type} {s s' : St} {K : Kd α} {p : Addr} {x : α} {q : Tg → Prop}
/-- A cell beside what stays, later. -/
theorem At.ck (h : At K s p x) (t : Tr q s s') {j : Nat} {u : Value} (hc : s.w.cell? ⟨p.block, j, none⟩ = some u) : s'.w.cell? ⟨p.block, j, none⟩ = some u := by
  obtain ⟨h1, h2, h3, _⟩ := h
  exact (World.cell?_of_block (a := ⟨p.block, j, none⟩) (t.stay _ h3 h2).2).trans hc
end

section
variable {α : Type} {P : Program} {w : World} {s : St} {ρ : Operand → Value} {K : Kd α}
variable {d : Option Nat} {g : Option (Nat × Bool)} {t : Nat} {pos : String} {af : Array Edge} {x : Operand} {u v : Value} {T e sz B b o : Nat}
theorem o_ld2 (hT : ∀ w, (isAgg T).run P w = .ok true w) (hz : ∀ w, (sizeOf T).run P w = .ok 2 w) (hx : ρ x = .pointer (some ⟨b, o, none⟩)) (c0 : w.cell? ⟨b, o, none⟩ = some u) (c1 : w.cell? ⟨b, o + 1, none⟩ = some v) :
    OpTo P ⟨d, .load T x, t, pos, af, g⟩ ρ w (.agg #[u, v]) w :=
  o_lda [u, v] hT hz hx rfl fun j z hj => by
    match j with
    | 0 => simp at hj; subst hj; exact c0
    | 1 => simp at hj; subst hj; exact c1
    | j + 2 => simp at hj
theorem o_bs0 (κ : Tg) (hT : P.underlying T = some (.slice e)) (hs : ∀ w, (sizeOf e).run P w = .ok K.sz w) (hB : B ≤ s.w.heap.size) :
    Hv P ⟨d, .buildSlice T 0 #[], t, pos, af, g⟩ ρ s fun v s' => Bd κ K e B s' v [] ∧ Tr No s s' :=
  hvo (s.new (.cells #[] e) κ) (OpTo_value (by intro c h; cases h) (by
    simp only [execOp]
    refine run_v' (v := .slice (some ⟨s.w.heap.size, 0, none⟩) 0 0) _ ?_
    simp [Instr.buildSlice, Sem.run_bind, run_underlying hT, Result.andThen, hs, newRow, newObj, Sem.run, Instr.fill, St.new, Array.range_zero'])) ⟨(Own.new s #[] e κ).bd hB rfl rfl rfl, Tr.new s _ κ⟩
end

section
variable {P : Program} {w : World} {ρ : Operand → Value} {d : Option Nat} {g : Option (Nat × Bool)} {t : Nat} {pos : String} {af : Array Edge} {x y : Operand} {k k' : IntKind} {ty ty' : TypeId} {i j : Int}
theorem o_quo (hx : ρ x = .int k i) (hy : ρ y = .int k j) (hj : (j == 0) = false) : OpTo P ⟨d, .binOp .quo ty x y ty', t, pos, af, g⟩ ρ w (.int k (k.wrap (Int.tdiv i j))) w := o_dv hx hy hj rfl
theorem o_rem (hx : ρ x = .int k i) (hy : ρ y = .int k j) (hj : (j == 0) = false) : OpTo P ⟨d, .binOp .rem ty x y ty', t, pos, af, g⟩ ρ w (.int k (Int.tmod i j)) w := o_dv hx hy hj rfl
theorem o_shl (hx : ρ x = .int k i) (hy : ρ y = .int k' j) (hj : decide (j < 0) = false) : OpTo P ⟨d, .binOp .shl ty x y ty', t, pos, af, g⟩ ρ w (.int k (k.wrap (i * 2 ^ min (Int.toNat j) k.bits))) w := o_sh hx hy hj rfl
theorem o_shr (hx : ρ x = .int k i) (hy : ρ y = .int k' j) (hj : decide (j < 0) = false) : OpTo P ⟨d, .binOp .shr ty x y ty', t, pos, af, g⟩ ρ w (.int k (Int.fdiv i (2 ^ min (Int.toNat j) k.bits))) w := o_sh hx hy hj rfl
end
theorem hv_swap {P : Program} {o : Oper} {ρ : Operand → Value} {s : St} {Z : Value → St → Prop} (h : Hv P o ρ s fun v s1 => Tr No s s1 ∧ Z v s1) : Hv P o ρ s fun v s1 => Z v s1 ∧ Tr No s s1 :=
  OpW.mono h fun _ _ ⟨s1, e, t, z⟩ => ⟨s1, e, z, t⟩
end Go.Proofs.YtdkfdmalbbfbmaaGreat

/- A range over a function: the rule for the loop, and for a function that holds one. No project text. -/
namespace Go.Proofs.YtdkfdmalbbfbmaaGreat
open Go

section
variable {P : Program} {s s' s'' : St} {b : Nat} {o o' : Obj} {k : Tg} {p : Tg → Prop}
/-- The block b is k's own, with the object o. -/
def Hd (k : Tg) (s : St) (b : Nat) (o : Obj) : Prop := s.tag b = some k ∧ s.w.heap[b]? = some o
theorem Hd.tr (h : Hd k s b o) (t : Tr p s s') (hp : ¬ p k) : Hd k s' b o := let ⟨h1, h2⟩ := t.own b k h.1 hp; ⟨h1, h2.trans h.2⟩
theorem Hd.trN (h : Hd k s b o) (t : Tr No s s') : Hd k s' b o := h.tr t fun h => h
theorem Hd.lt (h : Hd k s b o) : b < s.w.heap.size := (Array.getElem?_eq_some_iff.1 h.2).1
def St.obj (s : St) (b : Nat) (o : Obj) : St := ⟨s.tag, s.w.putObj b o, fun i hi => by rw [World.putObj_size]; exact s.ok i hi⟩
theorem Tr.obj (h : s.tag b = some k) (o : Obj) : Tr (· = k) s (s.obj b o) :=
  ⟨rfl, rfl, rfl, by simp [St.obj], fun i hi hn => ⟨hn, World.putObj_heap_other (fun e => hn (by subst e; unfold St.M; rw [h]; simp))⟩,
    fun i t hi hn => ⟨hi, World.putObj_heap_other (fun e => hn (by subst e; rw [h] at hi; exact (Option.some.inj hi).symm))⟩⟩
theorem Hd.obj (h : Hd k s b o) (o' : Obj) : Hd k (s.obj b o') b o' := ⟨h.1, World.putObj_heap_same h.lt⟩
theorem Hd.new (s : St) (o : Obj) (k : Tg) : Hd k (s.new o k) s.w.heap.size o := ⟨by simp [St.new], heap_new _ _⟩

/-- A call of the function value yv. -/
def CallV (P : Program) (yv : Value) (args : List Value) (s : St) (R : Value → St → Prop) : Prop :=
  ∀ (d : Option Nat) (q : Operand) (as : List Operand) (ts : Array TypeId) (t : Nat) (pos : String) (af : Array Edge) (g : Option (Nat × Bool)) (ρ : Operand → Value), ρ q = yv → as.map ρ = args →
    Hv P ⟨d, .call ⟨.value q, as.toArray, ts⟩, t, pos, af, g⟩ ρ s R

theorem G.n {l : Option Nat} {c : Code} {a : Act} {w : World} {Q : Exit → Act → World → Prop} (h : G P l c a w Q) (n : Nat) : c.wpIn (Fc l) n P Q a w :=
  fun b k cs hro hb hr => h b k cs hro hb (Fc_room _ _)

theorem G_range {σ α : Type} {pg : Operand} {ps : Array Tmp} {assign body : Code} {a : Act} {Q : Exit → Act → World → Prop} {pf : FuncId} {cp : List Value}
    (hg : a.eval pg = .func (.func pf) #[] cp.toArray) (hpf : ∀ args w, (callFunc pf args).run P w = .ok (.enter pf args) w)
    (κ kJ : Nat) (hκ : κ ≠ kJ) (J : σ → St → Prop) (c : σ → α → Option σ) (enc : α → List Value) (pre : α → St → Prop) (hpre : ∀ x s s' p, pre x s → Tr p s s' → pre x s') (q : Tg → Prop) (hq : ∀ i, ¬ q (κ, i))
    (hJ' : ∀ k', k' ≠ kJ → ∀ st s s', J st s → Tr (Rt k') s s' → J st s') (hex : ∃ b i, s.tag b = some (kJ, i)) (st0 st1 : σ) (h0 : J st0 s) (hps : ∀ x, (enc x).length = ps.size)
    (hprod : ∀ (yv : Value) (J' : σ → St → Prop) (q' : Tg → Prop) (s1 : St), Tr No s s1 → (∀ k', (∀ b t, s1.tag b = some t → t.1 < k') → ∀ st s s', J' st s → Tr (Rt k') s s' → J' st s') →
      (∀ st x st' s, pre x s → J' st s → c st x = some st' → CallV P yv (enc x) s fun v s' => v = .bool true ∧ J' st' s' ∧ Tr q' s s') → J' st0 s1 →
      Ok P pf (yv :: cp).toArray s1 fun _ s' => J' st1 s' ∧ Tr q' s1 s')
    (hbody : ∀ l st x st' s2, Tr (Or q (Rt κ)) s s2 → pre x s2 → J st s2 → c st x = some st' →
      G P (some l) assign { tmps := (ps.zip (enc x).toArray).foldl (fun t (p, v) => t.setIfInBounds p v) a.tmps, defers := [] } s2.w (cutG (fun a1 w1 => ∃ s3, w1 = s3.w ∧ Tr q s2 s3 ∧
        ∀ s4, Tr (Rt κ) s3 s4 → G P (some l) body a1 s4.w (fun e _ w5 => e = .normal ∧ ∃ s5, w5 = s5.w ∧ J st' s5 ∧ Tr q s4 s5)) (fun _ _ _ => False)))
    (hdone : ∀ D' s', J st1 s' → Tr (Or q (Rt κ)) s s' → Hd (κ, 0) s' D' (.deferred (some [])) → Q .normal { a with defers := { target := .collected D', args := #[] } :: a.defers } s'.w) :
    G P none (.rangeFunc pg ps assign body) a s.w Q := by
  have hJ := hJ' κ hκ
  refine wpIn_rangeFunc fun fn _ => ?_
  obtain ⟨s1, hs1⟩ : ∃ x, x = s.new (.deferred (some [])) (κ, 0) := ⟨_, rfl⟩
  obtain ⟨rec, hrec⟩ : ∃ rec : LoopState → Option Code → Loop, rec = fun st pe => { state := st, pending := pe, fn, tmps := a.tmps, params := ps, assign, body, defers := s.w.heap.size } := ⟨_, rfl⟩
  obtain ⟨s2, hs2⟩ : ∃ x, x = s1.new (.loop (rec .ready none)) (κ, 1) := ⟨_, rfl⟩
  have hD0 : Hd (κ, 0) s1 s.w.heap.size (.deferred (some [])) := by rw [hs1]; exact Hd.new s _ _
  have t1 : Tr No s s1 := by rw [hs1]; exact Tr.new s _ _
  have t2 : Tr No s1 s2 := by rw [hs2]; exact Tr.new s1 _ _
  have hsz : s1.w.heap.size = s.w.heap.size + 1 := by rw [hs1]; exact World.size_alloc _ _
  have hL : Hd (κ, 1) s2 (s.w.heap.size + 1) (.loop (rec .ready none)) := by rw [hs2, ← hsz]; exact Hd.new s1 _ _
  have hD : Hd (κ, 0) s2 s.w.heap.size (.deferred (some [])) := hD0.trN t2
  obtain ⟨l, hl⟩ : ∃ l, l = s.w.heap.size + 1 := ⟨_, rfl⟩
  obtain ⟨D, hDe⟩ : ∃ D, D = s.w.heap.size := ⟨_, rfl⟩
  rw [← hl] at hL
  rw [← hDe] at hD
  refine ⟨l, [{ target := .collected D, args := #[] }], s2.w, { target := .fn (.func pf) cp.toArray, args := #[.func (.yield l) #[] #[]] }, s2.w, pf, #[.func (.yield l) #[] #[]] ++ cp.toArray, s2.w, ?_, ?_, ?_, ?_, fun h => (by simp [Fc, Fence.wide] at h), ?_⟩
  · rw [hs2, hs1, hrec, hl, hDe]; exact run_enterLoop_outer _ _ _ _ _
  · simp only [resolve, hg]
    simp [go_sem, hl]
  · intro f' _; trivial
  · simp [invoke, go_sem, hpf]
  · have hp := hprod (.func (.yield l) #[] #[]) (fun st s' => J st s' ∧ Hd (κ, 1) s' l (.loop (rec .ready none)) ∧ Hd (κ, 0) s' D (.deferred (some [])) ∧ Tr (Or q (Rt κ)) s s') (Or q (Rt κ)) s2 (t1.trans t2)
      (fun k' hk' st sa sb h t => by
        have n1 : k' ≠ kJ := by
          obtain ⟨b, i, hb⟩ := hex
          have := hk' b _ ((t1.trans t2).own b _ hb (fun h => h)).1
          simp at this; omega
        have n2 : κ ≠ k' := by have := hk' l _ hL.1; simp at this; omega
        exact ⟨hJ' k' n1 st sa sb h.1 t, h.2.1.tr t (nr n2), h.2.2.1.tr t (nr n2), h.2.2.2.step (n := k') (fun b t hb => hk' b t ((t1.trans t2).own b t hb (fun h => h)).1) t (fun t h => .inr (Nat.le_of_eq (Eq.symm h)))⟩)
      (fun st x st' s3 hpr ⟨hj, hl3, hd3, ht3⟩ hc => by
        intro d qo as ts t pos af g ρ hqo has
        have hy := run_yield (P := P) (args := (enc x).toArray) hl3.2 (by rw [hrec]; simp [hps x])
        refine ⟨fun _ h => by simp at h, ?_⟩
        have hex : (execOp ρ ⟨d, .call ⟨.value qo, as.toArray, ts⟩, t, pos, af, g⟩).run P s3.w = (Instr.yield l (enc x).toArray).run P s3.w := by
          simp only [execOp, resolve, Sem.run_bind, Sem.run_pure, Result.andThen, hqo, Deferred.ofValue, invoke, List.map_toArray, has]
          simp
        rw [hex, hy]
        simp only
        intro l' n'
        refine roundIn_of_wpIn trivial ?_
        have hb := hbody l st x st' s3 ht3 hpr hj hc
        have e1 : ((rec .ready none).params.zip (enc x).toArray).foldl (fun (tmps : Array Value) (x : Nat × Value) => match x with | (t, a) => tmps.setIfInBounds t a) (rec .ready none).tmps = (ps.zip (enc x).toArray).foldl (fun t (p, v) => t.setIfInBounds p v) a.tmps := by rw [hrec]
        have e2 : (rec .ready none).assign = assign := by rw [hrec]
        have e3 : (rec .ready none).body = body := by rw [hrec]
        rw [e1, e2, e3]
        refine wpIn_mono (hb.n n') fun e a1 w1 q1 => ?_
        cases e with
        | normal =>
          obtain ⟨s4, rfl, t4, q1⟩ := q1
          have hl4 : Hd (κ, 1) s4 l (.loop (rec .ready none)) := hl3.tr t4 (hq 1)
          have hd4 : Hd (κ, 0) s4 D (.deferred (some [])) := hd3.tr t4 (hq 0)
          refine ⟨_, run_beginRound hl4.2 (by rw [hrec]), ?_⟩
          have t5 : Tr (· = ((κ, 1) : Tg)) s4 (s4.obj l (.loop { rec .ready none with state := .busy })) := Tr.obj hl4.1 _
          have t5' : Tr (Rt κ) s4 (s4.obj l (.loop { rec .ready none with state := .busy })) := t5.mono (by intro t h; subst h; rfl)
          refine wpIn_mono ((q1 _ t5').n n') fun e a2 w2 q2 => ?_
          obtain ⟨rfl, s6, rfl, hj6, t6⟩ := q2
          have hl6 : Hd (κ, 1) s6 l (.loop { rec .ready none with state := .busy }) := (hl4.obj _).tr t6 (hq 1)
          have hd6 : Hd (κ, 0) s6 D (.deferred (some [])) := (hd4.tr t5 (by intro h; injection h with _ h; cases h)).tr t6 (hq 0)
          have t7 : Tr (· = ((κ, 1) : Tg)) s6 (s6.obj l (.loop (rec .ready none))) := Tr.obj hl6.1 _
          have t7' : Tr (Rt κ) s6 (s6.obj l (.loop (rec .ready none))) := t7.mono (by intro t h; subst h; rfl)
          have ht : Tr (Or q (Rt κ)) s3 (s6.obj l (.loop (rec .ready none))) := (((t4.mono fun _ h => .inl h).trans (t5'.mono fun _ h => .inr h)).trans (t6.mono fun _ h => .inl h)).trans (t7'.mono fun _ h => .inr h)
          refine ⟨_, _, run_endRound none hl6.2, _, rfl, s6.obj l (.loop (rec .ready none)), ?_, rfl, ⟨hJ _ _ _ hj6 t7', hl6.obj _, hd6.tr t7 (by intro h; injection h with _ h; cases h), ht3.trans ht⟩, ht⟩
          rw [hrec]; rfl
        | exit id => exact q1.elim
        | goto t => exact q1.elim
        | ret => exact q1.elim
        | panic ch => exact q1.elim
        | outgrown => exact q1.elim)
      ⟨hJ _ _ _ h0 (t1.trans t2).no, hL, hD, (t1.trans t2).no⟩
    refine CallsIn.mono (R := fun e w' => ∃ v, e = .returned v ∧ ∃ s', w' = s'.w ∧ (J st1 s' ∧ Hd (κ, 1) s' l (.loop (rec .ready none)) ∧ Hd (κ, 0) s' D (.deferred (some [])) ∧ Tr (Or q (Rt κ)) s s')) (callsIn_Fc (l := none) (n := 0 - 1) ?_) ?_
    · have e1 : #[Value.func (.yield l) #[] #[]] ++ cp.toArray = (Value.func (.yield l) #[] #[] :: cp).toArray := by simp
      rw [e1]
      exact Calls.mono hp fun e w' ⟨v, e, s', hw, r⟩ => ⟨v, e, s', hw, r.1⟩
    · rintro e w' ⟨v, rfl, s3, rfl, hj, hl3, hd3, ht3⟩
      obtain ⟨r0, hr0⟩ : ∃ r0, r0 = rec .ready none := ⟨_, rfl⟩
      have hpend : r0.pending = none := by rw [hr0, hrec]
      have hst : r0.state ≠ .busy := by rw [hr0, hrec]; simp
      rw [← hr0] at hl3
      obtain ⟨o, ho⟩ : ∃ o, o = Obj.loop { r0 with state := .exhausted } := ⟨_, rfl⟩
      have he : (Instr.endLoop l).run P s3.w = .ok none (s3.w.putObj l o) := by rw [ho, ← hpend]; exact run_endLoop hl3.2 hst
      have t4 : Tr (· = ((κ, 1) : Tg)) s3 (s3.obj l o) := Tr.obj hl3.1 _
      have t4' : Tr (Rt κ) s3 (s3.obj l o) := t4.mono (by intro t h; subst h; rfl)
      exact ⟨none, _, he, hdone D (s3.obj l o) (hJ _ _ _ hj t4') (ht3.trans (t4'.mono fun _ h => .inr h)) (hd3.tr t4 (by intro h; injection h with _ h; cases h))⟩

/-- A function that holds one such loop. -/
def fnPostD (P : Program) (fn : Func) (R : Value → World → Prop) : Exit → Act → World → Prop
  | .normal, a, w | .ret, a, w => ∃ D, a.defers = [{ target := .collected D, args := #[] }] ∧ w.heap[D]? = some (.deferred (some [])) ∧ ∃ v, (results fn a.tmps).run P (w.putObj D (.deferred none)) = .ok v (w.putObj D (.deferred none)) ∧ R v (w.putObj D (.deferred none))
  | _, _, _ => False

theorem leaves_mark {fn : Func} {tmps : Array Value} {R : Ending → World → Prop} {F : Fence} {n D : Nat} {w : World} {v : Value} (h1 : w.heap[D]? = some (.deferred (some []))) (h2 : (results fn tmps).run P (w.putObj D (.deferred none)) = .ok v (w.putObj D (.deferred none)))
    (hR : R (.returned v) (w.putObj D (.deferred none))) : LeavesInM F n P fn tmps R [{ target := .collected D, args := #[] }] .returning w :=
  ⟨by simp, .inl ⟨D, _, rfl, run_takeDeferred h1, by simp only [LeavesInM, LeavesIn]; exact ⟨v, h2, hR⟩⟩⟩

theorem ok_ofD {f : FuncId} {fn : Func} {c : Code} {R : Value → St → Prop} {n : Nat} (args : List Value) (hf : P.funcs[f]? = some fn) (hb : fn.body = some c) (L : Vs) (hn : args.length + (fn.ntmps - args.length) = n) (hL : (args.zipIdx.map fun (v, i) => (i, v)) = L)
    (h : ∀ a, En [] n a L → G P none c a s.w (fnPostD P fn (Rs R))) : Ok P f args.toArray s R := by
  have E := En.start args.toArray (fn.ntmps - args.length)
  simp only [List.size_toArray, hn] at E
  have e2 : (args.toArray.toList.zipIdx.map fun (v, i) => (i, v)) = L := by simpa using hL
  rw [e2] at E
  refine callsIn_wide.1 (callsIn_of_wp_marks (n := 0) (F := Fence.wide) hf hb trivial (wpIn_mono (h _ (by simpa using E)) fun e a w q => ?_))
  cases e with
  | normal => obtain ⟨D, hd, h1, v, h2, hR⟩ := q; show LeavesInM _ _ P fn a.tmps _ a.defers .returning w; rw [hd]; exact leaves_mark h1 h2 ⟨v, rfl, hR⟩
  | ret => obtain ⟨D, hd, h1, v, h2, hR⟩ := q; show LeavesInM _ _ P fn a.tmps _ a.defers .returning w; rw [hd]; exact leaves_mark h1 h2 ⟨v, rfl, hR⟩
  | exit id => exact q.elim
  | goto t => exact q.elim
  | panic ch => exact q.elim
  | outgrown => exact q.elim

/-- Its end. -/
theorem finD {fn : Func} {R : Value → St → Prop} {n : Nat} {a : Act} {L : Vs} {D κ : Nat} (E : En [{ target := .collected D, args := #[] }] n a L) (hD : Hd (κ, 0) s D (.deferred (some [])))
    (h : ∀ s', Tr (· = ((κ, 0) : Tg)) s s' → ∃ v s2, s'.w = s2.w ∧ (results fn a.tmps).run P s'.w = .ok v s'.w ∧ R v s2) : fnPostD P fn (Rs R) .ret a s.w := by
  obtain ⟨v, s2, hw, h1, h2⟩ := h (s.obj D (.deferred none)) (Tr.obj hD.1 _)
  exact ⟨D, E.defs, hD.2, v, h1, s2, hw, h2⟩
theorem res1 {fn : Func} {n : Nat} {a : Act} {L : Vs} {D : List Deferred} {w : World} (E : En D n a L) {r : ResultVar} {v : Value} (hr : fn.results = #[r]) (h1 : rv1 P L w r v) : (results fn a.tmps).run P w = .ok v w := by
  have e1 := rv1_run E h1
  simp [results_eq, hr, e1, Sem.run_bind, Result.andThen]
theorem res2 {fn : Func} {n : Nat} {a : Act} {L : Vs} {D : List Deferred} {w : World} (E : En D n a L) {r r' : ResultVar} {v v' : Value} (hr : fn.results = #[r, r']) (h1 : rv1 P L w r v) (h2 : rv1 P L w r' v') : (results fn a.tmps).run P w = .ok (.tuple #[v, v']) w := by
  have e1 := rv1_run E h1
  have e2 := rv1_run E h2
  simp [results_eq, hr, e1, e2, Sem.run_bind, Result.andThen]

/-- A round's temporaries. -/
theorem En.round1 {n : Nat} {a : Act} {L : Vs} {D : List Deferred} (E : En D n a L) {p : Nat} {v : Value} (hp : Nat.ble (p + 1) n = true) :
    En [] n { tmps := (#[p].zip [v].toArray).foldl (fun t (p, v) => t.setIfInBounds p v) a.tmps, defers := [] } ((p, v) :: L) := by
  have := E.put hp v
  refine ⟨by simpa [Act.put] using this.size, rfl, fun k u hk => ?_⟩
  have h2 := this.get k u hk
  simpa [Act.put] using h2
theorem En.round2 {n : Nat} {a : Act} {L : Vs} {D : List Deferred} (E : En D n a L) {p p' : Nat} {v v' : Value} (hp : Nat.ble (p + 1) n = true) (hp' : Nat.ble (p' + 1) n = true) :
    En [] n { tmps := (#[p, p'].zip [v, v'].toArray).foldl (fun t (p, v) => t.setIfInBounds p v) a.tmps, defers := [] } ((p', v') :: (p, v) :: L) := by
  have := (E.put hp v).put hp' v'
  refine ⟨by simpa [Act.put] using this.size, rfl, fun k u hk => ?_⟩
  have h2 := this.get k u hk
  simpa [Act.put] using h2
end
end Go.Proofs.YtdkfdmalbbfbmaaGreat
