/- The rules by which a piece of code of the model is run to one end, in or out of a round of a range over a function. No project text. -/
import Derived.RangeFuncIn
import Derived.TacticsIn
import Derived.RangeFuncMany
import Derived.RangeFuncCalls
import Derived.RegionIn
import Derived.KernelRfl
import Derived.WalkKit
/- The rules by which a piece of code of the model is run to one end, in or out of a round of a range over a function. No project text. -/
namespace Go.Proofs.YtdkfdmalbbfbmaaGreat
open Go

/-- The fence of an activation (none) or of a round of the loop l. -/
def Fc (l : Option Nat) : Fence := { Fence.wide with round := l }

theorem Fc_fn (l : Option Nat) (f : FuncId) : (Fc l).fn f := trivial
theorem Fc_room (l : Option Nat) (n : Nat) : (Fc l).room n := fun _ h => by simp [Fc, Fence.wide] at h
theorem Fc_depth (l : Option Nat) : (Fc l).depth = none := rfl
theorem Fc_round (l : Option Nat) : (Fc l).round = l := rfl

section
variable {P : Program}

/-- Run from (a, w), the code c comes to some end that Q takes. -/
def G (P : Program) (l : Option Nat) (c : Code) (a : Act) (w : World) (Q : Exit → Act → World → Prop) : Prop := c.wpIn (Fc l) 0 P Q a w

/-- How Q goes on behind the first part of a sequence. -/
def thenG (P : Program) (l : Option Nat) (y : Code) (Q : Exit → Act → World → Prop) : Exit → Act → World → Prop
  | .normal, a, w => G P l y a w Q
  | e, a, w => Q e a w

theorem G.mono {l : Option Nat} {c : Code} {a : Act} {w : World} {Q Q' : Exit → Act → World → Prop} (h : G P l c a w Q) (hq : ∀ e a w, Q e a w → Q' e a w) : G P l c a w Q' := wpIn_mono h hq

theorem G_seq {l : Option Nat} {x y : Code} {a : Act} {w : World} {Q : Exit → Act → World → Prop} (h : G P l x a w (thenG P l y Q)) : G P l (.seq x y) a w Q :=
  wpIn_seq (wpIn_mono h fun e a w q => by cases e <;> exact q)

/-- A sequence, what holds between its parts being named. -/
theorem G_cut {l : Option Nat} {x y : Code} {a : Act} {w : World} {Q : Exit → Act → World → Prop} (mid : Act → World → Prop)
    (h : G P l x a w fun e a' w' => match e with | .normal => mid a' w' | e => Q e a' w') (k : ∀ a' w', mid a' w' → G P l y a' w' Q) : G P l (.seq x y) a w Q :=
  G_seq (h.mono fun e a' w' q => by cases e <;> first | exact k _ _ q | exact q)

theorem G_skip {l : Option Nat} {a : Act} {w : World} {Q : Exit → Act → World → Prop} (h : Q .normal a w) : G P l .skip a w Q := wpIn_skip h
theorem G_label {l : Option Nat} {t : Nat} {a : Act} {w : World} {Q : Exit → Act → World → Prop} (h : Q .normal a w) : G P l (.label t) a w Q := wpIn_label h
theorem G_exit {l : Option Nat} {id : Nat} {a : Act} {w : World} {Q : Exit → Act → World → Prop} (h : Q (.exit id) a w) : G P l (.exit id) a w Q := wpIn_exit h
theorem G_goto {l : Option Nat} {t : Nat} {a : Act} {w : World} {Q : Exit → Act → World → Prop} (h : Q (.goto t) a w) : G P l (.goto t) a w Q := wpIn_goto h
theorem G_ret {l : Option Nat} {a : Act} {w : World} {Q : Exit → Act → World → Prop} (h : Q .ret a w) : G P l .ret a w Q := wpIn_ret h

theorem G_cond {l : Option Nat} {c : Operand} {x y : Code} {t : Bool} {a : Act} {w : World} {Q : Exit → Act → World → Prop} (hc : a.eval c = .bool t)
    (ht : t = true → G P l x a w Q) (hf : t = false → G P l y a w Q) : G P l (.cond c x y) a w Q := by
  cases t
  · exact wpIn_cond_false hc (hf rfl)
  · exact wpIn_cond_true hc (ht rfl)

theorem G_block {l : Option Nat} {id : Nat} {c : Code} {a : Act} {w : World} {Q : Exit → Act → World → Prop} (h : G P l c a w (Exit.inBlock id Q)) : G P l (.block id c) a w Q := wpIn_block h

/-! A loop. -/
theorem wpIn_loop_n {F : Fence} {n : Nat} {c : Code} {Q : Exit → Act → World → Prop} (I : Nat → Act → World → Prop)
    (round : ∀ j a w, I j a w → c.wpIn F n P (Exit.then (fun a' w' => ∃ j', j' < j ∧ I j' a' w') Q) a w) :
    ∀ j a w, I j a w → (Code.loop c).wpIn F n P Q a w := by
  intro j a w h0 b k cs hro hb hr
  have key : ∀ j a w, I j a w →
      ∃ e a' w', Q e a' w' ∧ ArrivesIn (Machine.fenced P F) P (lone (b.atR a (.code c :: .inLoop c :: k)) cs w) b k cs e a' w' := by
    intro j
    induction j using Nat.strongRecOn with
    | _ j ih =>
      intro a w hI
      obtain ⟨e, a₁, w₁, hq, harr⟩ := round j a w hI b (.inLoop c :: k) cs hro hb hr
      cases e with
      | normal =>
        obtain ⟨j', hlt, hI₁⟩ := hq
        obtain ⟨e₂, a₂, w₂, hq₂, harr₂⟩ := ih j' hlt a₁ w₁ hI₁
        exact ⟨e₂, a₂, w₂, hq₂, .of_steps (StepsIn.trans harr (.one (fenced_calm hb hr rfl) stepR_inLoop)) harr₂⟩
      | exit id => exact ⟨_, a₁, w₁, hq, .pass (x := .inLoop c) rfl (fun _ _ => .inl (by simp)) harr⟩
      | goto l => exact ⟨_, a₁, w₁, hq, .pass (x := .inLoop c) rfl (fun _ _ => .inl (by simp)) harr⟩
      | ret => exact ⟨_, a₁, w₁, hq, .pass (x := .inLoop c) rfl (fun _ _ => .inl (by simp)) harr⟩
      | panic ch => exact ⟨_, a₁, w₁, hq, .pass (x := .inLoop c) rfl (fun _ _ => .inl (by simp)) harr⟩
      | outgrown => exact ⟨_, a₁, w₁, hq, .pass (x := .inLoop c) rfl (fun _ _ => .inl (by simp)) harr⟩
  obtain ⟨e, a', w', hq, harr⟩ := key j a w h0
  exact ⟨e, a', w', hq, .of_steps (.one (fenced_calm hb hr rfl) stepR_loop) harr⟩

/-- What a round of a loop's model says: on with a state, or out with a result. -/
abbrev Lo (σ ρ : Type) := Sum σ ρ

/-- n rounds of a model at most. -/
def iterO {σ ρ : Type} (f : σ → Option (Lo σ ρ)) : Nat → σ → Option ρ
  | 0, _ => none
  | n + 1, s => match f s with
    | none => none
    | some (.inl s') => iterO f n s'
    | some (.inr r) => some r

open Classical in
/-- A loop's model: the result of whatever many rounds it takes; none: it has none. -/
noncomputable def loopO {σ ρ : Type} (f : σ → Option (Lo σ ρ)) (s : σ) : Option ρ :=
  if h : ∃ n r, iterO f n s = some r then some (Classical.choose (Classical.choose_spec h)) else none

theorem iterO_mono {σ ρ : Type} {f : σ → Option (Lo σ ρ)} {r : ρ} : ∀ {n : Nat} {s : σ}, iterO f n s = some r → ∀ m, n ≤ m → iterO f m s = some r
  | 0, _, h, _, _ => by simp [iterO] at h
  | n + 1, s, h, m, hm => by
    obtain ⟨m, rfl⟩ : ∃ k, m = k + 1 := ⟨m - 1, by omega⟩
    simp only [iterO] at h ⊢
    cases hf : f s with
    | none => simp [hf] at h
    | some x =>
      cases x with
      | inl s' => simp only [hf] at h ⊢; exact iterO_mono h m (by omega)
      | inr r' => simp only [hf] at h ⊢; exact h

theorem loopO_iff {σ ρ : Type} {f : σ → Option (Lo σ ρ)} {s : σ} {r : ρ} : loopO f s = some r ↔ ∃ n, iterO f n s = some r := by
  unfold loopO
  constructor
  · intro h
    split at h
    · rename_i hx
      exact ⟨_, by rw [← h]; exact Classical.choose_spec (Classical.choose_spec hx)⟩
    · cases h
  · rintro ⟨n, h⟩
    have hx : ∃ n r, iterO f n s = some r := ⟨n, r, h⟩
    rw [dif_pos hx]
    have h2 := Classical.choose_spec (Classical.choose_spec hx)
    have a1 := iterO_mono h (max n (Classical.choose hx)) (Nat.le_max_left _ _)
    have a2 := iterO_mono h2 (max n (Classical.choose hx)) (Nat.le_max_right _ _)
    rw [a1] at a2
    exact a2.symm

/-- One round, and the others. -/
theorem loopO_eq {σ ρ : Type} (f : σ → Option (Lo σ ρ)) (s : σ) : loopO f s = match f s with | none => none | some (.inl s') => loopO f s' | some (.inr r) => some r := by
  apply Option.ext
  intro r
  rw [loopO_iff]
  constructor
  · rintro ⟨n, h⟩
    cases n with
    | zero => simp [iterO] at h
    | succ n =>
      simp only [iterO] at h
      cases hf : f s with
      | none => simp [hf] at h
      | some x =>
        cases x with
        | inl s' => simp only [hf] at h ⊢; exact loopO_iff.2 ⟨n, h⟩
        | inr r' => simp only [hf] at h ⊢; exact h
  · intro h
    cases hf : f s with
    | none => simp [hf] at h
    | some x =>
      cases x with
      | inl s' =>
        simp only [hf] at h
        obtain ⟨n, hn⟩ := loopO_iff.1 h
        exact ⟨n + 1, by simp only [iterO, hf]; exact hn⟩
      | inr r' => simp only [hf] at h; exact ⟨1, by simp only [iterO, hf]; exact h⟩

/-- A loop goes as its model does: what holds at each round's head is named (I). -/
theorem G_loop {l : Option Nat} {c : Code} {a : Act} {w : World} {Q : Exit → Act → World → Prop} {σ ρ : Type} (f : σ → Option (Lo σ ρ)) (I : σ → Act → World → Prop) (s : σ) (r : ρ)
    (hm : loopO f s = some r) (h0 : I s a w)
    (round : ∀ s a w x, I s a w → f s = some x → G P l c a w fun e a' w' => match x with
      | .inl s' => e = .normal ∧ I s' a' w'
      | .inr r' => e ≠ .normal ∧ (r' = r → Q e a' w')) : G P l (.loop c) a w Q := by
  obtain ⟨n, hn⟩ := loopO_iff.1 hm
  refine wpIn_loop_n (fun j a w => ∃ s, iterO f j s = some r ∧ I s a w) ?_ n a w ⟨s, hn, h0⟩
  rintro j a w ⟨s, hj, hI⟩
  cases j with
  | zero => simp [iterO] at hj
  | succ j =>
    simp only [iterO] at hj
    cases hf : f s with
    | none => simp [hf] at hj
    | some x =>
      refine wpIn_mono (round s a w x hI hf) fun e a' w' q => ?_
      cases x with
      | inl s' =>
        simp only [hf] at hj
        obtain ⟨rfl, hI'⟩ := q
        exact ⟨j, Nat.lt_succ_self _, s', hj, hI'⟩
      | inr r' =>
        simp only [hf, Option.some.injEq] at hj
        obtain ⟨hne, q⟩ := q
        have := q hj
        cases e <;> first | exact absurd rfl hne | exact this

/-! Operations. -/
/-- The operation o leaves a value for its temporary, in a world, as K says. -/
def OpW (P : Program) (o : Oper) (ρ : Operand → Value) (w : World) (K : Value → World → Prop) : Prop :=
  (∀ c, o.op ≠ .defer c) ∧ match (execOp ρ o).run P w with
  | .ok (.value u) w1 => K u w1
  | .ok .skip w1 => K undef w1
  | .ok (.enter f args) w1 => Calls P f args w1 fun e w' => ∃ v, e = .returned v ∧ K v w'
  | .ok (.round lp f tmps assign body) w1 => ∀ l n, RoundIn (Fc l) n P lp f tmps assign body w1 fun e w' => ∃ v, e = .returned v ∧ K v w'
  | _ => False
/-- It leaves v, in w'. -/
def OpTo (P : Program) (o : Oper) (ρ : Operand → Value) (w : World) (v : Value) (w' : World) : Prop :=
  (∀ c, o.op ≠ .defer c) ∧ ((execOp ρ o).run P w = .ok (.value v) w' ∨ (execOp ρ o).run P w = .ok .skip w' ∧ v = undef)

theorem OpTo.w {o : Oper} {ρ : Operand → Value} {w w' : World} {v : Value} {K : Value → World → Prop} (h : OpTo P o ρ w v w') (k : K v w') : OpW P o ρ w K := by
  obtain ⟨hd, h | ⟨h, rfl⟩⟩ := h
  · exact ⟨hd, by rw [h]; exact k⟩
  · exact ⟨hd, by rw [h]; exact k⟩
theorem OpTo.uniq {o : Oper} {ρ : Operand → Value} {w w1 w2 : World} {v1 v2 : Value} (h : OpTo P o ρ w v1 w1) (k : OpTo P o ρ w v2 w2) : v1 = v2 := by
  obtain ⟨_, h | ⟨h, rfl⟩⟩ := h <;> obtain ⟨_, k | ⟨k, rfl⟩⟩ := k <;> rw [h] at k <;> injection k with k1 k2 <;> first | rfl | (injection k1) | (cases k1)

theorem about_wide {l : Option Nat} {o : Oper} {a : Act} {w : World} : ∀ f, o.about P w a.eval = some f → (Fc l).fn f := fun _ _ => trivial

theorem callsIn_Fc {l : Option Nat} {n : Nat} {f : FuncId} {args : Array Value} {w : World} {R : Ending → World → Prop} (h : Calls P f args w R) : CallsIn (Fc l) n P f args w R := by
  have h' : CallsIn Fence.wide n P f args w R := callsIn_wide.2 h
  cases l with
  | none => exact h'
  | some l => exact CallsIn.inRound l h'

theorem OpW.mono {o : Oper} {ρ : Operand → Value} {w : World} {K K' : Value → World → Prop} (h : OpW P o ρ w K) (hk : ∀ v w', K v w' → K' v w') : OpW P o ρ w K' := by
  obtain ⟨hd, h⟩ := h
  refine ⟨hd, ?_⟩
  generalize (execOp ρ o).run P w = r at h ⊢
  cases r with
  | halt x w1 => exact h.elim
  | ok x w1 =>
    cases x <;> simp only at h ⊢ <;> try exact h.elim
    · exact hk _ _ h
    · exact hk _ _ h
    · exact h.mono fun e w' ⟨v, he, hv⟩ => ⟨v, he, hk _ _ hv⟩
    · exact fun l n => (h l n).mono fun e w' ⟨v, he, hv⟩ => ⟨v, he, hk _ _ hv⟩
/-- There is some end. -/
theorem OpW.some {o : Oper} {ρ : Operand → Value} {w : World} {K : Value → World → Prop} (h : OpW P o ρ w K) : ∃ v w', K v w' := by
  obtain ⟨hd, h⟩ := h
  generalize (execOp ρ o).run P w = r at h
  cases r with
  | halt x w1 => exact h.elim
  | ok x w1 =>
    cases x <;> simp only at h <;> try exact h.elim
    · exact ⟨_, _, h⟩
    · exact ⟨_, _, h⟩
    · obtain ⟨e, w', fr, ⟨v, _, k⟩, _⟩ := h []
      exact ⟨v, w', k⟩
    · obtain ⟨e, w', ⟨v, _, k⟩, _⟩ := (h none 0).2 default [] (Fc_room none _)
      exact ⟨v, w', k⟩

theorem OpW.use {l : Option Nat} {o : Oper} {a : Act} {w : World} {K0 : Value → World → Prop} (h : OpW P o a.eval w K0) (K : Act → World → Prop) (Q : Exit → Act → World → Prop) (k : ∀ v w', K0 v w' → K (a.put o.dst v) w') : o.wpIn (Fc l) 0 P a w K Q := by
  obtain ⟨hd, h⟩ := h
  refine ⟨about_wide, ?_⟩
  rw [Oper.semAt_eq _ _ _ hd]
  generalize (execOp a.eval o).run P w = r at h ⊢
  cases r with
  | halt x w1 => exact h.elim
  | ok x w1 =>
    cases x <;> simp only [Oper.uponIn] at h ⊢ <;> try exact h.elim
    · exact k _ _ h
    · exact k _ _ h
    · refine ⟨fun h => by simp [Fc, Fence.wide] at h, callsIn_Fc (h.mono fun e w'' ⟨v, he, hw⟩ => ?_)⟩
      subst he; exact k _ _ hw
    · refine ⟨fun h => by simp [Fc, Fence.wide] at h, RoundIn.mono (h l (0 - 1)) fun e w'' ⟨v, he, hw⟩ => ?_⟩
      subst he; exact k _ _ hw
theorem OpTo.use {l : Option Nat} {o : Oper} {a : Act} {w w' : World} {v : Value} (h : OpTo P o a.eval w v w') (K : Act → World → Prop) (Q : Exit → Act → World → Prop) (k : K (a.put o.dst v) w') : o.wpIn (Fc l) 0 P a w K Q :=
  (h.w (K := fun u w1 => u = v ∧ w1 = w') ⟨rfl, rfl⟩).use K Q fun _ _ ⟨h1, h2⟩ => by subst h1; subst h2; exact k

theorem OpTo_value {o : Oper} {ρ : Operand → Value} {w w' : World} {v : Value} (hd : ∀ c, o.op ≠ .defer c) (h : (execOp ρ o).run P w = .ok (.value v) w') : OpTo P o ρ w v w' := ⟨hd, .inl h⟩
theorem OpTo_skip {o : Oper} {ρ : Operand → Value} {w w' : World} (hd : ∀ c, o.op ≠ .defer c) (h : (execOp ρ o).run P w = .ok .skip w') : OpTo P o ρ w undef w' := ⟨hd, .inr ⟨h, rfl⟩⟩
theorem OpW_enter {o : Oper} {ρ : Operand → Value} {w w1 : World} {K : Value → World → Prop} {f : FuncId} {args : Array Value} (hd : ∀ c, o.op ≠ .defer c)
    (h : (execOp ρ o).run P w = .ok (.enter f args) w1) (hc : Calls P f args w1 fun e w' => ∃ v, e = .returned v ∧ K v w') : OpW P o ρ w K :=
  ⟨hd, by rw [h]; exact hc⟩

def onlyN (Q : Act → World → Prop) : Exit → Act → World → Prop := fun e a w => e = .normal ∧ Q a w
/-- What a list of operations comes to. -/
def GL (P : Program) (l : Option Nat) (ops : Array Oper) (os : List Oper) (a : Act) (w : World) (Q : Act → World → Prop) : Prop := wpListIn (Fc l) 0 P ops (onlyN Q) os a w

theorem GL_nil {l : Option Nat} {ops : Array Oper} {a : Act} {w : World} {Q : Act → World → Prop} (h : Q a w) : GL P l ops [] a w Q := ⟨rfl, h⟩

theorem GL_consW {l : Option Nat} {ops : Array Oper} {o : Oper} {os : List Oper} {a : Act} {w : World} {K0 : Value → World → Prop} {Q : Act → World → Prop} (hg : Region.wanted o (yielded ops a.tmps) = true)
    (ho : OpW P o a.eval w K0) (h : ∀ v w1, K0 v w1 → GL P l ops os (a.put o.dst v) w1 Q) : GL P l ops (o :: os) a w Q := by
  unfold GL
  simp only [wpListIn, hg, if_true]
  exact ho.use _ _ h
theorem GL_cons {l : Option Nat} {ops : Array Oper} {o : Oper} {os : List Oper} {a : Act} {w w1 : World} {v : Value} {Q : Act → World → Prop} (hg : Region.wanted o (yielded ops a.tmps) = true)
    (ho : OpTo P o a.eval w v w1) (h : GL P l ops os (a.put o.dst v) w1 Q) : GL P l ops (o :: os) a w Q := by
  unfold GL
  simp only [wpListIn, hg, if_true]
  exact ho.use _ _ h

theorem GL_pass {l : Option Nat} {ops : Array Oper} {o : Oper} {os : List Oper} {a : Act} {w : World} {Q : Act → World → Prop} (hg : Region.wanted o (yielded ops a.tmps) = false)
    (h : GL P l ops os (a.put o.dst undef) w Q) : GL P l ops (o :: os) a w Q := by
  unfold GL
  simp only [wpListIn, hg, Bool.false_eq_true, if_false]
  exact ⟨about_wide, h⟩

theorem G_region {l : Option Nat} {id : Nat} {os : List Oper} {a : Act} {w : World} {Q : Exit → Act → World → Prop} (h : GL P l os.toArray os a w fun a' w' => Q .normal a' w') :
    G P l (.region id os.toArray false) a w Q :=
  wpIn_mono (wpIn_region_lit h) fun e a w q => by obtain ⟨rfl, q⟩ := q; exact q

/-! A function. -/
/-- At a function's end: what it hands back. -/
def fnPost (P : Program) (fn : Func) (R : Value → World → Prop) : Exit → Act → World → Prop
  | .normal, a, w | .ret, a, w => a.defers = [] ∧ ∃ v, (results fn a.tmps).run P w = .ok v w ∧ R v w
  | _, _, _ => False

theorem Calls_of_G {f : FuncId} {fn : Func} {c : Code} {args : Array Value} {w : World} {R : Value → World → Prop} (hf : P.funcs[f]? = some fn) (hb : fn.body = some c)
    (h : G P none c { tmps := args ++ Array.replicate (fn.ntmps - args.size) undef, defers := [] } w (fnPost P fn R)) : Calls P f args w fun e w' => ∃ v, e = .returned v ∧ R v w' := by
  refine calls_of_wp hf hb ((wpIn_wide (n := 0)).1 (wpIn_mono h fun e a w q => ?_))
  cases e with
  | normal => obtain ⟨hd, v, hr, hR⟩ := q; exact ⟨hd, v, hr, v, rfl, hR⟩
  | ret => obtain ⟨hd, v, hr, hR⟩ := q; exact ⟨hd, v, hr, v, rfl, hR⟩
  | exit id => exact q.elim
  | goto t => exact q.elim
  | panic ch => exact q.elim
  | outgrown => exact q.elim
end
end Go.Proofs.YtdkfdmalbbfbmaaGreat

/- The temporaries of an activation as a list of places and values; one rule for each plain operation. No project text. -/
namespace Go.Proofs.YtdkfdmalbbfbmaaGreat
open Go

abbrev Vs := List (Nat × Value)

/-- What stands last at place t. -/
def lk : Vs → Nat → Option Value
  | [], _ => none
  | (k, v) :: L, t => bif Nat.beq k t then some v else lk L t

/-- n temporaries; at the places of L what L says; the deferred calls are D. -/
structure En (D : List Deferred) (n : Nat) (a : Act) (L : Vs) : Prop where
  size : a.tmps.size = n
  defs : a.defers = D
  get : ∀ k v, lk L k = some v → a.tmps[k]? = some v

/-- An operand's value. -/
def evL (L : Vs) : Operand → Option Value
  | .tmp t => lk L t
  | .const v => some v
  | .global g => some (.pointer (some ⟨g, 0, none⟩))
  | .func f => some (.func (.func f) #[] #[])

variable {D : List Deferred} {n : Nat} {a : Act} {L : Vs} {P : Program} {l : Option Nat} {ops : Array Oper} {os : List Oper} {w : World} {Q : Act → World → Prop}

theorem En.ev (E : En D n a L) {x : Operand} {v : Value} (h : evL L x = some v) : a.eval x = v := by
  cases x with
  | tmp t =>
    have := E.get t v h
    simp [Act.eval, this]
  | const u => simpa [evL, Act.eval] using h
  | global g => simpa [evL, Act.eval] using h
  | func f => simpa [evL, Act.eval] using h

theorem lk_cons {L : Vs} {d : Nat} {v : Value} {k : Nat} : lk ((d, v) :: L) k = if d = k then some v else lk L k := by
  rw [lk]
  by_cases h : d = k
  · subst h; simp [Nat.beq_refl]
  · have : Nat.beq d k = false := by
      cases hb : Nat.beq d k
      · rfl
      · exact absurd (Nat.eq_of_beq_eq_true hb) h
    simp [this, h]

theorem En.put (E : En D n a L) {d : Nat} (hd : Nat.ble (d + 1) n = true) (v : Value) : En D n (a.put (some d) v) ((d, v) :: L) := by
  have hd' : d < n := Nat.le_of_ble_eq_true hd
  refine ⟨by simp [Act.put, E.size], E.defs, fun k u h => ?_⟩
  rw [lk_cons] at h
  by_cases hk : d = k
  · subst hk
    rw [if_pos rfl, Option.some.injEq] at h
    subst h
    simp [Act.put, E.size, hd']
  · rw [if_neg hk] at h
    have := E.get k u h
    simp [Act.put, Array.getElem?_setIfInBounds_ne hk, this]

theorem En.weak (E : En D n a L) {L' : Vs} (h : ∀ k v, lk L' k = some v → lk L k = some v) : En D n a L' := ⟨E.size, E.defs, fun k v hk => E.get k v (h k v hk)⟩

/-- Nothing is told of place d any more. -/
theorem En.drop {d : Nat} {v : Value} (E : En D n a ((d, v) :: L)) (h : ∀ k u, lk L k = some u → k ≠ d) : En D n a L :=
  E.weak fun k u hk => by rw [lk_cons, if_neg (fun e => h k u hk e.symm)]; exact hk

theorem En.start (args : Array Value) (m : Nat) : En [] (args.size + m) { tmps := args ++ Array.replicate m undef, defers := [] } (args.toList.zipIdx.map fun (v, i) => (i, v)) := by
  refine ⟨by simp, rfl, fun k v h => ?_⟩
  have key : ∀ (l : List Value) (j : Nat), lk ((l.zipIdx j).map fun (v, i) => (i, v)) k = some v → ∃ i, k = j + i ∧ l[i]? = some v := by
    intro l
    induction l with
    | nil => intro j h; simp [lk] at h
    | cons x l ih =>
      intro j h
      simp only [List.zipIdx_cons, List.map_cons, lk_cons] at h
      by_cases hj : j = k
      · rw [if_pos hj] at h; exact ⟨0, by omega, by simpa using h⟩
      · rw [if_neg hj] at h
        obtain ⟨i, hi, hl⟩ := ih (j + 1) h
        exact ⟨i + 1, by omega, by simpa using hl⟩
  obtain ⟨i, hi, hv⟩ := key args.toList 0 h
  have hk : k = i := by omega
  subst hk
  have hlt : k < args.size := by
    have := (List.getElem?_eq_some_iff.1 hv).1
    simpa using this
  rw [Array.getElem?_append_left hlt]
  simpa using hv

/-- Is the operation carried out? (By what L says of its guard.) -/
def gdL (ops : Array Oper) (L : Vs) : Option (Nat × Bool) → Option Bool
  | none => some true
  | some (j, want) => match (ops[j]?).bind (·.dst) with
    | some t => match lk L t with
      | some (.bool b) => some (bif b then want else !want)
      | _ => none
    | none => none

theorem En.wanted (E : En D n a L) {o : Oper} {b : Bool} (h : gdL ops L o.guard = some b) : Region.wanted o (yielded ops a.tmps) = b := by
  unfold Region.wanted
  cases hg : o.guard with
  | none => rw [hg] at h; simpa [gdL] using h
  | some jw =>
    obtain ⟨j, want⟩ := jw
    rw [hg] at h
    simp only [gdL] at h
    cases hd : (ops[j]?).bind (·.dst) with
    | none => simp [hd] at h
    | some t =>
      simp only [hd] at h
      cases hl : lk L t with
      | none => simp [hl] at h
      | some v =>
        cases v <;> simp only [hl, reduceCtorEq, Option.some.injEq] at h
        rename_i c
        have := E.get t _ hl
        simp only [yielded, hd, Option.bind_some, this]
        subst h
        cases c <;> cases want <;> rfl

/-- One operation, that leaves v at the place d. -/
theorem sd (E : En D n a L) {o : Oper} {d : Nat} {v : Value} {w1 : World} (ho : OpTo P o a.eval w v w1) (hd : o.dst = some d) (hn : Nat.ble (d + 1) n = true) (hg : gdL ops L o.guard = some true)
    (k : ∀ a', En D n a' ((d, v) :: L) → GL P l ops os a' w1 Q) : GL P l ops (o :: os) a w Q :=
  GL_cons (E.wanted hg) ho (by rw [hd]; exact k _ (E.put hn v))
/-- .. that leaves nothing. -/
theorem sn (E : En D n a L) {o : Oper} {v : Value} {w1 : World} (ho : OpTo P o a.eval w v w1) (hd : o.dst = none) (hg : gdL ops L o.guard = some true)
    (k : GL P l ops os a w1 Q) : GL P l ops (o :: os) a w Q :=
  GL_cons (E.wanted hg) ho (by rw [hd]; exact k)
/-- .. that is passed over. -/
theorem sk (E : En D n a L) {o : Oper} {d : Nat} (hd : o.dst = some d) (hn : Nat.ble (d + 1) n = true) (hg : gdL ops L o.guard = some false)
    (k : ∀ a', En D n a' ((d, undef) :: L) → GL P l ops os a' w Q) : GL P l ops (o :: os) a w Q :=
  GL_pass (E.wanted hg) (by rw [hd]; exact k _ (E.put hn undef))

section
variable {ρ : Operand → Value} {d : Option Nat} {g : Option (Nat × Bool)} {t : Nat} {pos : String} {af : Array Edge} {x y c : Operand} {v u : Value} {k : IntKind}

theorem o_mv (hx : ρ x = v) : OpTo P ⟨d, .move x, t, pos, af, g⟩ ρ w v w := OpTo_value (by intro c h; cases h) (by rw [← hx]; rfl)
theorem o_as (hx : ρ x = v) : OpTo P ⟨d, .assign x, t, pos, af, g⟩ ρ w v w := OpTo_value (by intro c h; cases h) (by rw [← hx]; rfl)

/-- What a binary operation on two integers leaves. -/
def bi (op : BinOp) (k : IntKind) (x y : Int) : Option Value :=
  match op with
  | .add => some (.int k (k.wrap (x + y)))
  | .sub => some (.int k (k.wrap (x - y)))
  | .mul => some (.int k (k.wrap (x * y)))
  | .and => some (.int k (k.wrap (BitVec.ofInt k.bits x &&& BitVec.ofInt k.bits y).toNat))
  | .or => some (.int k (k.wrap (BitVec.ofInt k.bits x ||| BitVec.ofInt k.bits y).toNat))
  | .xor => some (.int k (k.wrap (BitVec.ofInt k.bits x ^^^ BitVec.ofInt k.bits y).toNat))
  | .andNot => some (.int k (k.wrap (BitVec.ofInt k.bits x &&& ~~~BitVec.ofInt k.bits y).toNat))
  | .eql => some (.bool (x == y))
  | .neq => some (.bool (x != y))
  | .lss => some (.bool (x < y))
  | .leq => some (.bool (x ≤ y))
  | .gtr => some (.bool (x > y))
  | .geq => some (.bool (x ≥ y))
  | _ => none

theorem run_bi {op : BinOp} {x y : Int} {ty : TypeId} {ox oy : Operand} (h : bi op k x y = some v) :
    ((do eqGuard op ty ox oy (.int k x) (.int k y); binOp op ty (.int k x) (.int k y) : Sem Value)).run P w = .ok v w := by
  cases op <;> simp only [bi, Option.some.injEq, reduceCtorEq] at h <;> subst h <;> simp [eqGuard, binOp, Op.intArith, Op.intBits, Op.intCmp, Sem.run_bind, go_sem]

theorem o_bi {op : BinOp} {x' y' : Int} {ty ty' : TypeId} (hx : ρ x = .int k x') (hy : ρ y = .int k y') (hv : bi op k x' y' = some v) :
    OpTo P ⟨d, .binOp op ty x y ty', t, pos, af, g⟩ ρ w v w := OpTo_value (by intro c h; cases h) (by simp only [execOp, hx, hy, Sem.run_bind, run_bi hv]; rfl)
end
end Go.Proofs.YtdkfdmalbbfbmaaGreat
