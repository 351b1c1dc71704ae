/- What a row's arguments say: read as data of our kinds, to stay. -/
import Derived.Test.YtdkfdmalbbfbmaaE0
import Derived.WalkKit
import Derived.ProofKit
import Derived.OpenShut
import Derived.ChangeOld
import Derived.ChangeArms
import Derived.DataReads
import Derived.Below
import Derived.Carry
namespace Go.Proofs.Ytdkfdmalbbfbmaa
open Go Go.ChangeShapes Go.WideShapes Go.ChangeAt Go.RowKit

/-- Nothing may be written. -/
def St.cold (w : World) : St := ⟨fun _ => Option.none, w, fun _ h => absurd rfl h⟩
theorem cold_M (w : World) (b : Nat) : ¬ (St.cold w).M b := fun h => h rfl
theorem Tr.below {s' : St} {w : World} (t : Tr No (St.cold w) s') : Below w.heap.size w s'.w := t.ext.below

/-- Things of the type e read as the kind K, and are ok. -/
def Dec {α : Type} (P : Program) (K : Kd α) (e : TypeId) (ok : α → Prop) : Prop :=
  P.cellsOf e = K.sz ∧ ∀ {H : Type} (enc : TypeId × Value → H) (w : World) (fuel : Nat) (cs : List Value) (x : DataW H × List MemPlace),
    DataW.trod enc P w 0 (fun _ => true) true fuel e cs = some x → ∃ a, K.R (St.cold w) cs a ∧ ok a

variable {P : Program} {t e : TypeId}
theorem Dec.int {k : IntKind} (he : P.underlying e = some (.int k)) (hc : P.cellsOf e = 1) : Dec P (kInt k) e (fun n => (Lit.int k n).wf = true) :=
  ⟨hc, fun enc w fuel cs x h => let ⟨n, h1, _, h2⟩ := DataW.trod_int he h; ⟨n, h1, h2⟩⟩
theorem Dec.bool (he : P.underlying e = some .bool) (hc : P.cellsOf e = 1) : Dec P kBool e (fun _ => True) :=
  ⟨hc, fun enc w fuel cs x h => let ⟨n, h1, _⟩ := DataW.trod_bool he h; ⟨n, h1, trivial⟩⟩

theorem encs_of {α : Type} {K : Kd α} {s : St} {ok : α → Prop} {b o : Nat} (hall : ∀ b, ¬ s.M b) : ∀ (n i : Nat),
    (∀ j, i ≤ j → j < i + n → ∃ cs a, K.R s cs a ∧ ok a ∧ ∀ q u, cs[q]? = some u → s.w.cell? ⟨b, o + j * K.sz + q, none⟩ = some u) →
    ∃ xs cs, Encs K s xs cs ∧ xs.length = n ∧ (∀ x ∈ xs, ok x) ∧ ∀ j u, cs[j]? = some u → s.w.cell? ⟨b, o + i * K.sz + j, none⟩ = some u
  | 0, i, _ => ⟨[], [], rfl, rfl, (fun x h => absurd h List.not_mem_nil), fun j u h => absurd h (by simp)⟩
  | n + 1, i, h => by
    obtain ⟨cs0, a, h1, h2, h3⟩ := h i (Nat.le_refl _) (by omega)
    obtain ⟨xs, cs, k1, k2, k3, k4⟩ := encs_of hall n (i + 1) (fun j hj hj2 => h j (by omega) (by omega))
    refine ⟨a :: xs, cs0 ++ cs, ⟨cs0, cs, rfl, h1, k1⟩, by simp [k2], fun x hx => ?_, fun j u hu => ?_⟩
    · rcases List.mem_cons.1 hx with rfl | hx
      · exact h2
      · exact k3 x hx
    · rw [List.getElem?_append] at hu
      split at hu
      · exact h3 j u hu
      · rename_i hj
        have := k4 _ u hu
        have hl := K.len h1
        have e1 : o + (i + 1) * K.sz + (j - cs0.length) = o + i * K.sz + j := by rw [Nat.add_mul, hl]; omega
        rwa [e1] at this

theorem Dec.sl {α : Type} {K : Kd α} {ok : α → Prop} (D : Dec P K e ok) (hpos : 0 < K.sz) (ht : P.underlying t = some (.slice e)) (hc : P.cellsOf t = 1) :
    Dec P (kSl K) t (fun xs => xs.length ≤ maxLen ∧ ∀ x ∈ xs, ok x) := by
  refine ⟨hc, fun enc w fuel cs x h => ?_⟩
  obtain ⟨hsz, D⟩ := D
  rcases DataW.trod_slice ht h with ⟨rfl, _⟩ | ⟨a, len, cap, elems, rest, n, _, rfl, _, _, hl, hm, hlen, hel, _⟩
  · exact ⟨[], ⟨_, rfl, Sl.nil⟩, Nat.zero_le _, fun x h => by cases h⟩
  by_cases h0 : len = 0
  · subst h0
    exact ⟨[], ⟨_, rfl, some a, cap, rfl, Nat.zero_le _, nofun, .inl rfl⟩, Nat.zero_le _, fun x h => by cases h⟩
  have get : ∀ i, i < len → ∃ cs a', K.R (St.cold w) cs a' ∧ ok a' ∧ ∀ q u, cs[q]? = some u → w.cell? ((a.add (i * K.sz)).add q) = some u := by
    intro i hi
    have h1 := hel i hi
    obtain ⟨y, hy⟩ : ∃ y, elems[i]? = some y := ⟨_, List.getElem?_eq_getElem (by omega)⟩
    rw [hy, Option.bind_eq_some_iff] at h1
    obtain ⟨cs', h1, h2⟩ := h1
    obtain ⟨_, hl', hcs⟩ := World.cells?_some h1
    obtain ⟨a', k1, k2⟩ := D enc w n cs' y h2
    refine ⟨cs', a', k1, k2, fun q u hq => ?_⟩
    have hq' := (List.getElem?_eq_some_iff.1 hq).1
    rw [hsz] at hcs hl'
    rw [← hq]; exact hcs q (by omega)
  have hspot : a.spot = none := by
    obtain ⟨cs', a', k1, _, k3⟩ := get 0 (by omega)
    have hl' := K.len k1
    have := k3 0 _ (List.getElem?_eq_getElem (by omega))
    have e1 : (a.add (0 * K.sz)).add 0 = a := by simp [Addr.add]
    rw [e1] at this
    unfold World.cell? at this
    split at this
    · split at this
      · cases this
      · rename_i h; simpa using h
    · cases this
  obtain ⟨b, o, sp⟩ := a
  simp only at hspot; subst hspot
  obtain ⟨xs, cs, k1, k2, k3, k4⟩ := encs_of (K := K) (s := St.cold w) (ok := ok) (b := b) (o := o) (cold_M w) len 0 (fun j _ hj => by
    obtain ⟨cs, a', g1, g2, g3⟩ := get j (by omega)
    refine ⟨cs, a', g1, g2, fun q u hq => ?_⟩
    have := g3 q u hq
    rw [add_none, add_none] at this
    exact this)
  refine ⟨xs, ⟨_, rfl, some ⟨b, o, none⟩, cap, by rw [k2], by omega, nofun, .inr ⟨b, o, cs, rfl, cold_M w b, ?_, k1, fun j u hu => ?_⟩⟩, by omega, k3⟩
  · obtain ⟨cs', a', k1, _, k3⟩ := get 0 (by omega)
    have hl' := K.len k1
    have := k3 0 _ (List.getElem?_eq_getElem (by omega))
    rw [add_none, add_none] at this
    unfold World.cell? at this
    split at this
    · rename_i hb
      exact (Array.getElem?_eq_some_iff.1 hb).1
    · cases this
  · have := k4 j u hu
    simpa using this

theorem Dec.fr {Tk Tw Te : TypeId} {f0 f1 : Field} (he : P.underlying e = some (.struct #[f0, f1])) (hc : P.cellsOf e = 2) (h0 : f0.offset = 0) (h1 : f1.offset = 1) (t0 : f0.type = Tk) (t1 : f1.type = Tw)
    (hk : P.underlying Tk = some (.int .i64)) (ck : P.cellsOf Tk = 1) (hw : P.underlying Tw = some (.slice Te)) (cw : P.cellsOf Tw = 1) (hu : P.underlying Te = some (.int .u64)) (cu : P.cellsOf Te = 1) :
    Dec P kFr e (fun F => (Lit.int .i64 F.Kind).wf = true ∧ F.Words.length ≤ maxLen ∧ ∀ x ∈ F.Words, (Lit.int .u64 x).wf = true) := by
  refine ⟨hc, fun enc w fuel cs x h => ?_⟩
  obtain ⟨xs, n, _, _, hl, hxl, hf⟩ := DataW.trod_struct he h
  rw [hc] at hl
  obtain ⟨c0, c1, rfl⟩ : ∃ a b, cs = [a, b] := by
    match cs, hl with
    | [a, b], _ => exact ⟨a, b, rfl⟩
  have g0 := hf 0 f0 rfl
  have g1 := hf 1 f1 rfl
  rw [t0, h0, ck] at g0
  rw [t1, h1, cw] at g1
  obtain ⟨y0, hy0⟩ : ∃ y, xs[0]? = some y := ⟨_, List.getElem?_eq_getElem (by rw [hxl]; simp)⟩
  obtain ⟨y1, hy1⟩ : ∃ y, xs[1]? = some y := ⟨_, List.getElem?_eq_getElem (by rw [hxl]; simp)⟩
  rw [hy0] at g0
  rw [hy1] at g1
  obtain ⟨k, hk1, hk2⟩ := (Dec.int hk ck).2 enc w n _ _ g0
  obtain ⟨ws, ⟨v, hv, hs⟩, hw2⟩ := (Dec.sl (Dec.int hu cu) (by decide) hw cw).2 enc w n _ _ g1
  have hk1 : [c0] = [.int .i64 k] := hk1
  simp at hk1 hv
  subst hk1; subst hv
  exact ⟨⟨k, ws⟩, ⟨c1, rfl, hs⟩, hk2, hw2⟩
end Go.Proofs.Ytdkfdmalbbfbmaa
