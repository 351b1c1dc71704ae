/-
  No cell of these rows narrows 'for every input' (looked for: loops, veiled, ifaces, maps, wideKeys, modest, calm, conditions, laid).
  DERIVED. THE GIVEN ROWS OF THIS SEAT. 4 by the template 'for every input the law returns true; each argument reads behind the call as it read before'; 0 by the template 'total and deterministic' (their statements: YtdkfdmalbbfbmaaTotals.lean).
  GIVEN WITH THE SEED: the statements are not yours to turn. If you find one false, say at which input.
  Laid BY PROGRAM, IN A SANDBOX (cutbox-rows.mjs): the forced cells as the released guide's own fill.sh prints them over the translation 32a9ba2c11a5d4fd… (all of the seat's roots in one cut). By AI agents, Wed Nov 11 2026. No macro, syntax, notation, axiom, sorry.
-/
import Derived.Test.YtdkfdmalbbfbmaaChecked
import GoSem.Claim
import GoSem.ClaimJoined
import GoSem.ClaimMapViews
import Derived.JoinedTies
import Derived.KernelRfl
namespace Go.Proofs.Ytdkfdmalbbfbmaa
/- THE CELL 'sum', in the pinned program and in every row, IS THE sha256 OF THE DUMP (.gsa) THAT YtdkfdmalbbfbmaaProg.lean LOADS. Nothing in Lean hashes anything: it is a label: what it is worth is what the hold of that sum in a sandbox is worth. -/
noncomputable def Try.pinned : Pinned := { name := "ytdkfdmalbbfbmaa", sum := "32a9ba2c11a5d4fda5cf122b9422933dd23d743407a08e00d5329f2167e78e0e", checked := Try.checked }
namespace Rows
def none {H : Type} : Left H := { results := [], args := [] }

/-- 'gimmallaw08.LogAgain': WHATEVER THE INPUT: true; the input reads as it did. -/
def logAgainSpec : ChangeSpec := { name := "logAgain", fn := fun _ => fun
  | [d1, d2] => { results := [.lit (.bool true)], args := [d1, d2] }
  | _ => none }
def logAgainRow : OpenClaim := { program := "ytdkfdmalbbfbmaa", sum := "32a9ba2c11a5d4fda5cf122b9422933dd23d743407a08e00d5329f2167e78e0e", func := "gimmal/gimmallaw08.LogAgain", spec := "logAgain", unfollowed := true, recurses := true, apart := false }
def LogAgainSaid : Prop := logAgainRow.holds Try.pinned (OpenSpec.ofChange logAgainSpec)

/-- ITS FALSE NEIGHBOUR: 'it returns false'. Refute it at one input. -/
def logAgainWrong : ChangeSpec := { name := "logAgain", fn := fun _ => fun
  | [d1, d2] => { results := [.lit (.bool false)], args := [d1, d2] }
  | _ => none }
def LogAgainWrongFalsely : Prop := logAgainRow.holds Try.pinned (OpenSpec.ofChange logAgainWrong)

/-- 'gimmallaw08.LogLost': WHATEVER THE INPUT: true; the input reads as it did. -/
def logLostSpec : ChangeSpec := { name := "logLost", fn := fun _ => fun
  | [d1, d2, d3, d4, d5] => { results := [.lit (.bool true)], args := [d1, d2, d3, d4, d5] }
  | _ => none }
def logLostRow : OpenClaim := { program := "ytdkfdmalbbfbmaa", sum := "32a9ba2c11a5d4fda5cf122b9422933dd23d743407a08e00d5329f2167e78e0e", func := "gimmal/gimmallaw08.LogLost", spec := "logLost", unfollowed := true, recurses := true, apart := false }
def LogLostSaid : Prop := logLostRow.holds Try.pinned (OpenSpec.ofChange logLostSpec)

/-- ITS FALSE NEIGHBOUR: 'it returns false'. Refute it at one input. -/
def logLostWrong : ChangeSpec := { name := "logLost", fn := fun _ => fun
  | [d1, d2, d3, d4, d5] => { results := [.lit (.bool false)], args := [d1, d2, d3, d4, d5] }
  | _ => none }
def LogLostWrongFalsely : Prop := logLostRow.holds Try.pinned (OpenSpec.ofChange logLostWrong)

/-- 'gimmallaw08.LogLasts': WHATEVER THE INPUT: true; the input reads as it did. -/
def logLastsSpec : ChangeSpec := { name := "logLasts", fn := fun _ => fun
  | [d1, d2, d3, d4] => { results := [.lit (.bool true)], args := [d1, d2, d3, d4] }
  | _ => none }
def logLastsRow : OpenClaim := { program := "ytdkfdmalbbfbmaa", sum := "32a9ba2c11a5d4fda5cf122b9422933dd23d743407a08e00d5329f2167e78e0e", func := "gimmal/gimmallaw08.LogLasts", spec := "logLasts", unfollowed := true, recurses := true, apart := false }
def LogLastsSaid : Prop := logLastsRow.holds Try.pinned (OpenSpec.ofChange logLastsSpec)

/-- ITS FALSE NEIGHBOUR: 'it returns false'. Refute it at one input. -/
def logLastsWrong : ChangeSpec := { name := "logLasts", fn := fun _ => fun
  | [d1, d2, d3, d4] => { results := [.lit (.bool false)], args := [d1, d2, d3, d4] }
  | _ => none }
def LogLastsWrongFalsely : Prop := logLastsRow.holds Try.pinned (OpenSpec.ofChange logLastsWrong)

/-- 'gimmallaw22.VaultAgain': WHATEVER THE INPUT: true; the input reads as it did. -/
def vaultAgainSpec : ChangeSpec := { name := "vaultAgain", fn := fun _ => fun
  | [d1, d2, d3] => { results := [.lit (.bool true)], args := [d1, d2, d3] }
  | _ => none }
def vaultAgainRow : OpenClaim := { program := "ytdkfdmalbbfbmaa", sum := "32a9ba2c11a5d4fda5cf122b9422933dd23d743407a08e00d5329f2167e78e0e", func := "gimmal/gimmallaw22.VaultAgain", spec := "vaultAgain", unfollowed := true, recurses := true, apart := false }
def VaultAgainSaid : Prop := vaultAgainRow.holds Try.pinned (OpenSpec.ofChange vaultAgainSpec)

/-- ITS FALSE NEIGHBOUR: 'it returns false'. Refute it at one input. -/
def vaultAgainWrong : ChangeSpec := { name := "vaultAgain", fn := fun _ => fun
  | [d1, d2, d3] => { results := [.lit (.bool false)], args := [d1, d2, d3] }
  | _ => none }
def VaultAgainWrongFalsely : Prop := vaultAgainRow.holds Try.pinned (OpenSpec.ofChange vaultAgainWrong)

/- THE SECOND FORM. 'bulk': how many values and letters a reading holds, each counted each time it is reached (what is shared counts as often as it is met; a slice's spare places count too). A statement '..UptoSaid' is the law's where the arguments, and the package variables that the reading takes, are together of bulk at most 1048576: NARROWER than '..Said'. Prove '..Said' where nothing that the law and all that it calls make is longer than what came in: it says more and counts as full. Else prove '..UptoSaid'. A law counts once. -/
mutual
def uptoBulk {H : Type} : DataW H → Nat
  | .lit (.string bytes) => bytes.length + 1
  | .lit _ => 1
  | .nil => 1
  | .ptr d => uptoBulk d + 1
  | .slice elems spare => uptoBulkAll elems + uptoBulkAll spare + 1
  | .agg parts => uptoBulkAll parts + 1
  | .iface _ d => uptoBulk d + 1
  | .map entries => uptoBulkEntries entries + 1
  | .held _ => 1
def uptoBulkAll {H : Type} : List (DataW H) → Nat
  | [] => 0
  | d :: r => uptoBulk d + uptoBulkAll r
def uptoBulkEntries {H : Type} : List (Lit × DataW H) → Nat
  | [] => 0
  | x :: r => uptoBulkEntry x + uptoBulkEntries r
def uptoBulkEntry {H : Type} : Lit × DataW H → Nat
  | (.string bytes, d) => bytes.length + uptoBulk d + 1
  | (_, d) => uptoBulk d + 1
 end
def uptoSmall : (H : Type) → List (DataW H) → Bool := fun _ ds => decide (uptoBulkAll ds ≤ 1048576)
def OpenSpec.upto (s : _root_.Go.ChangeSpec) : _root_.Go.OpenSpec := { _root_.Go.OpenSpec.ofChange s with cond := some uptoSmall }

/-- 'gimmallaw08.LogAgain', WHERE WHAT IT READS IS OF BULK AT MOST 1048576: true; the input reads as it did. -/
def logAgainUptoRow : OpenClaim := { program := "ytdkfdmalbbfbmaa", sum := "32a9ba2c11a5d4fda5cf122b9422933dd23d743407a08e00d5329f2167e78e0e", func := "gimmal/gimmallaw08.LogAgain", spec := "logAgain", unfollowed := true, recurses := true, apart := false, narrowed := true }
def LogAgainUptoSaid : Prop := logAgainUptoRow.holds Try.pinned (OpenSpec.upto logAgainSpec)

/-- 'gimmallaw08.LogLost', WHERE WHAT IT READS IS OF BULK AT MOST 1048576: true; the input reads as it did. -/
def logLostUptoRow : OpenClaim := { program := "ytdkfdmalbbfbmaa", sum := "32a9ba2c11a5d4fda5cf122b9422933dd23d743407a08e00d5329f2167e78e0e", func := "gimmal/gimmallaw08.LogLost", spec := "logLost", unfollowed := true, recurses := true, apart := false, narrowed := true }
def LogLostUptoSaid : Prop := logLostUptoRow.holds Try.pinned (OpenSpec.upto logLostSpec)

/-- 'gimmallaw08.LogLasts', WHERE WHAT IT READS IS OF BULK AT MOST 1048576: true; the input reads as it did. -/
def logLastsUptoRow : OpenClaim := { program := "ytdkfdmalbbfbmaa", sum := "32a9ba2c11a5d4fda5cf122b9422933dd23d743407a08e00d5329f2167e78e0e", func := "gimmal/gimmallaw08.LogLasts", spec := "logLasts", unfollowed := true, recurses := true, apart := false, narrowed := true }
def LogLastsUptoSaid : Prop := logLastsUptoRow.holds Try.pinned (OpenSpec.upto logLastsSpec)

/-- 'gimmallaw22.VaultAgain', WHERE WHAT IT READS IS OF BULK AT MOST 1048576: true; the input reads as it did. -/
def vaultAgainUptoRow : OpenClaim := { program := "ytdkfdmalbbfbmaa", sum := "32a9ba2c11a5d4fda5cf122b9422933dd23d743407a08e00d5329f2167e78e0e", func := "gimmal/gimmallaw22.VaultAgain", spec := "vaultAgain", unfollowed := true, recurses := true, apart := false, narrowed := true }
def VaultAgainUptoSaid : Prop := vaultAgainUptoRow.holds Try.pinned (OpenSpec.upto vaultAgainSpec)

end Rows
end Go.Proofs.Ytdkfdmalbbfbmaa
