/-
  No cell of these rows narrows 'for every input' (looked for: loops, veiled, ifaces, maps, wideKeys, modest, calm, conditions, laid).
  DERIVED. THE GIVEN ROWS OF THIS SEAT. 4 by the template 'for every input the law returns true; each argument reads behind the call as it read before'; 0 by the template 'total and deterministic' (their statements: YtdlehpohpdepkaaTotals.lean).
  GIVEN WITH THE SEED: the statements are not yours to turn. If you find one false, say at which input.
  Laid BY PROGRAM, IN A SANDBOX (cutbox-rows.mjs): the forced cells as the released guide's own fill.sh prints them over the translation 0def781b2c7fe4e5… (all of the seat's roots in one cut). By AI agents, Wed Nov 11 2026. No macro, syntax, notation, axiom, sorry.
-/
import Derived.Test.YtdlehpohpdepkaaChecked
import GoSem.Claim
import GoSem.ClaimJoined
import GoSem.ClaimMapViews
import Derived.JoinedTies
import Derived.KernelRfl
namespace Go.Proofs.Ytdlehpohpdepkaa
/- THE CELL 'sum', in the pinned program and in every row, IS THE sha256 OF THE DUMP (.gsa) THAT YtdlehpohpdepkaaProg.lean LOADS. Nothing in Lean hashes anything: it is a label: what it is worth is what the hold of that sum in a sandbox is worth. -/
noncomputable def Try.pinned : Pinned := { name := "ytdlehpohpdepkaa", sum := "0def781b2c7fe4e56ae695b9a8b1b34648f13d5e9231bf273a825732549b88da", checked := Try.checked }
namespace Rows
def none {H : Type} : Left H := { results := [], args := [] }

/-- 'airsharelaw11.QueueValid': WHATEVER THE INPUT: true; the input reads as it did. -/
def queueValidSpec : ChangeSpec := { name := "queueValid", fn := fun _ => fun
  | [d1, d2] => { results := [.lit (.bool true)], args := [d1, d2] }
  | _ => none }
def queueValidRow : OpenClaim := { program := "ytdlehpohpdepkaa", sum := "0def781b2c7fe4e56ae695b9a8b1b34648f13d5e9231bf273a825732549b88da", func := "airshare/airsharelaw11.QueueValid", spec := "queueValid", apart := false }
def QueueValidSaid : Prop := queueValidRow.holds Try.pinned (OpenSpec.ofChange queueValidSpec)

/-- ITS FALSE NEIGHBOUR: 'it returns false'. Refute it at one input. -/
def queueValidWrong : ChangeSpec := { name := "queueValid", fn := fun _ => fun
  | [d1, d2] => { results := [.lit (.bool false)], args := [d1, d2] }
  | _ => none }
def QueueValidWrongFalsely : Prop := queueValidRow.holds Try.pinned (OpenSpec.ofChange queueValidWrong)

/-- 'airsharelaw11.QueueCaps': WHATEVER THE INPUT: true; the input reads as it did. -/
def queueCapsSpec : ChangeSpec := { name := "queueCaps", fn := fun _ => fun
  | [d] => { results := [.lit (.bool true)], args := [d] }
  | _ => none }
def queueCapsRow : OpenClaim := { program := "ytdlehpohpdepkaa", sum := "0def781b2c7fe4e56ae695b9a8b1b34648f13d5e9231bf273a825732549b88da", func := "airshare/airsharelaw11.QueueCaps", spec := "queueCaps", apart := false }
def QueueCapsSaid : Prop := queueCapsRow.holds Try.pinned (OpenSpec.ofChange queueCapsSpec)

/-- ITS FALSE NEIGHBOUR: 'it returns false'. Refute it at one input. -/
def queueCapsWrong : ChangeSpec := { name := "queueCaps", fn := fun _ => fun
  | [d] => { results := [.lit (.bool false)], args := [d] }
  | _ => none }
def QueueCapsWrongFalsely : Prop := queueCapsRow.holds Try.pinned (OpenSpec.ofChange queueCapsWrong)

/-- 'airsharelaw11.QueueOrder': WHATEVER THE INPUT: true; the input reads as it did. -/
def queueOrderSpec : ChangeSpec := { name := "queueOrder", fn := fun _ => fun
  | [d] => { results := [.lit (.bool true)], args := [d] }
  | _ => none }
def queueOrderRow : OpenClaim := { program := "ytdlehpohpdepkaa", sum := "0def781b2c7fe4e56ae695b9a8b1b34648f13d5e9231bf273a825732549b88da", func := "airshare/airsharelaw11.QueueOrder", spec := "queueOrder", unfollowed := true, recurses := true, apart := false }
def QueueOrderSaid : Prop := queueOrderRow.holds Try.pinned (OpenSpec.ofChange queueOrderSpec)

/-- ITS FALSE NEIGHBOUR: 'it returns false'. Refute it at one input. -/
def queueOrderWrong : ChangeSpec := { name := "queueOrder", fn := fun _ => fun
  | [d] => { results := [.lit (.bool false)], args := [d] }
  | _ => none }
def QueueOrderWrongFalsely : Prop := queueOrderRow.holds Try.pinned (OpenSpec.ofChange queueOrderWrong)

/-- 'airsharelaw11.QueueScript': WHATEVER THE INPUT: true; the input reads as it did. -/
def queueScriptSpec : ChangeSpec := { name := "queueScript", fn := fun _ => fun
  | [d1, d2, d3] => { results := [.lit (.bool true)], args := [d1, d2, d3] }
  | _ => none }
def queueScriptRow : OpenClaim := { program := "ytdlehpohpdepkaa", sum := "0def781b2c7fe4e56ae695b9a8b1b34648f13d5e9231bf273a825732549b88da", func := "airshare/airsharelaw11.QueueScript", spec := "queueScript", unfollowed := true, recurses := true, apart := false }
def QueueScriptSaid : Prop := queueScriptRow.holds Try.pinned (OpenSpec.ofChange queueScriptSpec)

/-- ITS FALSE NEIGHBOUR: 'it returns false'. Refute it at one input. -/
def queueScriptWrong : ChangeSpec := { name := "queueScript", fn := fun _ => fun
  | [d1, d2, d3] => { results := [.lit (.bool false)], args := [d1, d2, d3] }
  | _ => none }
def QueueScriptWrongFalsely : Prop := queueScriptRow.holds Try.pinned (OpenSpec.ofChange queueScriptWrong)

/- THE SECOND FORM. 'bulk': how many values and letters a reading holds, each counted each time it is reached (what is shared counts as often as it is met; a slice's spare places count too). A statement '..UptoSaid' is the law's where the arguments, and the package variables that the reading takes, are together of bulk at most 1048576: NARROWER than '..Said'. Prove '..Said' where nothing that the law and all that it calls make is longer than what came in: it says more and counts as full. Else prove '..UptoSaid'. A law counts once. -/
mutual
def uptoBulk {H : Type} : DataW H → Nat
  | .lit (.string bytes) => bytes.length + 1
  | .lit _ => 1
  | .nil => 1
  | .ptr d => uptoBulk d + 1
  | .slice elems spare => uptoBulkAll elems + uptoBulkAll spare + 1
  | .agg parts => uptoBulkAll parts + 1
  | .iface _ d => uptoBulk d + 1
  | .map entries => uptoBulkEntries entries + 1
  | .held _ => 1
def uptoBulkAll {H : Type} : List (DataW H) → Nat
  | [] => 0
  | d :: r => uptoBulk d + uptoBulkAll r
def uptoBulkEntries {H : Type} : List (Lit × DataW H) → Nat
  | [] => 0
  | x :: r => uptoBulkEntry x + uptoBulkEntries r
def uptoBulkEntry {H : Type} : Lit × DataW H → Nat
  | (.string bytes, d) => bytes.length + uptoBulk d + 1
  | (_, d) => uptoBulk d + 1
 end
def uptoSmall : (H : Type) → List (DataW H) → Bool := fun _ ds => decide (uptoBulkAll ds ≤ 1048576)
def OpenSpec.upto (s : _root_.Go.ChangeSpec) : _root_.Go.OpenSpec := { _root_.Go.OpenSpec.ofChange s with cond := some uptoSmall }

/-- 'airsharelaw11.QueueValid', WHERE WHAT IT READS IS OF BULK AT MOST 1048576: true; the input reads as it did. -/
def queueValidUptoRow : OpenClaim := { program := "ytdlehpohpdepkaa", sum := "0def781b2c7fe4e56ae695b9a8b1b34648f13d5e9231bf273a825732549b88da", func := "airshare/airsharelaw11.QueueValid", spec := "queueValid", apart := false, narrowed := true }
def QueueValidUptoSaid : Prop := queueValidUptoRow.holds Try.pinned (OpenSpec.upto queueValidSpec)

/-- 'airsharelaw11.QueueCaps', WHERE WHAT IT READS IS OF BULK AT MOST 1048576: true; the input reads as it did. -/
def queueCapsUptoRow : OpenClaim := { program := "ytdlehpohpdepkaa", sum := "0def781b2c7fe4e56ae695b9a8b1b34648f13d5e9231bf273a825732549b88da", func := "airshare/airsharelaw11.QueueCaps", spec := "queueCaps", apart := false, narrowed := true }
def QueueCapsUptoSaid : Prop := queueCapsUptoRow.holds Try.pinned (OpenSpec.upto queueCapsSpec)

/-- 'airsharelaw11.QueueOrder', WHERE WHAT IT READS IS OF BULK AT MOST 1048576: true; the input reads as it did. -/
def queueOrderUptoRow : OpenClaim := { program := "ytdlehpohpdepkaa", sum := "0def781b2c7fe4e56ae695b9a8b1b34648f13d5e9231bf273a825732549b88da", func := "airshare/airsharelaw11.QueueOrder", spec := "queueOrder", unfollowed := true, recurses := true, apart := false, narrowed := true }
def QueueOrderUptoSaid : Prop := queueOrderUptoRow.holds Try.pinned (OpenSpec.upto queueOrderSpec)

/-- 'airsharelaw11.QueueScript', WHERE WHAT IT READS IS OF BULK AT MOST 1048576: true; the input reads as it did. -/
def queueScriptUptoRow : OpenClaim := { program := "ytdlehpohpdepkaa", sum := "0def781b2c7fe4e56ae695b9a8b1b34648f13d5e9231bf273a825732549b88da", func := "airshare/airsharelaw11.QueueScript", spec := "queueScript", unfollowed := true, recurses := true, apart := false, narrowed := true }
def QueueScriptUptoSaid : Prop := queueScriptUptoRow.holds Try.pinned (OpenSpec.upto queueScriptSpec)

end Rows
end Go.Proofs.Ytdlehpohpdepkaa
