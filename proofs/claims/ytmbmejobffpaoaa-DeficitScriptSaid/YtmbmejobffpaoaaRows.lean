/-
  No cell of these rows narrows 'for every input' (looked for: loops, veiled, ifaces, maps, wideKeys, modest, calm, conditions, laid).
  DERIVED. THE GIVEN ROWS OF THIS SEAT. 4 by the template 'for every input the law returns true; each argument reads behind the call as it read before'; 0 by the template 'total and deterministic' (their statements: YtmbmejobffpaoaaTotals.lean).
  GIVEN WITH THE SEED: the statements are not yours to turn. If you find one false, say at which input.
  Laid BY PROGRAM, IN A SANDBOX (cutbox-rows.mjs): the forced cells as the released guide's own fill.sh prints them over the translation 786e8671361e255c… (all of the seat's roots in one cut). By AI agents, Wed Nov 11 2026. No macro, syntax, notation, axiom, sorry.
-/
import Derived.Test.YtmbmejobffpaoaaChecked
import GoSem.Claim
import GoSem.ClaimJoined
import GoSem.ClaimMapViews
import Derived.JoinedTies
import Derived.KernelRfl
namespace Go.Proofs.Ytmbmejobffpaoaa
/- THE CELL 'sum', in the pinned program and in every row, IS THE sha256 OF THE DUMP (.gsa) THAT YtmbmejobffpaoaaProg.lean LOADS. Nothing in Lean hashes anything: it is a label: what it is worth is what the hold of that sum in a sandbox is worth. -/
noncomputable def Try.pinned : Pinned := { name := "ytmbmejobffpaoaa", sum := "786e8671361e255c42f173c2ec99718531cbcc0f286740ee3116bb5c0a6c5e4d", checked := Try.checked }
namespace Rows
def none {H : Type} : Left H := { results := [], args := [] }

/-- 'airsharelaw21.DeficitTurns': WHATEVER THE INPUT: true; the input reads as it did. -/
def deficitTurnsSpec : ChangeSpec := { name := "deficitTurns", fn := fun _ => fun
  | [d] => { results := [.lit (.bool true)], args := [d] }
  | _ => none }
def deficitTurnsRow : OpenClaim := { program := "ytmbmejobffpaoaa", sum := "786e8671361e255c42f173c2ec99718531cbcc0f286740ee3116bb5c0a6c5e4d", func := "airshare/airsharelaw21.DeficitTurns", spec := "deficitTurns", unfollowed := true, recurses := true, apart := false }
def DeficitTurnsSaid : Prop := deficitTurnsRow.holds Try.pinned (OpenSpec.ofChange deficitTurnsSpec)

/-- ITS FALSE NEIGHBOUR: 'it returns false'. Refute it at one input. -/
def deficitTurnsWrong : ChangeSpec := { name := "deficitTurns", fn := fun _ => fun
  | [d] => { results := [.lit (.bool false)], args := [d] }
  | _ => none }
def DeficitTurnsWrongFalsely : Prop := deficitTurnsRow.holds Try.pinned (OpenSpec.ofChange deficitTurnsWrong)

/-- 'airsharelaw21.DeficitHead': WHATEVER THE INPUT: true; the input reads as it did. -/
def deficitHeadSpec : ChangeSpec := { name := "deficitHead", fn := fun _ => fun
  | [d] => { results := [.lit (.bool true)], args := [d] }
  | _ => none }
def deficitHeadRow : OpenClaim := { program := "ytmbmejobffpaoaa", sum := "786e8671361e255c42f173c2ec99718531cbcc0f286740ee3116bb5c0a6c5e4d", func := "airshare/airsharelaw21.DeficitHead", spec := "deficitHead", unfollowed := true, recurses := true, apart := false }
def DeficitHeadSaid : Prop := deficitHeadRow.holds Try.pinned (OpenSpec.ofChange deficitHeadSpec)

/-- ITS FALSE NEIGHBOUR: 'it returns false'. Refute it at one input. -/
def deficitHeadWrong : ChangeSpec := { name := "deficitHead", fn := fun _ => fun
  | [d] => { results := [.lit (.bool false)], args := [d] }
  | _ => none }
def DeficitHeadWrongFalsely : Prop := deficitHeadRow.holds Try.pinned (OpenSpec.ofChange deficitHeadWrong)

/-- 'airsharelaw21.DeficitShares': WHATEVER THE INPUT: true; the input reads as it did. -/
def deficitSharesSpec : ChangeSpec := { name := "deficitShares", fn := fun _ => fun
  | [d] => { results := [.lit (.bool true)], args := [d] }
  | _ => none }
def deficitSharesRow : OpenClaim := { program := "ytmbmejobffpaoaa", sum := "786e8671361e255c42f173c2ec99718531cbcc0f286740ee3116bb5c0a6c5e4d", func := "airshare/airsharelaw21.DeficitShares", spec := "deficitShares", unfollowed := true, recurses := true, apart := false }
def DeficitSharesSaid : Prop := deficitSharesRow.holds Try.pinned (OpenSpec.ofChange deficitSharesSpec)

/-- ITS FALSE NEIGHBOUR: 'it returns false'. Refute it at one input. -/
def deficitSharesWrong : ChangeSpec := { name := "deficitShares", fn := fun _ => fun
  | [d] => { results := [.lit (.bool false)], args := [d] }
  | _ => none }
def DeficitSharesWrongFalsely : Prop := deficitSharesRow.holds Try.pinned (OpenSpec.ofChange deficitSharesWrong)

/-- 'airsharelaw21.DeficitScript': WHATEVER THE INPUT: true; the input reads as it did. -/
def deficitScriptSpec : ChangeSpec := { name := "deficitScript", fn := fun _ => fun
  | [d1, d2, d3] => { results := [.lit (.bool true)], args := [d1, d2, d3] }
  | _ => none }
def deficitScriptRow : OpenClaim := { program := "ytmbmejobffpaoaa", sum := "786e8671361e255c42f173c2ec99718531cbcc0f286740ee3116bb5c0a6c5e4d", func := "airshare/airsharelaw21.DeficitScript", spec := "deficitScript", unfollowed := true, recurses := true, apart := false }
def DeficitScriptSaid : Prop := deficitScriptRow.holds Try.pinned (OpenSpec.ofChange deficitScriptSpec)

/-- ITS FALSE NEIGHBOUR: 'it returns false'. Refute it at one input. -/
def deficitScriptWrong : ChangeSpec := { name := "deficitScript", fn := fun _ => fun
  | [d1, d2, d3] => { results := [.lit (.bool false)], args := [d1, d2, d3] }
  | _ => none }
def DeficitScriptWrongFalsely : Prop := deficitScriptRow.holds Try.pinned (OpenSpec.ofChange deficitScriptWrong)

/- THE SECOND FORM. 'bulk': how many values and letters a reading holds, each counted each time it is reached (what is shared counts as often as it is met; a slice's spare places count too). A statement '..UptoSaid' is the law's where the arguments, and the package variables that the reading takes, are together of bulk at most 1048576: NARROWER than '..Said'. Prove '..Said' where nothing that the law and all that it calls make is longer than what came in: it says more and counts as full. Else prove '..UptoSaid'. A law counts once. -/
mutual
def uptoBulk {H : Type} : DataW H → Nat
  | .lit (.string bytes) => bytes.length + 1
  | .lit _ => 1
  | .nil => 1
  | .ptr d => uptoBulk d + 1
  | .slice elems spare => uptoBulkAll elems + uptoBulkAll spare + 1
  | .agg parts => uptoBulkAll parts + 1
  | .iface _ d => uptoBulk d + 1
  | .map entries => uptoBulkEntries entries + 1
  | .held _ => 1
def uptoBulkAll {H : Type} : List (DataW H) → Nat
  | [] => 0
  | d :: r => uptoBulk d + uptoBulkAll r
def uptoBulkEntries {H : Type} : List (Lit × DataW H) → Nat
  | [] => 0
  | x :: r => uptoBulkEntry x + uptoBulkEntries r
def uptoBulkEntry {H : Type} : Lit × DataW H → Nat
  | (.string bytes, d) => bytes.length + uptoBulk d + 1
  | (_, d) => uptoBulk d + 1
 end
def uptoSmall : (H : Type) → List (DataW H) → Bool := fun _ ds => decide (uptoBulkAll ds ≤ 1048576)
def OpenSpec.upto (s : _root_.Go.ChangeSpec) : _root_.Go.OpenSpec := { _root_.Go.OpenSpec.ofChange s with cond := some uptoSmall }

/-- 'airsharelaw21.DeficitTurns', WHERE WHAT IT READS IS OF BULK AT MOST 1048576: true; the input reads as it did. -/
def deficitTurnsUptoRow : OpenClaim := { program := "ytmbmejobffpaoaa", sum := "786e8671361e255c42f173c2ec99718531cbcc0f286740ee3116bb5c0a6c5e4d", func := "airshare/airsharelaw21.DeficitTurns", spec := "deficitTurns", unfollowed := true, recurses := true, apart := false, narrowed := true }
def DeficitTurnsUptoSaid : Prop := deficitTurnsUptoRow.holds Try.pinned (OpenSpec.upto deficitTurnsSpec)

/-- 'airsharelaw21.DeficitHead', WHERE WHAT IT READS IS OF BULK AT MOST 1048576: true; the input reads as it did. -/
def deficitHeadUptoRow : OpenClaim := { program := "ytmbmejobffpaoaa", sum := "786e8671361e255c42f173c2ec99718531cbcc0f286740ee3116bb5c0a6c5e4d", func := "airshare/airsharelaw21.DeficitHead", spec := "deficitHead", unfollowed := true, recurses := true, apart := false, narrowed := true }
def DeficitHeadUptoSaid : Prop := deficitHeadUptoRow.holds Try.pinned (OpenSpec.upto deficitHeadSpec)

/-- 'airsharelaw21.DeficitShares', WHERE WHAT IT READS IS OF BULK AT MOST 1048576: true; the input reads as it did. -/
def deficitSharesUptoRow : OpenClaim := { program := "ytmbmejobffpaoaa", sum := "786e8671361e255c42f173c2ec99718531cbcc0f286740ee3116bb5c0a6c5e4d", func := "airshare/airsharelaw21.DeficitShares", spec := "deficitShares", unfollowed := true, recurses := true, apart := false, narrowed := true }
def DeficitSharesUptoSaid : Prop := deficitSharesUptoRow.holds Try.pinned (OpenSpec.upto deficitSharesSpec)

/-- 'airsharelaw21.DeficitScript', WHERE WHAT IT READS IS OF BULK AT MOST 1048576: true; the input reads as it did. -/
def deficitScriptUptoRow : OpenClaim := { program := "ytmbmejobffpaoaa", sum := "786e8671361e255c42f173c2ec99718531cbcc0f286740ee3116bb5c0a6c5e4d", func := "airshare/airsharelaw21.DeficitScript", spec := "deficitScript", unfollowed := true, recurses := true, apart := false, narrowed := true }
def DeficitScriptUptoSaid : Prop := deficitScriptUptoRow.holds Try.pinned (OpenSpec.upto deficitScriptSpec)

end Rows
end Go.Proofs.Ytmbmejobffpaoaa
