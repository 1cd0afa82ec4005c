/-
  No cell of these rows narrows 'for every input' (looked for: loops, veiled, ifaces, maps, wideKeys, modest, calm, conditions, laid).
  DERIVED. THE GIVEN ROWS OF THIS SEAT. 4 by the template 'for every input the law returns true; each argument reads behind the call as it read before'; 0 by the template 'total and deterministic' (their statements: YtlnhpeghgabnkaaTotals.lean).
  GIVEN WITH THE SEED: the statements are not yours to turn. If you find one false, say at which input.
  Laid BY PROGRAM, IN A SANDBOX (cutbox-rows.mjs): the forced cells as the released guide's own fill.sh prints them over the translation 5bd670e50aee9f23… (all of the seat's roots in one cut). By AI agents, Wed Nov 11 2026. No macro, syntax, notation, axiom, sorry.
-/
import Derived.Test.YtlnhpeghgabnkaaChecked
import GoSem.Claim
import GoSem.ClaimJoined
import GoSem.ClaimMapViews
import Derived.JoinedTies
import Derived.KernelRfl
namespace Go.Proofs.Ytlnhpeghgabnkaa
/- THE CELL 'sum', in the pinned program and in every row, IS THE sha256 OF THE DUMP (.gsa) THAT YtlnhpeghgabnkaaProg.lean LOADS. Nothing in Lean hashes anything: it is a label: what it is worth is what the hold of that sum in a sandbox is worth. -/
noncomputable def Try.pinned : Pinned := { name := "ytlnhpeghgabnkaa", sum := "5bd670e50aee9f23a9efa971bcb99009e75b2f021c3958194dcb825b0d8aae5d", checked := Try.checked }
namespace Rows
def none {H : Type} : Left H := { results := [], args := [] }

/-- 'remitlaw25.NetPlays': WHATEVER THE INPUT: true; the input reads as it did. -/
def netPlaysSpec : ChangeSpec := { name := "netPlays", fn := fun _ => fun
  | [d] => { results := [.lit (.bool true)], args := [d] }
  | _ => none }
def netPlaysRow : OpenClaim := { program := "ytlnhpeghgabnkaa", sum := "5bd670e50aee9f23a9efa971bcb99009e75b2f021c3958194dcb825b0d8aae5d", func := "remit/remitlaw25.NetPlays", spec := "netPlays", unfollowed := true, recurses := true, apart := false }
def NetPlaysSaid : Prop := netPlaysRow.holds Try.pinned (OpenSpec.ofChange netPlaysSpec)

/-- ITS FALSE NEIGHBOUR: 'it returns false'. Refute it at one input. -/
def netPlaysWrong : ChangeSpec := { name := "netPlays", fn := fun _ => fun
  | [d] => { results := [.lit (.bool false)], args := [d] }
  | _ => none }
def NetPlaysWrongFalsely : Prop := netPlaysRow.holds Try.pinned (OpenSpec.ofChange netPlaysWrong)

/-- 'remitlaw25.NetFair': WHATEVER THE INPUT: true; the input reads as it did. -/
def netFairSpec : ChangeSpec := { name := "netFair", fn := fun _ => fun
  | [d] => { results := [.lit (.bool true)], args := [d] }
  | _ => none }
def netFairRow : OpenClaim := { program := "ytlnhpeghgabnkaa", sum := "5bd670e50aee9f23a9efa971bcb99009e75b2f021c3958194dcb825b0d8aae5d", func := "remit/remitlaw25.NetFair", spec := "netFair", unfollowed := true, recurses := true, apart := false }
def NetFairSaid : Prop := netFairRow.holds Try.pinned (OpenSpec.ofChange netFairSpec)

/-- ITS FALSE NEIGHBOUR: 'it returns false'. Refute it at one input. -/
def netFairWrong : ChangeSpec := { name := "netFair", fn := fun _ => fun
  | [d] => { results := [.lit (.bool false)], args := [d] }
  | _ => none }
def NetFairWrongFalsely : Prop := netFairRow.holds Try.pinned (OpenSpec.ofChange netFairWrong)

/-- 'remitlaw25.NetOrder': WHATEVER THE INPUT: true; the input reads as it did. -/
def netOrderSpec : ChangeSpec := { name := "netOrder", fn := fun _ => fun
  | [d1, d2, d3] => { results := [.lit (.bool true)], args := [d1, d2, d3] }
  | _ => none }
def netOrderRow : OpenClaim := { program := "ytlnhpeghgabnkaa", sum := "5bd670e50aee9f23a9efa971bcb99009e75b2f021c3958194dcb825b0d8aae5d", func := "remit/remitlaw25.NetOrder", spec := "netOrder", unfollowed := true, recurses := true, apart := false }
def NetOrderSaid : Prop := netOrderRow.holds Try.pinned (OpenSpec.ofChange netOrderSpec)

/-- ITS FALSE NEIGHBOUR: 'it returns false'. Refute it at one input. -/
def netOrderWrong : ChangeSpec := { name := "netOrder", fn := fun _ => fun
  | [d1, d2, d3] => { results := [.lit (.bool false)], args := [d1, d2, d3] }
  | _ => none }
def NetOrderWrongFalsely : Prop := netOrderRow.holds Try.pinned (OpenSpec.ofChange netOrderWrong)

/-- 'remitlaw25.NetMemory': WHATEVER THE INPUT: true; the input reads as it did. -/
def netMemorySpec : ChangeSpec := { name := "netMemory", fn := fun _ => fun
  | [d1, d2] => { results := [.lit (.bool true)], args := [d1, d2] }
  | _ => none }
def netMemoryRow : OpenClaim := { program := "ytlnhpeghgabnkaa", sum := "5bd670e50aee9f23a9efa971bcb99009e75b2f021c3958194dcb825b0d8aae5d", func := "remit/remitlaw25.NetMemory", spec := "netMemory", unfollowed := true, recurses := true, apart := false }
def NetMemorySaid : Prop := netMemoryRow.holds Try.pinned (OpenSpec.ofChange netMemorySpec)

/-- ITS FALSE NEIGHBOUR: 'it returns false'. Refute it at one input. -/
def netMemoryWrong : ChangeSpec := { name := "netMemory", fn := fun _ => fun
  | [d1, d2] => { results := [.lit (.bool false)], args := [d1, d2] }
  | _ => none }
def NetMemoryWrongFalsely : Prop := netMemoryRow.holds Try.pinned (OpenSpec.ofChange netMemoryWrong)

/- THE SECOND FORM. 'bulk': how many values and letters a reading holds, each counted each time it is reached (what is shared counts as often as it is met; a slice's spare places count too). A statement '..UptoSaid' is the law's where the arguments, and the package variables that the reading takes, are together of bulk at most 1048576: NARROWER than '..Said'. Prove '..Said' where nothing that the law and all that it calls make is longer than what came in: it says more and counts as full. Else prove '..UptoSaid'. A law counts once. -/
mutual
def uptoBulk {H : Type} : DataW H → Nat
  | .lit (.string bytes) => bytes.length + 1
  | .lit _ => 1
  | .nil => 1
  | .ptr d => uptoBulk d + 1
  | .slice elems spare => uptoBulkAll elems + uptoBulkAll spare + 1
  | .agg parts => uptoBulkAll parts + 1
  | .iface _ d => uptoBulk d + 1
  | .map entries => uptoBulkEntries entries + 1
  | .held _ => 1
def uptoBulkAll {H : Type} : List (DataW H) → Nat
  | [] => 0
  | d :: r => uptoBulk d + uptoBulkAll r
def uptoBulkEntries {H : Type} : List (Lit × DataW H) → Nat
  | [] => 0
  | x :: r => uptoBulkEntry x + uptoBulkEntries r
def uptoBulkEntry {H : Type} : Lit × DataW H → Nat
  | (.string bytes, d) => bytes.length + uptoBulk d + 1
  | (_, d) => uptoBulk d + 1
 end
def uptoSmall : (H : Type) → List (DataW H) → Bool := fun _ ds => decide (uptoBulkAll ds ≤ 1048576)
def OpenSpec.upto (s : _root_.Go.ChangeSpec) : _root_.Go.OpenSpec := { _root_.Go.OpenSpec.ofChange s with cond := some uptoSmall }

/-- 'remitlaw25.NetPlays', WHERE WHAT IT READS IS OF BULK AT MOST 1048576: true; the input reads as it did. -/
def netPlaysUptoRow : OpenClaim := { program := "ytlnhpeghgabnkaa", sum := "5bd670e50aee9f23a9efa971bcb99009e75b2f021c3958194dcb825b0d8aae5d", func := "remit/remitlaw25.NetPlays", spec := "netPlays", unfollowed := true, recurses := true, apart := false, narrowed := true }
def NetPlaysUptoSaid : Prop := netPlaysUptoRow.holds Try.pinned (OpenSpec.upto netPlaysSpec)

/-- 'remitlaw25.NetFair', WHERE WHAT IT READS IS OF BULK AT MOST 1048576: true; the input reads as it did. -/
def netFairUptoRow : OpenClaim := { program := "ytlnhpeghgabnkaa", sum := "5bd670e50aee9f23a9efa971bcb99009e75b2f021c3958194dcb825b0d8aae5d", func := "remit/remitlaw25.NetFair", spec := "netFair", unfollowed := true, recurses := true, apart := false, narrowed := true }
def NetFairUptoSaid : Prop := netFairUptoRow.holds Try.pinned (OpenSpec.upto netFairSpec)

/-- 'remitlaw25.NetOrder', WHERE WHAT IT READS IS OF BULK AT MOST 1048576: true; the input reads as it did. -/
def netOrderUptoRow : OpenClaim := { program := "ytlnhpeghgabnkaa", sum := "5bd670e50aee9f23a9efa971bcb99009e75b2f021c3958194dcb825b0d8aae5d", func := "remit/remitlaw25.NetOrder", spec := "netOrder", unfollowed := true, recurses := true, apart := false, narrowed := true }
def NetOrderUptoSaid : Prop := netOrderUptoRow.holds Try.pinned (OpenSpec.upto netOrderSpec)

/-- 'remitlaw25.NetMemory', WHERE WHAT IT READS IS OF BULK AT MOST 1048576: true; the input reads as it did. -/
def netMemoryUptoRow : OpenClaim := { program := "ytlnhpeghgabnkaa", sum := "5bd670e50aee9f23a9efa971bcb99009e75b2f021c3958194dcb825b0d8aae5d", func := "remit/remitlaw25.NetMemory", spec := "netMemory", unfollowed := true, recurses := true, apart := false, narrowed := true }
def NetMemoryUptoSaid : Prop := netMemoryUptoRow.holds Try.pinned (OpenSpec.upto netMemorySpec)

end Rows
end Go.Proofs.Ytlnhpeghgabnkaa
