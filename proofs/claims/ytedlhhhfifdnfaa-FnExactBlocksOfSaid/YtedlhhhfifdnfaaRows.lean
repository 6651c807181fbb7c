/-
  NARROWER THAN 'FOR EVERY INPUT', by the rows' own cells (each row's printed sentence says how): FnExactStmtFault: loops.
  DERIVED. THE GIVEN ROWS OF THIS SEAT. 5 by the template 'for every input the law returns true; each argument reads behind the call as it read before'; 0 by the template 'total and deterministic' (their statements: YtedlhhhfifdnfaaTotals.lean).
  GIVEN WITH THE SEED: the statements are not yours to turn. If you find one false, say at which input.
  Laid BY PROGRAM, IN A SANDBOX (cutbox-rows.mjs): the forced cells as the released guide's own fill.sh prints them over the translation 1b8f4e3e1b46a5f3… (all of the seat's roots in one cut). By AI agents, Wed Nov 11 2026. No macro, syntax, notation, axiom, sorry.
-/
import Derived.Test.YtedlhhhfifdnfaaChecked
import GoSem.Claim
import GoSem.ClaimJoined
import GoSem.ClaimMapViews
import Derived.JoinedTies
import Derived.KernelRfl
namespace Go.Proofs.Ytedlhhhfifdnfaa
/- THE CELL 'sum', in the pinned program and in every row, IS THE sha256 OF THE DUMP (.gsa) THAT YtedlhhhfifdnfaaProg.lean LOADS. Nothing in Lean hashes anything: it is a label: what it is worth is what the hold of that sum in a sandbox is worth. -/
noncomputable def Try.pinned : Pinned := { name := "ytedlhhhfifdnfaa", sum := "1b8f4e3e1b46a5f39a9a5800b402f0a996681d751cf6a5799c59f3679b4ce0d2", checked := Try.checked }
namespace Rows
def none {H : Type} : Left H := { results := [], args := [] }

/-- 'laws.FnExactStmtFault': WHATEVER THE INPUT: true; the input reads as it did. -/
def fnExactStmtFaultSpec : ChangeSpec := { name := "fnExactStmtFault", fn := fun _ => fun
  | [d] => { results := [.lit (.bool true)], args := [d] }
  | _ => none }
def fnExactStmtFaultRow : OpenClaim := { program := "ytedlhhhfifdnfaa", sum := "1b8f4e3e1b46a5f39a9a5800b402f0a996681d751cf6a5799c59f3679b4ce0d2", func := "loop.example/s02548/laws.FnExactStmtFault", spec := "fnExactStmtFault", unfollowed := true, recurses := true, loops := true, apart := false }
def FnExactStmtFaultSaid : Prop := fnExactStmtFaultRow.holds Try.pinned (OpenSpec.ofChange fnExactStmtFaultSpec)

/-- ITS FALSE NEIGHBOUR: 'it returns false'. Refute it at one input. -/
def fnExactStmtFaultWrong : ChangeSpec := { name := "fnExactStmtFault", fn := fun _ => fun
  | [d] => { results := [.lit (.bool false)], args := [d] }
  | _ => none }
def FnExactStmtFaultWrongFalsely : Prop := fnExactStmtFaultRow.holds Try.pinned (OpenSpec.ofChange fnExactStmtFaultWrong)

/-- 'laws.FnExactBlocksOf': WHATEVER THE INPUT: true; the input reads as it did. -/
def fnExactBlocksOfSpec : ChangeSpec := { name := "fnExactBlocksOf", fn := fun _ => fun
  | [d] => { results := [.lit (.bool true)], args := [d] }
  | _ => none }
def fnExactBlocksOfRow : OpenClaim := { program := "ytedlhhhfifdnfaa", sum := "1b8f4e3e1b46a5f39a9a5800b402f0a996681d751cf6a5799c59f3679b4ce0d2", func := "loop.example/s02548/laws.FnExactBlocksOf", spec := "fnExactBlocksOf", apart := false }
def FnExactBlocksOfSaid : Prop := fnExactBlocksOfRow.holds Try.pinned (OpenSpec.ofChange fnExactBlocksOfSpec)

/-- ITS FALSE NEIGHBOUR: 'it returns false'. Refute it at one input. -/
def fnExactBlocksOfWrong : ChangeSpec := { name := "fnExactBlocksOf", fn := fun _ => fun
  | [d] => { results := [.lit (.bool false)], args := [d] }
  | _ => none }
def FnExactBlocksOfWrongFalsely : Prop := fnExactBlocksOfRow.holds Try.pinned (OpenSpec.ofChange fnExactBlocksOfWrong)

/-- 'laws.FnExactValidMemory': WHATEVER THE INPUT: true; the input reads as it did. -/
def fnExactValidMemorySpec : ChangeSpec := { name := "fnExactValidMemory", fn := fun _ => fun
  | [d1, d2] => { results := [.lit (.bool true)], args := [d1, d2] }
  | _ => none }
def fnExactValidMemoryRow : OpenClaim := { program := "ytedlhhhfifdnfaa", sum := "1b8f4e3e1b46a5f39a9a5800b402f0a996681d751cf6a5799c59f3679b4ce0d2", func := "loop.example/s02548/laws.FnExactValidMemory", spec := "fnExactValidMemory", unfollowed := true, recurses := true, apart := false }
def FnExactValidMemorySaid : Prop := fnExactValidMemoryRow.holds Try.pinned (OpenSpec.ofChange fnExactValidMemorySpec)

/-- ITS FALSE NEIGHBOUR: 'it returns false'. Refute it at one input. -/
def fnExactValidMemoryWrong : ChangeSpec := { name := "fnExactValidMemory", fn := fun _ => fun
  | [d1, d2] => { results := [.lit (.bool false)], args := [d1, d2] }
  | _ => none }
def FnExactValidMemoryWrongFalsely : Prop := fnExactValidMemoryRow.holds Try.pinned (OpenSpec.ofChange fnExactValidMemoryWrong)

/-- 'laws.FnExactCallOrder': WHATEVER THE INPUT: true; the input reads as it did. -/
def fnExactCallOrderSpec : ChangeSpec := { name := "fnExactCallOrder", fn := fun _ => fun
  | [d] => { results := [.lit (.bool true)], args := [d] }
  | _ => none }
def fnExactCallOrderRow : OpenClaim := { program := "ytedlhhhfifdnfaa", sum := "1b8f4e3e1b46a5f39a9a5800b402f0a996681d751cf6a5799c59f3679b4ce0d2", func := "loop.example/s02548/laws.FnExactCallOrder", spec := "fnExactCallOrder", unfollowed := true, recurses := true, apart := false }
def FnExactCallOrderSaid : Prop := fnExactCallOrderRow.holds Try.pinned (OpenSpec.ofChange fnExactCallOrderSpec)

/-- ITS FALSE NEIGHBOUR: 'it returns false'. Refute it at one input. -/
def fnExactCallOrderWrong : ChangeSpec := { name := "fnExactCallOrder", fn := fun _ => fun
  | [d] => { results := [.lit (.bool false)], args := [d] }
  | _ => none }
def FnExactCallOrderWrongFalsely : Prop := fnExactCallOrderRow.holds Try.pinned (OpenSpec.ofChange fnExactCallOrderWrong)

/-- 'laws.FnExactFlowOf': WHATEVER THE INPUT: true; the input reads as it did. -/
def fnExactFlowOfSpec : ChangeSpec := { name := "fnExactFlowOf", fn := fun _ => fun
  | [d] => { results := [.lit (.bool true)], args := [d] }
  | _ => none }
def fnExactFlowOfRow : OpenClaim := { program := "ytedlhhhfifdnfaa", sum := "1b8f4e3e1b46a5f39a9a5800b402f0a996681d751cf6a5799c59f3679b4ce0d2", func := "loop.example/s02548/laws.FnExactFlowOf", spec := "fnExactFlowOf", inPlace := ["internal/reflectlite.ValueOf", "internal/reflectlite.Swapper", "(internal/reflectlite.Value).Len"], unfollowed := true, recurses := true, apart := false }
def FnExactFlowOfSaid : Prop := fnExactFlowOfRow.holds Try.pinned (OpenSpec.ofChange fnExactFlowOfSpec)

/-- ITS FALSE NEIGHBOUR: 'it returns false'. Refute it at one input. -/
def fnExactFlowOfWrong : ChangeSpec := { name := "fnExactFlowOf", fn := fun _ => fun
  | [d] => { results := [.lit (.bool false)], args := [d] }
  | _ => none }
def FnExactFlowOfWrongFalsely : Prop := fnExactFlowOfRow.holds Try.pinned (OpenSpec.ofChange fnExactFlowOfWrong)

/- THE SECOND FORM. 'bulk': how many values and letters a reading holds, each counted each time it is reached (what is shared counts as often as it is met; a slice's spare places count too). A statement '..UptoSaid' is the law's where the arguments, and the package variables that the reading takes, are together of bulk at most 1048576: NARROWER than '..Said'. Prove '..Said' where nothing that the law and all that it calls make is longer than what came in: it says more and counts as full. Else prove '..UptoSaid'. A law counts once. -/
mutual
def uptoBulk {H : Type} : DataW H → Nat
  | .lit (.string bytes) => bytes.length + 1
  | .lit _ => 1
  | .nil => 1
  | .ptr d => uptoBulk d + 1
  | .slice elems spare => uptoBulkAll elems + uptoBulkAll spare + 1
  | .agg parts => uptoBulkAll parts + 1
  | .iface _ d => uptoBulk d + 1
  | .map entries => uptoBulkEntries entries + 1
  | .held _ => 1
def uptoBulkAll {H : Type} : List (DataW H) → Nat
  | [] => 0
  | d :: r => uptoBulk d + uptoBulkAll r
def uptoBulkEntries {H : Type} : List (Lit × DataW H) → Nat
  | [] => 0
  | x :: r => uptoBulkEntry x + uptoBulkEntries r
def uptoBulkEntry {H : Type} : Lit × DataW H → Nat
  | (.string bytes, d) => bytes.length + uptoBulk d + 1
  | (_, d) => uptoBulk d + 1
 end
def uptoSmall : (H : Type) → List (DataW H) → Bool := fun _ ds => decide (uptoBulkAll ds ≤ 1048576)
def OpenSpec.upto (s : _root_.Go.ChangeSpec) : _root_.Go.OpenSpec := { _root_.Go.OpenSpec.ofChange s with cond := some uptoSmall }

/-- 'laws.FnExactStmtFault', WHERE WHAT IT READS IS OF BULK AT MOST 1048576: true; the input reads as it did. -/
def fnExactStmtFaultUptoRow : OpenClaim := { program := "ytedlhhhfifdnfaa", sum := "1b8f4e3e1b46a5f39a9a5800b402f0a996681d751cf6a5799c59f3679b4ce0d2", func := "loop.example/s02548/laws.FnExactStmtFault", spec := "fnExactStmtFault", unfollowed := true, recurses := true, loops := true, apart := false, narrowed := true }
def FnExactStmtFaultUptoSaid : Prop := fnExactStmtFaultUptoRow.holds Try.pinned (OpenSpec.upto fnExactStmtFaultSpec)

/-- 'laws.FnExactBlocksOf', WHERE WHAT IT READS IS OF BULK AT MOST 1048576: true; the input reads as it did. -/
def fnExactBlocksOfUptoRow : OpenClaim := { program := "ytedlhhhfifdnfaa", sum := "1b8f4e3e1b46a5f39a9a5800b402f0a996681d751cf6a5799c59f3679b4ce0d2", func := "loop.example/s02548/laws.FnExactBlocksOf", spec := "fnExactBlocksOf", apart := false, narrowed := true }
def FnExactBlocksOfUptoSaid : Prop := fnExactBlocksOfUptoRow.holds Try.pinned (OpenSpec.upto fnExactBlocksOfSpec)

/-- 'laws.FnExactValidMemory', WHERE WHAT IT READS IS OF BULK AT MOST 1048576: true; the input reads as it did. -/
def fnExactValidMemoryUptoRow : OpenClaim := { program := "ytedlhhhfifdnfaa", sum := "1b8f4e3e1b46a5f39a9a5800b402f0a996681d751cf6a5799c59f3679b4ce0d2", func := "loop.example/s02548/laws.FnExactValidMemory", spec := "fnExactValidMemory", unfollowed := true, recurses := true, apart := false, narrowed := true }
def FnExactValidMemoryUptoSaid : Prop := fnExactValidMemoryUptoRow.holds Try.pinned (OpenSpec.upto fnExactValidMemorySpec)

/-- 'laws.FnExactCallOrder', WHERE WHAT IT READS IS OF BULK AT MOST 1048576: true; the input reads as it did. -/
def fnExactCallOrderUptoRow : OpenClaim := { program := "ytedlhhhfifdnfaa", sum := "1b8f4e3e1b46a5f39a9a5800b402f0a996681d751cf6a5799c59f3679b4ce0d2", func := "loop.example/s02548/laws.FnExactCallOrder", spec := "fnExactCallOrder", unfollowed := true, recurses := true, apart := false, narrowed := true }
def FnExactCallOrderUptoSaid : Prop := fnExactCallOrderUptoRow.holds Try.pinned (OpenSpec.upto fnExactCallOrderSpec)

/-- 'laws.FnExactFlowOf', WHERE WHAT IT READS IS OF BULK AT MOST 1048576: true; the input reads as it did. -/
def fnExactFlowOfUptoRow : OpenClaim := { program := "ytedlhhhfifdnfaa", sum := "1b8f4e3e1b46a5f39a9a5800b402f0a996681d751cf6a5799c59f3679b4ce0d2", func := "loop.example/s02548/laws.FnExactFlowOf", spec := "fnExactFlowOf", inPlace := ["internal/reflectlite.ValueOf", "internal/reflectlite.Swapper", "(internal/reflectlite.Value).Len"], unfollowed := true, recurses := true, apart := false, narrowed := true }
def FnExactFlowOfUptoSaid : Prop := fnExactFlowOfUptoRow.holds Try.pinned (OpenSpec.upto fnExactFlowOfSpec)

end Rows
end Go.Proofs.Ytedlhhhfifdnfaa
