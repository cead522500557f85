/-
  No cell of these rows narrows 'for every input' (looked for: loops, veiled, ifaces, maps, wideKeys, modest, calm, conditions, laid).
  DERIVED. THE GIVEN ROWS OF THIS SEAT. 7 by the template 'for every input the law returns true; each argument reads behind the call as it read before'; 0 by the template 'total and deterministic' (their statements: YtdaeflafdnlceaaTotals.lean).
  GIVEN WITH THE SEED: the statements are not yours to turn. If you find one false, say at which input.
  Laid BY PROGRAM, IN A SANDBOX (cutbox-rows.mjs): the forced cells as the released guide's own fill.sh prints them over the translation f17b1eee844a31e9… (all of the seat's roots in one cut). By AI agents, Wed Nov 11 2026. No macro, syntax, notation, axiom, sorry.
-/
import Derived.Test.YtdaeflafdnlceaaChecked
import GoSem.Claim
import GoSem.ClaimJoined
import GoSem.ClaimMapViews
import Derived.JoinedTies
import Derived.KernelRfl
namespace Go.Proofs.Ytdaeflafdnlceaa
/- THE CELL 'sum', in the pinned program and in every row, IS THE sha256 OF THE DUMP (.gsa) THAT YtdaeflafdnlceaaProg.lean LOADS. Nothing in Lean hashes anything: it is a label: what it is worth is what the hold of that sum in a sandbox is worth. -/
noncomputable def Try.pinned : Pinned := { name := "ytdaeflafdnlceaa", sum := "f17b1eee844a31e915cd9b93df17a75fa55bb4cf178dae2cce4d6155a298660d", checked := Try.checked }
namespace Rows
def none {H : Type} : Left H := { results := [], args := [] }

/-- 'vmfleetlaw4.MemoryAccesses': WHATEVER THE INPUT: true; the input reads as it did. -/
def memoryAccessesSpec : ChangeSpec := { name := "memoryAccesses", fn := fun _ => fun
  | [d1, d2, d3, d4, d5, d6, d7, d8] => { results := [.lit (.bool true)], args := [d1, d2, d3, d4, d5, d6, d7, d8] }
  | _ => none }
def memoryAccessesRow : OpenClaim := { program := "ytdaeflafdnlceaa", sum := "f17b1eee844a31e915cd9b93df17a75fa55bb4cf178dae2cce4d6155a298660d", func := "vmfleet/vmfleetlaw4.MemoryAccesses", spec := "memoryAccesses", apart := false }
def MemoryAccessesSaid : Prop := memoryAccessesRow.holds Try.pinned (OpenSpec.ofChange memoryAccessesSpec)

/-- ITS FALSE NEIGHBOUR: 'it returns false'. Refute it at one input. -/
def memoryAccessesWrong : ChangeSpec := { name := "memoryAccesses", fn := fun _ => fun
  | [d1, d2, d3, d4, d5, d6, d7, d8] => { results := [.lit (.bool false)], args := [d1, d2, d3, d4, d5, d6, d7, d8] }
  | _ => none }
def MemoryAccessesWrongFalsely : Prop := memoryAccessesRow.holds Try.pinned (OpenSpec.ofChange memoryAccessesWrong)

/-- 'vmfleetlaw4.MemoryOrders': WHATEVER THE INPUT: true; the input reads as it did. -/
def memoryOrdersSpec : ChangeSpec := { name := "memoryOrders", fn := fun _ => fun
  | [d1, d2, d3, d4, d5, d6] => { results := [.lit (.bool true)], args := [d1, d2, d3, d4, d5, d6] }
  | _ => none }
def memoryOrdersRow : OpenClaim := { program := "ytdaeflafdnlceaa", sum := "f17b1eee844a31e915cd9b93df17a75fa55bb4cf178dae2cce4d6155a298660d", func := "vmfleet/vmfleetlaw4.MemoryOrders", spec := "memoryOrders", apart := false }
def MemoryOrdersSaid : Prop := memoryOrdersRow.holds Try.pinned (OpenSpec.ofChange memoryOrdersSpec)

/-- ITS FALSE NEIGHBOUR: 'it returns false'. Refute it at one input. -/
def memoryOrdersWrong : ChangeSpec := { name := "memoryOrders", fn := fun _ => fun
  | [d1, d2, d3, d4, d5, d6] => { results := [.lit (.bool false)], args := [d1, d2, d3, d4, d5, d6] }
  | _ => none }
def MemoryOrdersWrongFalsely : Prop := memoryOrdersRow.holds Try.pinned (OpenSpec.ofChange memoryOrdersWrong)

/-- 'vmfleetlaw4.MemoryKeeps': WHATEVER THE INPUT: true; the input reads as it did. -/
def memoryKeepsSpec : ChangeSpec := { name := "memoryKeeps", fn := fun _ => fun
  | [d1, d2] => { results := [.lit (.bool true)], args := [d1, d2] }
  | _ => none }
def memoryKeepsRow : OpenClaim := { program := "ytdaeflafdnlceaa", sum := "f17b1eee844a31e915cd9b93df17a75fa55bb4cf178dae2cce4d6155a298660d", func := "vmfleet/vmfleetlaw4.MemoryKeeps", spec := "memoryKeeps", apart := false }
def MemoryKeepsSaid : Prop := memoryKeepsRow.holds Try.pinned (OpenSpec.ofChange memoryKeepsSpec)

/-- ITS FALSE NEIGHBOUR: 'it returns false'. Refute it at one input. -/
def memoryKeepsWrong : ChangeSpec := { name := "memoryKeeps", fn := fun _ => fun
  | [d1, d2] => { results := [.lit (.bool false)], args := [d1, d2] }
  | _ => none }
def MemoryKeepsWrongFalsely : Prop := memoryKeepsRow.holds Try.pinned (OpenSpec.ofChange memoryKeepsWrong)

/-- 'vmfleetlaw4.MemoryPages': WHATEVER THE INPUT: true; the input reads as it did. -/
def memoryPagesSpec : ChangeSpec := { name := "memoryPages", fn := fun _ => fun
  | [d1, d2, d3, d4, d5, d6, d7] => { results := [.lit (.bool true)], args := [d1, d2, d3, d4, d5, d6, d7] }
  | _ => none }
def memoryPagesRow : OpenClaim := { program := "ytdaeflafdnlceaa", sum := "f17b1eee844a31e915cd9b93df17a75fa55bb4cf178dae2cce4d6155a298660d", func := "vmfleet/vmfleetlaw4.MemoryPages", spec := "memoryPages", apart := false }
def MemoryPagesSaid : Prop := memoryPagesRow.holds Try.pinned (OpenSpec.ofChange memoryPagesSpec)

/-- ITS FALSE NEIGHBOUR: 'it returns false'. Refute it at one input. -/
def memoryPagesWrong : ChangeSpec := { name := "memoryPages", fn := fun _ => fun
  | [d1, d2, d3, d4, d5, d6, d7] => { results := [.lit (.bool false)], args := [d1, d2, d3, d4, d5, d6, d7] }
  | _ => none }
def MemoryPagesWrongFalsely : Prop := memoryPagesRow.holds Try.pinned (OpenSpec.ofChange memoryPagesWrong)

/-- 'vmfleetlaw4.MemoryHashes': WHATEVER THE INPUT: true; the input reads as it did. -/
def memoryHashesSpec : ChangeSpec := { name := "memoryHashes", fn := fun _ => fun
  | [d1, d2, d3, d4, d5, d6, d7] => { results := [.lit (.bool true)], args := [d1, d2, d3, d4, d5, d6, d7] }
  | _ => none }
def memoryHashesRow : OpenClaim := { program := "ytdaeflafdnlceaa", sum := "f17b1eee844a31e915cd9b93df17a75fa55bb4cf178dae2cce4d6155a298660d", func := "vmfleet/vmfleetlaw4.MemoryHashes", spec := "memoryHashes", apart := false }
def MemoryHashesSaid : Prop := memoryHashesRow.holds Try.pinned (OpenSpec.ofChange memoryHashesSpec)

/-- ITS FALSE NEIGHBOUR: 'it returns false'. Refute it at one input. -/
def memoryHashesWrong : ChangeSpec := { name := "memoryHashes", fn := fun _ => fun
  | [d1, d2, d3, d4, d5, d6, d7] => { results := [.lit (.bool false)], args := [d1, d2, d3, d4, d5, d6, d7] }
  | _ => none }
def MemoryHashesWrongFalsely : Prop := memoryHashesRow.holds Try.pinned (OpenSpec.ofChange memoryHashesWrong)

/-- 'vmfleetlaw4.MemoryChanges': WHATEVER THE INPUT: true; the input reads as it did. -/
def memoryChangesSpec : ChangeSpec := { name := "memoryChanges", fn := fun _ => fun
  | [d1, d2, d3, d4] => { results := [.lit (.bool true)], args := [d1, d2, d3, d4] }
  | _ => none }
def memoryChangesRow : OpenClaim := { program := "ytdaeflafdnlceaa", sum := "f17b1eee844a31e915cd9b93df17a75fa55bb4cf178dae2cce4d6155a298660d", func := "vmfleet/vmfleetlaw4.MemoryChanges", spec := "memoryChanges", apart := false }
def MemoryChangesSaid : Prop := memoryChangesRow.holds Try.pinned (OpenSpec.ofChange memoryChangesSpec)

/-- ITS FALSE NEIGHBOUR: 'it returns false'. Refute it at one input. -/
def memoryChangesWrong : ChangeSpec := { name := "memoryChanges", fn := fun _ => fun
  | [d1, d2, d3, d4] => { results := [.lit (.bool false)], args := [d1, d2, d3, d4] }
  | _ => none }
def MemoryChangesWrongFalsely : Prop := memoryChangesRow.holds Try.pinned (OpenSpec.ofChange memoryChangesWrong)

/-- 'vmfleetlaw4.MemoryCopies': WHATEVER THE INPUT: true; the input reads as it did. -/
def memoryCopiesSpec : ChangeSpec := { name := "memoryCopies", fn := fun _ => fun
  | [d1, d2, d3, d4] => { results := [.lit (.bool true)], args := [d1, d2, d3, d4] }
  | _ => none }
def memoryCopiesRow : OpenClaim := { program := "ytdaeflafdnlceaa", sum := "f17b1eee844a31e915cd9b93df17a75fa55bb4cf178dae2cce4d6155a298660d", func := "vmfleet/vmfleetlaw4.MemoryCopies", spec := "memoryCopies", apart := false }
def MemoryCopiesSaid : Prop := memoryCopiesRow.holds Try.pinned (OpenSpec.ofChange memoryCopiesSpec)

/-- ITS FALSE NEIGHBOUR: 'it returns false'. Refute it at one input. -/
def memoryCopiesWrong : ChangeSpec := { name := "memoryCopies", fn := fun _ => fun
  | [d1, d2, d3, d4] => { results := [.lit (.bool false)], args := [d1, d2, d3, d4] }
  | _ => none }
def MemoryCopiesWrongFalsely : Prop := memoryCopiesRow.holds Try.pinned (OpenSpec.ofChange memoryCopiesWrong)

/- THE SECOND FORM. 'bulk': how many values and letters a reading holds, each counted each time it is reached (what is shared counts as often as it is met; a slice's spare places count too). A statement '..UptoSaid' is the law's where the arguments, and the package variables that the reading takes, are together of bulk at most 1048576: NARROWER than '..Said'. Prove '..Said' where nothing that the law and all that it calls make is longer than what came in: it says more and counts as full. Else prove '..UptoSaid'. A law counts once. -/
mutual
def uptoBulk {H : Type} : DataW H → Nat
  | .lit (.string bytes) => bytes.length + 1
  | .lit _ => 1
  | .nil => 1
  | .ptr d => uptoBulk d + 1
  | .slice elems spare => uptoBulkAll elems + uptoBulkAll spare + 1
  | .agg parts => uptoBulkAll parts + 1
  | .iface _ d => uptoBulk d + 1
  | .map entries => uptoBulkEntries entries + 1
  | .held _ => 1
def uptoBulkAll {H : Type} : List (DataW H) → Nat
  | [] => 0
  | d :: r => uptoBulk d + uptoBulkAll r
def uptoBulkEntries {H : Type} : List (Lit × DataW H) → Nat
  | [] => 0
  | x :: r => uptoBulkEntry x + uptoBulkEntries r
def uptoBulkEntry {H : Type} : Lit × DataW H → Nat
  | (.string bytes, d) => bytes.length + uptoBulk d + 1
  | (_, d) => uptoBulk d + 1
 end
def uptoSmall : (H : Type) → List (DataW H) → Bool := fun _ ds => decide (uptoBulkAll ds ≤ 1048576)
def OpenSpec.upto (s : _root_.Go.ChangeSpec) : _root_.Go.OpenSpec := { _root_.Go.OpenSpec.ofChange s with cond := some uptoSmall }

/-- 'vmfleetlaw4.MemoryAccesses', WHERE WHAT IT READS IS OF BULK AT MOST 1048576: true; the input reads as it did. -/
def memoryAccessesUptoRow : OpenClaim := { program := "ytdaeflafdnlceaa", sum := "f17b1eee844a31e915cd9b93df17a75fa55bb4cf178dae2cce4d6155a298660d", func := "vmfleet/vmfleetlaw4.MemoryAccesses", spec := "memoryAccesses", apart := false, narrowed := true }
def MemoryAccessesUptoSaid : Prop := memoryAccessesUptoRow.holds Try.pinned (OpenSpec.upto memoryAccessesSpec)

/-- 'vmfleetlaw4.MemoryOrders', WHERE WHAT IT READS IS OF BULK AT MOST 1048576: true; the input reads as it did. -/
def memoryOrdersUptoRow : OpenClaim := { program := "ytdaeflafdnlceaa", sum := "f17b1eee844a31e915cd9b93df17a75fa55bb4cf178dae2cce4d6155a298660d", func := "vmfleet/vmfleetlaw4.MemoryOrders", spec := "memoryOrders", apart := false, narrowed := true }
def MemoryOrdersUptoSaid : Prop := memoryOrdersUptoRow.holds Try.pinned (OpenSpec.upto memoryOrdersSpec)

/-- 'vmfleetlaw4.MemoryKeeps', WHERE WHAT IT READS IS OF BULK AT MOST 1048576: true; the input reads as it did. -/
def memoryKeepsUptoRow : OpenClaim := { program := "ytdaeflafdnlceaa", sum := "f17b1eee844a31e915cd9b93df17a75fa55bb4cf178dae2cce4d6155a298660d", func := "vmfleet/vmfleetlaw4.MemoryKeeps", spec := "memoryKeeps", apart := false, narrowed := true }
def MemoryKeepsUptoSaid : Prop := memoryKeepsUptoRow.holds Try.pinned (OpenSpec.upto memoryKeepsSpec)

/-- 'vmfleetlaw4.MemoryPages', WHERE WHAT IT READS IS OF BULK AT MOST 1048576: true; the input reads as it did. -/
def memoryPagesUptoRow : OpenClaim := { program := "ytdaeflafdnlceaa", sum := "f17b1eee844a31e915cd9b93df17a75fa55bb4cf178dae2cce4d6155a298660d", func := "vmfleet/vmfleetlaw4.MemoryPages", spec := "memoryPages", apart := false, narrowed := true }
def MemoryPagesUptoSaid : Prop := memoryPagesUptoRow.holds Try.pinned (OpenSpec.upto memoryPagesSpec)

/-- 'vmfleetlaw4.MemoryHashes', WHERE WHAT IT READS IS OF BULK AT MOST 1048576: true; the input reads as it did. -/
def memoryHashesUptoRow : OpenClaim := { program := "ytdaeflafdnlceaa", sum := "f17b1eee844a31e915cd9b93df17a75fa55bb4cf178dae2cce4d6155a298660d", func := "vmfleet/vmfleetlaw4.MemoryHashes", spec := "memoryHashes", apart := false, narrowed := true }
def MemoryHashesUptoSaid : Prop := memoryHashesUptoRow.holds Try.pinned (OpenSpec.upto memoryHashesSpec)

/-- 'vmfleetlaw4.MemoryChanges', WHERE WHAT IT READS IS OF BULK AT MOST 1048576: true; the input reads as it did. -/
def memoryChangesUptoRow : OpenClaim := { program := "ytdaeflafdnlceaa", sum := "f17b1eee844a31e915cd9b93df17a75fa55bb4cf178dae2cce4d6155a298660d", func := "vmfleet/vmfleetlaw4.MemoryChanges", spec := "memoryChanges", apart := false, narrowed := true }
def MemoryChangesUptoSaid : Prop := memoryChangesUptoRow.holds Try.pinned (OpenSpec.upto memoryChangesSpec)

/-- 'vmfleetlaw4.MemoryCopies', WHERE WHAT IT READS IS OF BULK AT MOST 1048576: true; the input reads as it did. -/
def memoryCopiesUptoRow : OpenClaim := { program := "ytdaeflafdnlceaa", sum := "f17b1eee844a31e915cd9b93df17a75fa55bb4cf178dae2cce4d6155a298660d", func := "vmfleet/vmfleetlaw4.MemoryCopies", spec := "memoryCopies", apart := false, narrowed := true }
def MemoryCopiesUptoSaid : Prop := memoryCopiesUptoRow.holds Try.pinned (OpenSpec.upto memoryCopiesSpec)

end Rows
end Go.Proofs.Ytdaeflafdnlceaa
