/-
  No cell of these rows narrows 'for every input' (looked for: loops, veiled, ifaces, maps, wideKeys, modest, calm, conditions, laid).
  DERIVED. THE GIVEN ROWS OF THIS SEAT. 4 by the template 'for every input the law returns true; each argument reads behind the call as it read before'; 0 by the template 'total and deterministic' (their statements: YtnjalbgcmgmmeaaTotals.lean).
  GIVEN WITH THE SEED: the statements are not yours to turn. If you find one false, say at which input.
  Laid BY PROGRAM, IN A SANDBOX (cutbox-rows.mjs): the forced cells as the released guide's own fill.sh prints them over the translation a9eae402267fa687… (all of the seat's roots in one cut). By AI agents, Wed Nov 11 2026. No macro, syntax, notation, axiom, sorry.
-/
import Derived.Test.YtnjalbgcmgmmeaaChecked
import GoSem.Claim
import GoSem.ClaimJoined
import GoSem.ClaimMapViews
import Derived.JoinedTies
import Derived.KernelRfl
namespace Go.Proofs.Ytnjalbgcmgmmeaa
/- THE CELL 'sum', in the pinned program and in every row, IS THE sha256 OF THE DUMP (.gsa) THAT YtnjalbgcmgmmeaaProg.lean LOADS. Nothing in Lean hashes anything: it is a label: what it is worth is what the hold of that sum in a sandbox is worth. -/
noncomputable def Try.pinned : Pinned := { name := "ytnjalbgcmgmmeaa", sum := "a9eae402267fa6875512dd3f7e37db6d7f23cc5cfc5dd42b7f1e3ed4e2728e0f", checked := Try.checked }
namespace Rows
def none {H : Type} : Left H := { results := [], args := [] }

/-- 'stratumlaw24.StreamAll': WHATEVER THE INPUT: true; the input reads as it did. -/
def streamAllSpec : ChangeSpec := { name := "streamAll", fn := fun _ => fun
  | [d] => { results := [.lit (.bool true)], args := [d] }
  | _ => none }
def streamAllRow : OpenClaim := { program := "ytnjalbgcmgmmeaa", sum := "a9eae402267fa6875512dd3f7e37db6d7f23cc5cfc5dd42b7f1e3ed4e2728e0f", func := "stratum/stratumlaw24.StreamAll", spec := "streamAll", inPlace := ["internal/bytealg.abigen_runtime_cmpstring"], unfollowed := true, recurses := true, apart := false }
def StreamAllSaid : Prop := streamAllRow.holds Try.pinned (OpenSpec.ofChange streamAllSpec)

/-- ITS FALSE NEIGHBOUR: 'it returns false'. Refute it at one input. -/
def streamAllWrong : ChangeSpec := { name := "streamAll", fn := fun _ => fun
  | [d] => { results := [.lit (.bool false)], args := [d] }
  | _ => none }
def StreamAllWrongFalsely : Prop := streamAllRow.holds Try.pinned (OpenSpec.ofChange streamAllWrong)

/-- 'stratumlaw24.StreamNumbers': WHATEVER THE INPUT: true; the input reads as it did. -/
def streamNumbersSpec : ChangeSpec := { name := "streamNumbers", fn := fun _ => fun
  | [d1, d2] => { results := [.lit (.bool true)], args := [d1, d2] }
  | _ => none }
def streamNumbersRow : OpenClaim := { program := "ytnjalbgcmgmmeaa", sum := "a9eae402267fa6875512dd3f7e37db6d7f23cc5cfc5dd42b7f1e3ed4e2728e0f", func := "stratum/stratumlaw24.StreamNumbers", spec := "streamNumbers", inPlace := ["internal/bytealg.abigen_runtime_cmpstring"], unfollowed := true, recurses := true, apart := false }
def StreamNumbersSaid : Prop := streamNumbersRow.holds Try.pinned (OpenSpec.ofChange streamNumbersSpec)

/-- ITS FALSE NEIGHBOUR: 'it returns false'. Refute it at one input. -/
def streamNumbersWrong : ChangeSpec := { name := "streamNumbers", fn := fun _ => fun
  | [d1, d2] => { results := [.lit (.bool false)], args := [d1, d2] }
  | _ => none }
def StreamNumbersWrongFalsely : Prop := streamNumbersRow.holds Try.pinned (OpenSpec.ofChange streamNumbersWrong)

/-- 'stratumlaw24.StreamApart': WHATEVER THE INPUT: true; the input reads as it did. -/
def streamApartSpec : ChangeSpec := { name := "streamApart", fn := fun _ => fun
  | [d1, d2] => { results := [.lit (.bool true)], args := [d1, d2] }
  | _ => none }
def streamApartRow : OpenClaim := { program := "ytnjalbgcmgmmeaa", sum := "a9eae402267fa6875512dd3f7e37db6d7f23cc5cfc5dd42b7f1e3ed4e2728e0f", func := "stratum/stratumlaw24.StreamApart", spec := "streamApart", inPlace := ["internal/bytealg.abigen_runtime_cmpstring"], unfollowed := true, recurses := true, apart := false }
def StreamApartSaid : Prop := streamApartRow.holds Try.pinned (OpenSpec.ofChange streamApartSpec)

/-- ITS FALSE NEIGHBOUR: 'it returns false'. Refute it at one input. -/
def streamApartWrong : ChangeSpec := { name := "streamApart", fn := fun _ => fun
  | [d1, d2] => { results := [.lit (.bool false)], args := [d1, d2] }
  | _ => none }
def StreamApartWrongFalsely : Prop := streamApartRow.holds Try.pinned (OpenSpec.ofChange streamApartWrong)

/-- 'stratumlaw24.StreamKeeps': WHATEVER THE INPUT: true; the input reads as it did. -/
def streamKeepsSpec : ChangeSpec := { name := "streamKeeps", fn := fun _ => fun
  | [d1, d2] => { results := [.lit (.bool true)], args := [d1, d2] }
  | _ => none }
def streamKeepsRow : OpenClaim := { program := "ytnjalbgcmgmmeaa", sum := "a9eae402267fa6875512dd3f7e37db6d7f23cc5cfc5dd42b7f1e3ed4e2728e0f", func := "stratum/stratumlaw24.StreamKeeps", spec := "streamKeeps", inPlace := ["internal/bytealg.abigen_runtime_cmpstring"], unfollowed := true, recurses := true, apart := false }
def StreamKeepsSaid : Prop := streamKeepsRow.holds Try.pinned (OpenSpec.ofChange streamKeepsSpec)

/-- ITS FALSE NEIGHBOUR: 'it returns false'. Refute it at one input. -/
def streamKeepsWrong : ChangeSpec := { name := "streamKeeps", fn := fun _ => fun
  | [d1, d2] => { results := [.lit (.bool false)], args := [d1, d2] }
  | _ => none }
def StreamKeepsWrongFalsely : Prop := streamKeepsRow.holds Try.pinned (OpenSpec.ofChange streamKeepsWrong)

/- THE SECOND FORM. 'bulk': how many values and letters a reading holds, each counted each time it is reached (what is shared counts as often as it is met; a slice's spare places count too). A statement '..UptoSaid' is the law's where the arguments, and the package variables that the reading takes, are together of bulk at most 1048576: NARROWER than '..Said'. Prove '..Said' where nothing that the law and all that it calls make is longer than what came in: it says more and counts as full. Else prove '..UptoSaid'. A law counts once. -/
mutual
def uptoBulk {H : Type} : DataW H → Nat
  | .lit (.string bytes) => bytes.length + 1
  | .lit _ => 1
  | .nil => 1
  | .ptr d => uptoBulk d + 1
  | .slice elems spare => uptoBulkAll elems + uptoBulkAll spare + 1
  | .agg parts => uptoBulkAll parts + 1
  | .iface _ d => uptoBulk d + 1
  | .map entries => uptoBulkEntries entries + 1
  | .held _ => 1
def uptoBulkAll {H : Type} : List (DataW H) → Nat
  | [] => 0
  | d :: r => uptoBulk d + uptoBulkAll r
def uptoBulkEntries {H : Type} : List (Lit × DataW H) → Nat
  | [] => 0
  | x :: r => uptoBulkEntry x + uptoBulkEntries r
def uptoBulkEntry {H : Type} : Lit × DataW H → Nat
  | (.string bytes, d) => bytes.length + uptoBulk d + 1
  | (_, d) => uptoBulk d + 1
 end
def uptoSmall : (H : Type) → List (DataW H) → Bool := fun _ ds => decide (uptoBulkAll ds ≤ 1048576)
def OpenSpec.upto (s : _root_.Go.ChangeSpec) : _root_.Go.OpenSpec := { _root_.Go.OpenSpec.ofChange s with cond := some uptoSmall }

/-- 'stratumlaw24.StreamAll', WHERE WHAT IT READS IS OF BULK AT MOST 1048576: true; the input reads as it did. -/
def streamAllUptoRow : OpenClaim := { program := "ytnjalbgcmgmmeaa", sum := "a9eae402267fa6875512dd3f7e37db6d7f23cc5cfc5dd42b7f1e3ed4e2728e0f", func := "stratum/stratumlaw24.StreamAll", spec := "streamAll", inPlace := ["internal/bytealg.abigen_runtime_cmpstring"], unfollowed := true, recurses := true, apart := false, narrowed := true }
def StreamAllUptoSaid : Prop := streamAllUptoRow.holds Try.pinned (OpenSpec.upto streamAllSpec)

/-- 'stratumlaw24.StreamNumbers', WHERE WHAT IT READS IS OF BULK AT MOST 1048576: true; the input reads as it did. -/
def streamNumbersUptoRow : OpenClaim := { program := "ytnjalbgcmgmmeaa", sum := "a9eae402267fa6875512dd3f7e37db6d7f23cc5cfc5dd42b7f1e3ed4e2728e0f", func := "stratum/stratumlaw24.StreamNumbers", spec := "streamNumbers", inPlace := ["internal/bytealg.abigen_runtime_cmpstring"], unfollowed := true, recurses := true, apart := false, narrowed := true }
def StreamNumbersUptoSaid : Prop := streamNumbersUptoRow.holds Try.pinned (OpenSpec.upto streamNumbersSpec)

/-- 'stratumlaw24.StreamApart', WHERE WHAT IT READS IS OF BULK AT MOST 1048576: true; the input reads as it did. -/
def streamApartUptoRow : OpenClaim := { program := "ytnjalbgcmgmmeaa", sum := "a9eae402267fa6875512dd3f7e37db6d7f23cc5cfc5dd42b7f1e3ed4e2728e0f", func := "stratum/stratumlaw24.StreamApart", spec := "streamApart", inPlace := ["internal/bytealg.abigen_runtime_cmpstring"], unfollowed := true, recurses := true, apart := false, narrowed := true }
def StreamApartUptoSaid : Prop := streamApartUptoRow.holds Try.pinned (OpenSpec.upto streamApartSpec)

/-- 'stratumlaw24.StreamKeeps', WHERE WHAT IT READS IS OF BULK AT MOST 1048576: true; the input reads as it did. -/
def streamKeepsUptoRow : OpenClaim := { program := "ytnjalbgcmgmmeaa", sum := "a9eae402267fa6875512dd3f7e37db6d7f23cc5cfc5dd42b7f1e3ed4e2728e0f", func := "stratum/stratumlaw24.StreamKeeps", spec := "streamKeeps", inPlace := ["internal/bytealg.abigen_runtime_cmpstring"], unfollowed := true, recurses := true, apart := false, narrowed := true }
def StreamKeepsUptoSaid : Prop := streamKeepsUptoRow.holds Try.pinned (OpenSpec.upto streamKeepsSpec)

end Rows
end Go.Proofs.Ytnjalbgcmgmmeaa
