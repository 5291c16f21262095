/-
  No cell of these rows narrows 'for every input' (looked for: loops, veiled, ifaces, maps, wideKeys, modest, calm, conditions, laid).
  DERIVED. THE GIVEN ROWS OF THIS SEAT. 2 by the template 'for every input the law returns true; each argument reads behind the call as it read before'; 0 by the template 'total and deterministic' (their statements: YtghmpcnchjjikaaGreatTotals.lean).
  GIVEN WITH THE SEED: the statements are not yours to turn. If you find one false, say at which input.
  Laid BY PROGRAM, IN A SANDBOX (cutbox-rows.mjs): the forced cells as the released guide's own fill.sh prints them over the translation 922a3c787236537e… (all of the seat's roots in one cut). By AI agents, Wed Nov 11 2026. No macro, syntax, notation, axiom, sorry.
-/
import Derived.Test.YtghmpcnchjjikaaGreatChecked
import GoSem.Claim
import GoSem.ClaimJoined
import GoSem.ClaimMapViews
import Derived.JoinedTies
import Derived.KernelRfl
namespace Go.Proofs.YtghmpcnchjjikaaGreat
/- THE CELL 'sum', in the pinned program and in every row, IS THE sha256 OF THE DUMP (.gsa) THAT YtghmpcnchjjikaaGreatProg.lean LOADS. Nothing in Lean hashes anything: it is a label: what it is worth is what the hold of that sum in a sandbox is worth. -/
noncomputable def Tryz.pinned : Pinned := { name := "ytghmpcnchjjikaagreat", sum := "922a3c787236537ed01dbac9987abbc0884f9b9ff9d7323469e34a31ccf724d1", checked := Tryz.checked }
namespace Rows
def none {H : Type} : Left H := { results := [], args := [] }

/-- 'rowlocklaw17.TxnCalls': WHATEVER THE INPUT: true; the input reads as it did. -/
def txnCallsSpec : ChangeSpec := { name := "txnCalls", fn := fun _ => fun
  | [d1, d2] => { results := [.lit (.bool true)], args := [d1, d2] }
  | _ => none }
def txnCallsRow : OpenClaim := { program := "ytghmpcnchjjikaagreat", sum := "922a3c787236537ed01dbac9987abbc0884f9b9ff9d7323469e34a31ccf724d1", func := "rowlock/rowlocklaw17.TxnCalls", spec := "txnCalls", inPlace := ["slices.overlaps[rowlock/commits.Write]", "internal/reflectlite.TypeOf"], unfollowed := true, recurses := true, apart := false }
def TxnCallsSaid : Prop := txnCallsRow.holds Tryz.pinned (OpenSpec.ofChange txnCallsSpec)

/-- ITS FALSE NEIGHBOUR: 'it returns false'. Refute it at one input. -/
def txnCallsWrong : ChangeSpec := { name := "txnCalls", fn := fun _ => fun
  | [d1, d2] => { results := [.lit (.bool false)], args := [d1, d2] }
  | _ => none }
def TxnCallsWrongFalsely : Prop := txnCallsRow.holds Tryz.pinned (OpenSpec.ofChange txnCallsWrong)

/-- 'rowlocktop.TopStores': WHATEVER THE INPUT: true; the input reads as it did. -/
def topStoresSpec : ChangeSpec := { name := "topStores", fn := fun _ => fun
  | [d] => { results := [.lit (.bool true)], args := [d] }
  | _ => none }
def topStoresRow : OpenClaim := { program := "ytghmpcnchjjikaagreat", sum := "922a3c787236537ed01dbac9987abbc0884f9b9ff9d7323469e34a31ccf724d1", func := "rowlock/rowlocktop.TopStores", spec := "topStores", inPlace := ["internal/reflectlite.TypeOf"], unfollowed := true, recurses := true, apart := false }
def TopStoresSaid : Prop := topStoresRow.holds Tryz.pinned (OpenSpec.ofChange topStoresSpec)

/-- ITS FALSE NEIGHBOUR: 'it returns false'. Refute it at one input. -/
def topStoresWrong : ChangeSpec := { name := "topStores", fn := fun _ => fun
  | [d] => { results := [.lit (.bool false)], args := [d] }
  | _ => none }
def TopStoresWrongFalsely : Prop := topStoresRow.holds Tryz.pinned (OpenSpec.ofChange topStoresWrong)

/- THE SECOND FORM. 'bulk': how many values and letters a reading holds, each counted each time it is reached (what is shared counts as often as it is met; a slice's spare places count too). A statement '..UptoSaid' is the law's where the arguments, and the package variables that the reading takes, are together of bulk at most 1048576: NARROWER than '..Said'. Prove '..Said' where nothing that the law and all that it calls make is longer than what came in: it says more and counts as full. Else prove '..UptoSaid'. A law counts once. -/
mutual
def uptoBulk {H : Type} : DataW H → Nat
  | .lit (.string bytes) => bytes.length + 1
  | .lit _ => 1
  | .nil => 1
  | .ptr d => uptoBulk d + 1
  | .slice elems spare => uptoBulkAll elems + uptoBulkAll spare + 1
  | .agg parts => uptoBulkAll parts + 1
  | .iface _ d => uptoBulk d + 1
  | .map entries => uptoBulkEntries entries + 1
  | .held _ => 1
def uptoBulkAll {H : Type} : List (DataW H) → Nat
  | [] => 0
  | d :: r => uptoBulk d + uptoBulkAll r
def uptoBulkEntries {H : Type} : List (Lit × DataW H) → Nat
  | [] => 0
  | x :: r => uptoBulkEntry x + uptoBulkEntries r
def uptoBulkEntry {H : Type} : Lit × DataW H → Nat
  | (.string bytes, d) => bytes.length + uptoBulk d + 1
  | (_, d) => uptoBulk d + 1
 end
def uptoSmall : (H : Type) → List (DataW H) → Bool := fun _ ds => decide (uptoBulkAll ds ≤ 1048576)
def OpenSpec.upto (s : _root_.Go.ChangeSpec) : _root_.Go.OpenSpec := { _root_.Go.OpenSpec.ofChange s with cond := some uptoSmall }

/-- 'rowlocklaw17.TxnCalls', WHERE WHAT IT READS IS OF BULK AT MOST 1048576: true; the input reads as it did. -/
def txnCallsUptoRow : OpenClaim := { program := "ytghmpcnchjjikaagreat", sum := "922a3c787236537ed01dbac9987abbc0884f9b9ff9d7323469e34a31ccf724d1", func := "rowlock/rowlocklaw17.TxnCalls", spec := "txnCalls", inPlace := ["slices.overlaps[rowlock/commits.Write]", "internal/reflectlite.TypeOf"], unfollowed := true, recurses := true, apart := false, narrowed := true }
def TxnCallsUptoSaid : Prop := txnCallsUptoRow.holds Tryz.pinned (OpenSpec.upto txnCallsSpec)

/-- 'rowlocktop.TopStores', WHERE WHAT IT READS IS OF BULK AT MOST 1048576: true; the input reads as it did. -/
def topStoresUptoRow : OpenClaim := { program := "ytghmpcnchjjikaagreat", sum := "922a3c787236537ed01dbac9987abbc0884f9b9ff9d7323469e34a31ccf724d1", func := "rowlock/rowlocktop.TopStores", spec := "topStores", inPlace := ["internal/reflectlite.TypeOf"], unfollowed := true, recurses := true, apart := false, narrowed := true }
def TopStoresUptoSaid : Prop := topStoresUptoRow.holds Tryz.pinned (OpenSpec.upto topStoresSpec)

end Rows
end Go.Proofs.YtghmpcnchjjikaaGreat
