/-
  No cell of these rows narrows 'for every input' (looked for: loops, veiled, ifaces, maps, wideKeys, modest, calm, conditions, laid).
  DERIVED. THE GIVEN ROWS OF THIS SEAT. 12 by the template 'for every input the law returns true; each argument reads behind the call as it read before'; 0 by the template 'total and deterministic' (their statements: YtcdgpfhllbdooaaTotals.lean).
  GIVEN WITH THE SEED: the statements are not yours to turn. If you find one false, say at which input.
  Laid BY PROGRAM, IN A SANDBOX (cutbox-rows.mjs): the forced cells as the released guide's own fill.sh prints them over the translation 5657190a4b44eee8… (all of the seat's roots in one cut). By AI agents, Wed Nov 11 2026. No macro, syntax, notation, axiom, sorry.
-/
import Derived.Test.YtcdgpfhllbdooaaChecked
import GoSem.Claim
import GoSem.ClaimJoined
import GoSem.ClaimMapViews
import Derived.JoinedTies
import Derived.KernelRfl
namespace Go.Proofs.Ytcdgpfhllbdooaa
/- THE CELL 'sum', in the pinned program and in every row, IS THE sha256 OF THE DUMP (.gsa) THAT YtcdgpfhllbdooaaProg.lean LOADS. Nothing in Lean hashes anything: it is a label: what it is worth is what the hold of that sum in a sandbox is worth. -/
noncomputable def Try.pinned : Pinned := { name := "ytcdgpfhllbdooaa", sum := "5657190a4b44eee8c0c2ca28d93c39a1e031e54bab7cfb43a5dda8cc610e4241", checked := Try.checked }
namespace Rows
def none {H : Type} : Left H := { results := [], args := [] }

/-- 'wigwaglaw09.PeerCloser': WHATEVER THE INPUT: true; the input reads as it did. -/
def peerCloserSpec : ChangeSpec := { name := "peerCloser", fn := fun _ => fun
  | [d1, d2, d3] => { results := [.lit (.bool true)], args := [d1, d2, d3] }
  | _ => none }
def peerCloserRow : OpenClaim := { program := "ytcdgpfhllbdooaa", sum := "5657190a4b44eee8c0c2ca28d93c39a1e031e54bab7cfb43a5dda8cc610e4241", func := "wigwag/wigwaglaw09.PeerCloser", spec := "peerCloser", unfollowed := true, recurses := true, apart := false }
def PeerCloserSaid : Prop := peerCloserRow.holds Try.pinned (OpenSpec.ofChange peerCloserSpec)

/-- ITS FALSE NEIGHBOUR: 'it returns false'. Refute it at one input. -/
def peerCloserWrong : ChangeSpec := { name := "peerCloser", fn := fun _ => fun
  | [d1, d2, d3] => { results := [.lit (.bool false)], args := [d1, d2, d3] }
  | _ => none }
def PeerCloserWrongFalsely : Prop := peerCloserRow.holds Try.pinned (OpenSpec.ofChange peerCloserWrong)

/-- 'wigwaglaw09.PeerList': WHATEVER THE INPUT: true; the input reads as it did. -/
def peerListSpec : ChangeSpec := { name := "peerList", fn := fun _ => fun
  | [d1, d2, d3] => { results := [.lit (.bool true)], args := [d1, d2, d3] }
  | _ => none }
def peerListRow : OpenClaim := { program := "ytcdgpfhllbdooaa", sum := "5657190a4b44eee8c0c2ca28d93c39a1e031e54bab7cfb43a5dda8cc610e4241", func := "wigwag/wigwaglaw09.PeerList", spec := "peerList", unfollowed := true, recurses := true, apart := false }
def PeerListSaid : Prop := peerListRow.holds Try.pinned (OpenSpec.ofChange peerListSpec)

/-- ITS FALSE NEIGHBOUR: 'it returns false'. Refute it at one input. -/
def peerListWrong : ChangeSpec := { name := "peerList", fn := fun _ => fun
  | [d1, d2, d3] => { results := [.lit (.bool false)], args := [d1, d2, d3] }
  | _ => none }
def PeerListWrongFalsely : Prop := peerListRow.holds Try.pinned (OpenSpec.ofChange peerListWrong)

/-- 'wigwaglaw09.PeerHeads': WHATEVER THE INPUT: true; the input reads as it did. -/
def peerHeadsSpec : ChangeSpec := { name := "peerHeads", fn := fun _ => fun
  | [d1, d2] => { results := [.lit (.bool true)], args := [d1, d2] }
  | _ => none }
def peerHeadsRow : OpenClaim := { program := "ytcdgpfhllbdooaa", sum := "5657190a4b44eee8c0c2ca28d93c39a1e031e54bab7cfb43a5dda8cc610e4241", func := "wigwag/wigwaglaw09.PeerHeads", spec := "peerHeads", unfollowed := true, recurses := true, apart := false }
def PeerHeadsSaid : Prop := peerHeadsRow.holds Try.pinned (OpenSpec.ofChange peerHeadsSpec)

/-- ITS FALSE NEIGHBOUR: 'it returns false'. Refute it at one input. -/
def peerHeadsWrong : ChangeSpec := { name := "peerHeads", fn := fun _ => fun
  | [d1, d2] => { results := [.lit (.bool false)], args := [d1, d2] }
  | _ => none }
def PeerHeadsWrongFalsely : Prop := peerHeadsRow.holds Try.pinned (OpenSpec.ofChange peerHeadsWrong)

/-- 'wigwaglaw01.RingRound': WHATEVER THE INPUT: true; the input reads as it did. -/
def ringRoundSpec : ChangeSpec := { name := "ringRound", fn := fun _ => fun
  | [d1, d2, d3] => { results := [.lit (.bool true)], args := [d1, d2, d3] }
  | _ => none }
def ringRoundRow : OpenClaim := { program := "ytcdgpfhllbdooaa", sum := "5657190a4b44eee8c0c2ca28d93c39a1e031e54bab7cfb43a5dda8cc610e4241", func := "wigwag/wigwaglaw01.RingRound", spec := "ringRound", apart := false }
def RingRoundSaid : Prop := ringRoundRow.holds Try.pinned (OpenSpec.ofChange ringRoundSpec)

/-- ITS FALSE NEIGHBOUR: 'it returns false'. Refute it at one input. -/
def ringRoundWrong : ChangeSpec := { name := "ringRound", fn := fun _ => fun
  | [d1, d2, d3] => { results := [.lit (.bool false)], args := [d1, d2, d3] }
  | _ => none }
def RingRoundWrongFalsely : Prop := ringRoundRow.holds Try.pinned (OpenSpec.ofChange ringRoundWrong)

/-- 'wigwaglaw01.RingTurned': WHATEVER THE INPUT: true; the input reads as it did. -/
def ringTurnedSpec : ChangeSpec := { name := "ringTurned", fn := fun _ => fun
  | [d1, d2, d3, d4] => { results := [.lit (.bool true)], args := [d1, d2, d3, d4] }
  | _ => none }
def ringTurnedRow : OpenClaim := { program := "ytcdgpfhllbdooaa", sum := "5657190a4b44eee8c0c2ca28d93c39a1e031e54bab7cfb43a5dda8cc610e4241", func := "wigwag/wigwaglaw01.RingTurned", spec := "ringTurned", apart := false }
def RingTurnedSaid : Prop := ringTurnedRow.holds Try.pinned (OpenSpec.ofChange ringTurnedSpec)

/-- ITS FALSE NEIGHBOUR: 'it returns false'. Refute it at one input. -/
def ringTurnedWrong : ChangeSpec := { name := "ringTurned", fn := fun _ => fun
  | [d1, d2, d3, d4] => { results := [.lit (.bool false)], args := [d1, d2, d3, d4] }
  | _ => none }
def RingTurnedWrongFalsely : Prop := ringTurnedRow.holds Try.pinned (OpenSpec.ofChange ringTurnedWrong)

/-- 'wigwaglaw01.RingChain': WHATEVER THE INPUT: true; the input reads as it did. -/
def ringChainSpec : ChangeSpec := { name := "ringChain", fn := fun _ => fun
  | [d1, d2, d3] => { results := [.lit (.bool true)], args := [d1, d2, d3] }
  | _ => none }
def ringChainRow : OpenClaim := { program := "ytcdgpfhllbdooaa", sum := "5657190a4b44eee8c0c2ca28d93c39a1e031e54bab7cfb43a5dda8cc610e4241", func := "wigwag/wigwaglaw01.RingChain", spec := "ringChain", apart := false }
def RingChainSaid : Prop := ringChainRow.holds Try.pinned (OpenSpec.ofChange ringChainSpec)

/-- ITS FALSE NEIGHBOUR: 'it returns false'. Refute it at one input. -/
def ringChainWrong : ChangeSpec := { name := "ringChain", fn := fun _ => fun
  | [d1, d2, d3] => { results := [.lit (.bool false)], args := [d1, d2, d3] }
  | _ => none }
def RingChainWrongFalsely : Prop := ringChainRow.holds Try.pinned (OpenSpec.ofChange ringChainWrong)

/-- 'wigwaglaw01.RingLies': WHATEVER THE INPUT: true; the input reads as it did. -/
def ringLiesSpec : ChangeSpec := { name := "ringLies", fn := fun _ => fun
  | [d1, d2, d3, d4] => { results := [.lit (.bool true)], args := [d1, d2, d3, d4] }
  | _ => none }
def ringLiesRow : OpenClaim := { program := "ytcdgpfhllbdooaa", sum := "5657190a4b44eee8c0c2ca28d93c39a1e031e54bab7cfb43a5dda8cc610e4241", func := "wigwag/wigwaglaw01.RingLies", spec := "ringLies", apart := false }
def RingLiesSaid : Prop := ringLiesRow.holds Try.pinned (OpenSpec.ofChange ringLiesSpec)

/-- ITS FALSE NEIGHBOUR: 'it returns false'. Refute it at one input. -/
def ringLiesWrong : ChangeSpec := { name := "ringLies", fn := fun _ => fun
  | [d1, d2, d3, d4] => { results := [.lit (.bool false)], args := [d1, d2, d3, d4] }
  | _ => none }
def RingLiesWrongFalsely : Prop := ringLiesRow.holds Try.pinned (OpenSpec.ofChange ringLiesWrong)

/-- 'wigwaglaw01.RingFingers': WHATEVER THE INPUT: true; the input reads as it did. -/
def ringFingersSpec : ChangeSpec := { name := "ringFingers", fn := fun _ => fun
  | [d1, d2] => { results := [.lit (.bool true)], args := [d1, d2] }
  | _ => none }
def ringFingersRow : OpenClaim := { program := "ytcdgpfhllbdooaa", sum := "5657190a4b44eee8c0c2ca28d93c39a1e031e54bab7cfb43a5dda8cc610e4241", func := "wigwag/wigwaglaw01.RingFingers", spec := "ringFingers", apart := false }
def RingFingersSaid : Prop := ringFingersRow.holds Try.pinned (OpenSpec.ofChange ringFingersSpec)

/-- ITS FALSE NEIGHBOUR: 'it returns false'. Refute it at one input. -/
def ringFingersWrong : ChangeSpec := { name := "ringFingers", fn := fun _ => fun
  | [d1, d2] => { results := [.lit (.bool false)], args := [d1, d2] }
  | _ => none }
def RingFingersWrongFalsely : Prop := ringFingersRow.holds Try.pinned (OpenSpec.ofChange ringFingersWrong)

/-- 'wigwaglaw01.RingHashes': WHATEVER THE INPUT: true; the input reads as it did. -/
def ringHashesSpec : ChangeSpec := { name := "ringHashes", fn := fun _ => fun
  | [d] => { results := [.lit (.bool true)], args := [d] }
  | _ => none }
def ringHashesRow : OpenClaim := { program := "ytcdgpfhllbdooaa", sum := "5657190a4b44eee8c0c2ca28d93c39a1e031e54bab7cfb43a5dda8cc610e4241", func := "wigwag/wigwaglaw01.RingHashes", spec := "ringHashes", apart := false }
def RingHashesSaid : Prop := ringHashesRow.holds Try.pinned (OpenSpec.ofChange ringHashesSpec)

/-- ITS FALSE NEIGHBOUR: 'it returns false'. Refute it at one input. -/
def ringHashesWrong : ChangeSpec := { name := "ringHashes", fn := fun _ => fun
  | [d] => { results := [.lit (.bool false)], args := [d] }
  | _ => none }
def RingHashesWrongFalsely : Prop := ringHashesRow.holds Try.pinned (OpenSpec.ofChange ringHashesWrong)

/-- 'wigwaglaw01.RingOwns': WHATEVER THE INPUT: true; the input reads as it did. -/
def ringOwnsSpec : ChangeSpec := { name := "ringOwns", fn := fun _ => fun
  | [d1, d2] => { results := [.lit (.bool true)], args := [d1, d2] }
  | _ => none }
def ringOwnsRow : OpenClaim := { program := "ytcdgpfhllbdooaa", sum := "5657190a4b44eee8c0c2ca28d93c39a1e031e54bab7cfb43a5dda8cc610e4241", func := "wigwag/wigwaglaw01.RingOwns", spec := "ringOwns", recurses := true, apart := false }
def RingOwnsSaid : Prop := ringOwnsRow.holds Try.pinned (OpenSpec.ofChange ringOwnsSpec)

/-- ITS FALSE NEIGHBOUR: 'it returns false'. Refute it at one input. -/
def ringOwnsWrong : ChangeSpec := { name := "ringOwns", fn := fun _ => fun
  | [d1, d2] => { results := [.lit (.bool false)], args := [d1, d2] }
  | _ => none }
def RingOwnsWrongFalsely : Prop := ringOwnsRow.holds Try.pinned (OpenSpec.ofChange ringOwnsWrong)

/-- 'wigwaglaw01.RingParts': WHATEVER THE INPUT: true; the input reads as it did. -/
def ringPartsSpec : ChangeSpec := { name := "ringParts", fn := fun _ => fun
  | [d1, d2] => { results := [.lit (.bool true)], args := [d1, d2] }
  | _ => none }
def ringPartsRow : OpenClaim := { program := "ytcdgpfhllbdooaa", sum := "5657190a4b44eee8c0c2ca28d93c39a1e031e54bab7cfb43a5dda8cc610e4241", func := "wigwag/wigwaglaw01.RingParts", spec := "ringParts", recurses := true, apart := false }
def RingPartsSaid : Prop := ringPartsRow.holds Try.pinned (OpenSpec.ofChange ringPartsSpec)

/-- ITS FALSE NEIGHBOUR: 'it returns false'. Refute it at one input. -/
def ringPartsWrong : ChangeSpec := { name := "ringParts", fn := fun _ => fun
  | [d1, d2] => { results := [.lit (.bool false)], args := [d1, d2] }
  | _ => none }
def RingPartsWrongFalsely : Prop := ringPartsRow.holds Try.pinned (OpenSpec.ofChange ringPartsWrong)

/-- 'wigwaglaw01.RingTwice': WHATEVER THE INPUT: true; the input reads as it did. -/
def ringTwiceSpec : ChangeSpec := { name := "ringTwice", fn := fun _ => fun
  | [d] => { results := [.lit (.bool true)], args := [d] }
  | _ => none }
def ringTwiceRow : OpenClaim := { program := "ytcdgpfhllbdooaa", sum := "5657190a4b44eee8c0c2ca28d93c39a1e031e54bab7cfb43a5dda8cc610e4241", func := "wigwag/wigwaglaw01.RingTwice", spec := "ringTwice", recurses := true, apart := false }
def RingTwiceSaid : Prop := ringTwiceRow.holds Try.pinned (OpenSpec.ofChange ringTwiceSpec)

/-- ITS FALSE NEIGHBOUR: 'it returns false'. Refute it at one input. -/
def ringTwiceWrong : ChangeSpec := { name := "ringTwice", fn := fun _ => fun
  | [d] => { results := [.lit (.bool false)], args := [d] }
  | _ => none }
def RingTwiceWrongFalsely : Prop := ringTwiceRow.holds Try.pinned (OpenSpec.ofChange ringTwiceWrong)

/- THE SECOND FORM. 'bulk': how many values and letters a reading holds, each counted each time it is reached (what is shared counts as often as it is met; a slice's spare places count too). A statement '..UptoSaid' is the law's where the arguments, and the package variables that the reading takes, are together of bulk at most 1048576: NARROWER than '..Said'. Prove '..Said' where nothing that the law and all that it calls make is longer than what came in: it says more and counts as full. Else prove '..UptoSaid'. A law counts once. -/
mutual
def uptoBulk {H : Type} : DataW H → Nat
  | .lit (.string bytes) => bytes.length + 1
  | .lit _ => 1
  | .nil => 1
  | .ptr d => uptoBulk d + 1
  | .slice elems spare => uptoBulkAll elems + uptoBulkAll spare + 1
  | .agg parts => uptoBulkAll parts + 1
  | .iface _ d => uptoBulk d + 1
  | .map entries => uptoBulkEntries entries + 1
  | .held _ => 1
def uptoBulkAll {H : Type} : List (DataW H) → Nat
  | [] => 0
  | d :: r => uptoBulk d + uptoBulkAll r
def uptoBulkEntries {H : Type} : List (Lit × DataW H) → Nat
  | [] => 0
  | x :: r => uptoBulkEntry x + uptoBulkEntries r
def uptoBulkEntry {H : Type} : Lit × DataW H → Nat
  | (.string bytes, d) => bytes.length + uptoBulk d + 1
  | (_, d) => uptoBulk d + 1
 end
def uptoSmall : (H : Type) → List (DataW H) → Bool := fun _ ds => decide (uptoBulkAll ds ≤ 1048576)
def OpenSpec.upto (s : _root_.Go.ChangeSpec) : _root_.Go.OpenSpec := { _root_.Go.OpenSpec.ofChange s with cond := some uptoSmall }

/-- 'wigwaglaw09.PeerCloser', WHERE WHAT IT READS IS OF BULK AT MOST 1048576: true; the input reads as it did. -/
def peerCloserUptoRow : OpenClaim := { program := "ytcdgpfhllbdooaa", sum := "5657190a4b44eee8c0c2ca28d93c39a1e031e54bab7cfb43a5dda8cc610e4241", func := "wigwag/wigwaglaw09.PeerCloser", spec := "peerCloser", unfollowed := true, recurses := true, apart := false, narrowed := true }
def PeerCloserUptoSaid : Prop := peerCloserUptoRow.holds Try.pinned (OpenSpec.upto peerCloserSpec)

/-- 'wigwaglaw09.PeerList', WHERE WHAT IT READS IS OF BULK AT MOST 1048576: true; the input reads as it did. -/
def peerListUptoRow : OpenClaim := { program := "ytcdgpfhllbdooaa", sum := "5657190a4b44eee8c0c2ca28d93c39a1e031e54bab7cfb43a5dda8cc610e4241", func := "wigwag/wigwaglaw09.PeerList", spec := "peerList", unfollowed := true, recurses := true, apart := false, narrowed := true }
def PeerListUptoSaid : Prop := peerListUptoRow.holds Try.pinned (OpenSpec.upto peerListSpec)

/-- 'wigwaglaw09.PeerHeads', WHERE WHAT IT READS IS OF BULK AT MOST 1048576: true; the input reads as it did. -/
def peerHeadsUptoRow : OpenClaim := { program := "ytcdgpfhllbdooaa", sum := "5657190a4b44eee8c0c2ca28d93c39a1e031e54bab7cfb43a5dda8cc610e4241", func := "wigwag/wigwaglaw09.PeerHeads", spec := "peerHeads", unfollowed := true, recurses := true, apart := false, narrowed := true }
def PeerHeadsUptoSaid : Prop := peerHeadsUptoRow.holds Try.pinned (OpenSpec.upto peerHeadsSpec)

/-- 'wigwaglaw01.RingRound', WHERE WHAT IT READS IS OF BULK AT MOST 1048576: true; the input reads as it did. -/
def ringRoundUptoRow : OpenClaim := { program := "ytcdgpfhllbdooaa", sum := "5657190a4b44eee8c0c2ca28d93c39a1e031e54bab7cfb43a5dda8cc610e4241", func := "wigwag/wigwaglaw01.RingRound", spec := "ringRound", apart := false, narrowed := true }
def RingRoundUptoSaid : Prop := ringRoundUptoRow.holds Try.pinned (OpenSpec.upto ringRoundSpec)

/-- 'wigwaglaw01.RingTurned', WHERE WHAT IT READS IS OF BULK AT MOST 1048576: true; the input reads as it did. -/
def ringTurnedUptoRow : OpenClaim := { program := "ytcdgpfhllbdooaa", sum := "5657190a4b44eee8c0c2ca28d93c39a1e031e54bab7cfb43a5dda8cc610e4241", func := "wigwag/wigwaglaw01.RingTurned", spec := "ringTurned", apart := false, narrowed := true }
def RingTurnedUptoSaid : Prop := ringTurnedUptoRow.holds Try.pinned (OpenSpec.upto ringTurnedSpec)

/-- 'wigwaglaw01.RingChain', WHERE WHAT IT READS IS OF BULK AT MOST 1048576: true; the input reads as it did. -/
def ringChainUptoRow : OpenClaim := { program := "ytcdgpfhllbdooaa", sum := "5657190a4b44eee8c0c2ca28d93c39a1e031e54bab7cfb43a5dda8cc610e4241", func := "wigwag/wigwaglaw01.RingChain", spec := "ringChain", apart := false, narrowed := true }
def RingChainUptoSaid : Prop := ringChainUptoRow.holds Try.pinned (OpenSpec.upto ringChainSpec)

/-- 'wigwaglaw01.RingLies', WHERE WHAT IT READS IS OF BULK AT MOST 1048576: true; the input reads as it did. -/
def ringLiesUptoRow : OpenClaim := { program := "ytcdgpfhllbdooaa", sum := "5657190a4b44eee8c0c2ca28d93c39a1e031e54bab7cfb43a5dda8cc610e4241", func := "wigwag/wigwaglaw01.RingLies", spec := "ringLies", apart := false, narrowed := true }
def RingLiesUptoSaid : Prop := ringLiesUptoRow.holds Try.pinned (OpenSpec.upto ringLiesSpec)

/-- 'wigwaglaw01.RingFingers', WHERE WHAT IT READS IS OF BULK AT MOST 1048576: true; the input reads as it did. -/
def ringFingersUptoRow : OpenClaim := { program := "ytcdgpfhllbdooaa", sum := "5657190a4b44eee8c0c2ca28d93c39a1e031e54bab7cfb43a5dda8cc610e4241", func := "wigwag/wigwaglaw01.RingFingers", spec := "ringFingers", apart := false, narrowed := true }
def RingFingersUptoSaid : Prop := ringFingersUptoRow.holds Try.pinned (OpenSpec.upto ringFingersSpec)

/-- 'wigwaglaw01.RingHashes', WHERE WHAT IT READS IS OF BULK AT MOST 1048576: true; the input reads as it did. -/
def ringHashesUptoRow : OpenClaim := { program := "ytcdgpfhllbdooaa", sum := "5657190a4b44eee8c0c2ca28d93c39a1e031e54bab7cfb43a5dda8cc610e4241", func := "wigwag/wigwaglaw01.RingHashes", spec := "ringHashes", apart := false, narrowed := true }
def RingHashesUptoSaid : Prop := ringHashesUptoRow.holds Try.pinned (OpenSpec.upto ringHashesSpec)

/-- 'wigwaglaw01.RingOwns', WHERE WHAT IT READS IS OF BULK AT MOST 1048576: true; the input reads as it did. -/
def ringOwnsUptoRow : OpenClaim := { program := "ytcdgpfhllbdooaa", sum := "5657190a4b44eee8c0c2ca28d93c39a1e031e54bab7cfb43a5dda8cc610e4241", func := "wigwag/wigwaglaw01.RingOwns", spec := "ringOwns", recurses := true, apart := false, narrowed := true }
def RingOwnsUptoSaid : Prop := ringOwnsUptoRow.holds Try.pinned (OpenSpec.upto ringOwnsSpec)

/-- 'wigwaglaw01.RingParts', WHERE WHAT IT READS IS OF BULK AT MOST 1048576: true; the input reads as it did. -/
def ringPartsUptoRow : OpenClaim := { program := "ytcdgpfhllbdooaa", sum := "5657190a4b44eee8c0c2ca28d93c39a1e031e54bab7cfb43a5dda8cc610e4241", func := "wigwag/wigwaglaw01.RingParts", spec := "ringParts", recurses := true, apart := false, narrowed := true }
def RingPartsUptoSaid : Prop := ringPartsUptoRow.holds Try.pinned (OpenSpec.upto ringPartsSpec)

/-- 'wigwaglaw01.RingTwice', WHERE WHAT IT READS IS OF BULK AT MOST 1048576: true; the input reads as it did. -/
def ringTwiceUptoRow : OpenClaim := { program := "ytcdgpfhllbdooaa", sum := "5657190a4b44eee8c0c2ca28d93c39a1e031e54bab7cfb43a5dda8cc610e4241", func := "wigwag/wigwaglaw01.RingTwice", spec := "ringTwice", recurses := true, apart := false, narrowed := true }
def RingTwiceUptoSaid : Prop := ringTwiceUptoRow.holds Try.pinned (OpenSpec.upto ringTwiceSpec)

end Rows
end Go.Proofs.Ytcdgpfhllbdooaa
