/-
  No cell of these rows narrows 'for every input' (looked for: loops, veiled, ifaces, maps, wideKeys, modest, calm, conditions, laid).
  DERIVED. THE GIVEN ROWS OF THIS SEAT. 4 by the template 'for every input the law returns true; each argument reads behind the call as it read before'; 0 by the template 'total and deterministic' (their statements: YtkmjldihlgchdaaTotals.lean).
  GIVEN WITH THE SEED: the statements are not yours to turn. If you find one false, say at which input.
  Laid BY PROGRAM, IN A SANDBOX (cutbox-rows.mjs): the forced cells as the released guide's own fill.sh prints them over the translation 9a5bc52eb0a6967c… (all of the seat's roots in one cut). By AI agents, Wed Nov 11 2026. No macro, syntax, notation, axiom, sorry.
-/
import Derived.Test.YtkmjldihlgchdaaChecked
import GoSem.Claim
import GoSem.ClaimJoined
import GoSem.ClaimMapViews
import Derived.JoinedTies
import Derived.KernelRfl
namespace Go.Proofs.Ytkmjldihlgchdaa
/- THE CELL 'sum', in the pinned program and in every row, IS THE sha256 OF THE DUMP (.gsa) THAT YtkmjldihlgchdaaProg.lean LOADS. Nothing in Lean hashes anything: it is a label: what it is worth is what the hold of that sum in a sandbox is worth. -/
noncomputable def Try.pinned : Pinned := { name := "ytkmjldihlgchdaa", sum := "9a5bc52eb0a6967c979672ccbebb3b43af8e2e7b069bec796760ae5bafac01f6", checked := Try.checked }
namespace Rows
def none {H : Type} : Left H := { results := [], args := [] }

/-- 'mooringlaw22.WitnessKnown': WHATEVER THE INPUT: true; the input reads as it did. -/
def witnessKnownSpec : ChangeSpec := { name := "witnessKnown", fn := fun _ => fun
  | [] => { results := [.lit (.bool true)], args := [] }
  | _ => none }
def witnessKnownRow : OpenClaim := { program := "ytkmjldihlgchdaa", sum := "9a5bc52eb0a6967c979672ccbebb3b43af8e2e7b069bec796760ae5bafac01f6", func := "mooring/mooringlaw22.WitnessKnown", spec := "witnessKnown", unfollowed := true, recurses := true, apart := false }
def WitnessKnownSaid : Prop := witnessKnownRow.holds Try.pinned (OpenSpec.ofChange witnessKnownSpec)

/-- ITS FALSE NEIGHBOUR: 'it returns false'. Refute it at one input. -/
def witnessKnownWrong : ChangeSpec := { name := "witnessKnown", fn := fun _ => fun
  | [] => { results := [.lit (.bool false)], args := [] }
  | _ => none }
def WitnessKnownWrongFalsely : Prop := witnessKnownRow.holds Try.pinned (OpenSpec.ofChange witnessKnownWrong)

/-- 'mooringlaw22.WitnessIn': WHATEVER THE INPUT: true; the input reads as it did. -/
def witnessInSpec : ChangeSpec := { name := "witnessIn", fn := fun _ => fun
  | [d1, d2, d3, d4, d5, d6] => { results := [.lit (.bool true)], args := [d1, d2, d3, d4, d5, d6] }
  | _ => none }
def witnessInRow : OpenClaim := { program := "ytkmjldihlgchdaa", sum := "9a5bc52eb0a6967c979672ccbebb3b43af8e2e7b069bec796760ae5bafac01f6", func := "mooring/mooringlaw22.WitnessIn", spec := "witnessIn", unfollowed := true, recurses := true, apart := false }
def WitnessInSaid : Prop := witnessInRow.holds Try.pinned (OpenSpec.ofChange witnessInSpec)

/-- ITS FALSE NEIGHBOUR: 'it returns false'. Refute it at one input. -/
def witnessInWrong : ChangeSpec := { name := "witnessIn", fn := fun _ => fun
  | [d1, d2, d3, d4, d5, d6] => { results := [.lit (.bool false)], args := [d1, d2, d3, d4, d5, d6] }
  | _ => none }
def WitnessInWrongFalsely : Prop := witnessInRow.holds Try.pinned (OpenSpec.ofChange witnessInWrong)

/-- 'mooringlaw22.WitnessOut': WHATEVER THE INPUT: true; the input reads as it did. -/
def witnessOutSpec : ChangeSpec := { name := "witnessOut", fn := fun _ => fun
  | [d1, d2, d3, d4, d5, d6] => { results := [.lit (.bool true)], args := [d1, d2, d3, d4, d5, d6] }
  | _ => none }
def witnessOutRow : OpenClaim := { program := "ytkmjldihlgchdaa", sum := "9a5bc52eb0a6967c979672ccbebb3b43af8e2e7b069bec796760ae5bafac01f6", func := "mooring/mooringlaw22.WitnessOut", spec := "witnessOut", unfollowed := true, recurses := true, apart := false }
def WitnessOutSaid : Prop := witnessOutRow.holds Try.pinned (OpenSpec.ofChange witnessOutSpec)

/-- ITS FALSE NEIGHBOUR: 'it returns false'. Refute it at one input. -/
def witnessOutWrong : ChangeSpec := { name := "witnessOut", fn := fun _ => fun
  | [d1, d2, d3, d4, d5, d6] => { results := [.lit (.bool false)], args := [d1, d2, d3, d4, d5, d6] }
  | _ => none }
def WitnessOutWrongFalsely : Prop := witnessOutRow.holds Try.pinned (OpenSpec.ofChange witnessOutWrong)

/-- 'mooringlaw22.WitnessLive': WHATEVER THE INPUT: true; the input reads as it did. -/
def witnessLiveSpec : ChangeSpec := { name := "witnessLive", fn := fun _ => fun
  | [d1, d2, d3, d4, d5, d6, d7] => { results := [.lit (.bool true)], args := [d1, d2, d3, d4, d5, d6, d7] }
  | _ => none }
def witnessLiveRow : OpenClaim := { program := "ytkmjldihlgchdaa", sum := "9a5bc52eb0a6967c979672ccbebb3b43af8e2e7b069bec796760ae5bafac01f6", func := "mooring/mooringlaw22.WitnessLive", spec := "witnessLive", unfollowed := true, recurses := true, apart := false }
def WitnessLiveSaid : Prop := witnessLiveRow.holds Try.pinned (OpenSpec.ofChange witnessLiveSpec)

/-- ITS FALSE NEIGHBOUR: 'it returns false'. Refute it at one input. -/
def witnessLiveWrong : ChangeSpec := { name := "witnessLive", fn := fun _ => fun
  | [d1, d2, d3, d4, d5, d6, d7] => { results := [.lit (.bool false)], args := [d1, d2, d3, d4, d5, d6, d7] }
  | _ => none }
def WitnessLiveWrongFalsely : Prop := witnessLiveRow.holds Try.pinned (OpenSpec.ofChange witnessLiveWrong)

/- THE SECOND FORM. 'bulk': how many values and letters a reading holds, each counted each time it is reached (what is shared counts as often as it is met; a slice's spare places count too). A statement '..UptoSaid' is the law's where the arguments, and the package variables that the reading takes, are together of bulk at most 1048576: NARROWER than '..Said'. Prove '..Said' where nothing that the law and all that it calls make is longer than what came in: it says more and counts as full. Else prove '..UptoSaid'. A law counts once. -/
mutual
def uptoBulk {H : Type} : DataW H → Nat
  | .lit (.string bytes) => bytes.length + 1
  | .lit _ => 1
  | .nil => 1
  | .ptr d => uptoBulk d + 1
  | .slice elems spare => uptoBulkAll elems + uptoBulkAll spare + 1
  | .agg parts => uptoBulkAll parts + 1
  | .iface _ d => uptoBulk d + 1
  | .map entries => uptoBulkEntries entries + 1
  | .held _ => 1
def uptoBulkAll {H : Type} : List (DataW H) → Nat
  | [] => 0
  | d :: r => uptoBulk d + uptoBulkAll r
def uptoBulkEntries {H : Type} : List (Lit × DataW H) → Nat
  | [] => 0
  | x :: r => uptoBulkEntry x + uptoBulkEntries r
def uptoBulkEntry {H : Type} : Lit × DataW H → Nat
  | (.string bytes, d) => bytes.length + uptoBulk d + 1
  | (_, d) => uptoBulk d + 1
 end
def uptoSmall : (H : Type) → List (DataW H) → Bool := fun _ ds => decide (uptoBulkAll ds ≤ 1048576)
def OpenSpec.upto (s : _root_.Go.ChangeSpec) : _root_.Go.OpenSpec := { _root_.Go.OpenSpec.ofChange s with cond := some uptoSmall }

/-- 'mooringlaw22.WitnessKnown', WHERE WHAT IT READS IS OF BULK AT MOST 1048576: true; the input reads as it did. -/
def witnessKnownUptoRow : OpenClaim := { program := "ytkmjldihlgchdaa", sum := "9a5bc52eb0a6967c979672ccbebb3b43af8e2e7b069bec796760ae5bafac01f6", func := "mooring/mooringlaw22.WitnessKnown", spec := "witnessKnown", unfollowed := true, recurses := true, apart := false, narrowed := true }
def WitnessKnownUptoSaid : Prop := witnessKnownUptoRow.holds Try.pinned (OpenSpec.upto witnessKnownSpec)

/-- 'mooringlaw22.WitnessIn', WHERE WHAT IT READS IS OF BULK AT MOST 1048576: true; the input reads as it did. -/
def witnessInUptoRow : OpenClaim := { program := "ytkmjldihlgchdaa", sum := "9a5bc52eb0a6967c979672ccbebb3b43af8e2e7b069bec796760ae5bafac01f6", func := "mooring/mooringlaw22.WitnessIn", spec := "witnessIn", unfollowed := true, recurses := true, apart := false, narrowed := true }
def WitnessInUptoSaid : Prop := witnessInUptoRow.holds Try.pinned (OpenSpec.upto witnessInSpec)

/-- 'mooringlaw22.WitnessOut', WHERE WHAT IT READS IS OF BULK AT MOST 1048576: true; the input reads as it did. -/
def witnessOutUptoRow : OpenClaim := { program := "ytkmjldihlgchdaa", sum := "9a5bc52eb0a6967c979672ccbebb3b43af8e2e7b069bec796760ae5bafac01f6", func := "mooring/mooringlaw22.WitnessOut", spec := "witnessOut", unfollowed := true, recurses := true, apart := false, narrowed := true }
def WitnessOutUptoSaid : Prop := witnessOutUptoRow.holds Try.pinned (OpenSpec.upto witnessOutSpec)

/-- 'mooringlaw22.WitnessLive', WHERE WHAT IT READS IS OF BULK AT MOST 1048576: true; the input reads as it did. -/
def witnessLiveUptoRow : OpenClaim := { program := "ytkmjldihlgchdaa", sum := "9a5bc52eb0a6967c979672ccbebb3b43af8e2e7b069bec796760ae5bafac01f6", func := "mooring/mooringlaw22.WitnessLive", spec := "witnessLive", unfollowed := true, recurses := true, apart := false, narrowed := true }
def WitnessLiveUptoSaid : Prop := witnessLiveUptoRow.holds Try.pinned (OpenSpec.upto witnessLiveSpec)

end Rows
end Go.Proofs.Ytkmjldihlgchdaa
