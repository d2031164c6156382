/-
  No cell of these rows narrows 'for every input' (looked for: loops, veiled, ifaces, maps, wideKeys, modest, calm, conditions, laid).
  DERIVED. THE GIVEN ROWS OF THIS SEAT. 4 by the template 'for every input the law returns true; each argument reads behind the call as it read before'; 0 by the template 'total and deterministic' (their statements: YtcmldhanidkdjaaTotals.lean).
  GIVEN WITH THE SEED: the statements are not yours to turn. If you find one false, say at which input.
  Laid BY PROGRAM, IN A SANDBOX (cutbox-rows.mjs): the forced cells as the released guide's own fill.sh prints them over the translation 3cfd489491f1bd51… (all of the seat's roots in one cut). By AI agents, Wed Nov 11 2026. No macro, syntax, notation, axiom, sorry.
-/
import Derived.Test.YtcmldhanidkdjaaChecked
import GoSem.Claim
import GoSem.ClaimJoined
import GoSem.ClaimMapViews
import Derived.JoinedTies
import Derived.KernelRfl
namespace Go.Proofs.Ytcmldhanidkdjaa
/- THE CELL 'sum', in the pinned program and in every row, IS THE sha256 OF THE DUMP (.gsa) THAT YtcmldhanidkdjaaProg.lean LOADS. Nothing in Lean hashes anything: it is a label: what it is worth is what the hold of that sum in a sandbox is worth. -/
noncomputable def Try.pinned : Pinned := { name := "ytcmldhanidkdjaa", sum := "3cfd489491f1bd5137ba33ed7648de7ce8d4e8d0c5fbea6b51be9c9bba370417", checked := Try.checked }
namespace Rows
def none {H : Type} : Left H := { results := [], args := [] }

/-- 'ostinatolaw13.RtaLeast': WHATEVER THE INPUT: true; the input reads as it did. -/
def rtaLeastSpec : ChangeSpec := { name := "rtaLeast", fn := fun _ => fun
  | [d1, d2] => { results := [.lit (.bool true)], args := [d1, d2] }
  | _ => none }
def rtaLeastRow : OpenClaim := { program := "ytcmldhanidkdjaa", sum := "3cfd489491f1bd5137ba33ed7648de7ce8d4e8d0c5fbea6b51be9c9bba370417", func := "ostinato/ostinatolaw13.RtaLeast", spec := "rtaLeast", inPlace := ["math/bits.Add64"], unfollowed := true, recurses := true, apart := false }
def RtaLeastSaid : Prop := rtaLeastRow.holds Try.pinned (OpenSpec.ofChange rtaLeastSpec)

/-- ITS FALSE NEIGHBOUR: 'it returns false'. Refute it at one input. -/
def rtaLeastWrong : ChangeSpec := { name := "rtaLeast", fn := fun _ => fun
  | [d1, d2] => { results := [.lit (.bool false)], args := [d1, d2] }
  | _ => none }
def RtaLeastWrongFalsely : Prop := rtaLeastRow.holds Try.pinned (OpenSpec.ofChange rtaLeastWrong)

/-- 'ostinatolaw13.RtaMore': WHATEVER THE INPUT: true; the input reads as it did. -/
def rtaMoreSpec : ChangeSpec := { name := "rtaMore", fn := fun _ => fun
  | [d1, d2, d3] => { results := [.lit (.bool true)], args := [d1, d2, d3] }
  | _ => none }
def rtaMoreRow : OpenClaim := { program := "ytcmldhanidkdjaa", sum := "3cfd489491f1bd5137ba33ed7648de7ce8d4e8d0c5fbea6b51be9c9bba370417", func := "ostinato/ostinatolaw13.RtaMore", spec := "rtaMore", inPlace := ["math/bits.Add64"], unfollowed := true, recurses := true, apart := false }
def RtaMoreSaid : Prop := rtaMoreRow.holds Try.pinned (OpenSpec.ofChange rtaMoreSpec)

/-- ITS FALSE NEIGHBOUR: 'it returns false'. Refute it at one input. -/
def rtaMoreWrong : ChangeSpec := { name := "rtaMore", fn := fun _ => fun
  | [d1, d2, d3] => { results := [.lit (.bool false)], args := [d1, d2, d3] }
  | _ => none }
def RtaMoreWrongFalsely : Prop := rtaMoreRow.holds Try.pinned (OpenSpec.ofChange rtaMoreWrong)

/-- 'ostinatolaw13.RtaParts': WHATEVER THE INPUT: true; the input reads as it did. -/
def rtaPartsSpec : ChangeSpec := { name := "rtaParts", fn := fun _ => fun
  | [d1, d2, d3] => { results := [.lit (.bool true)], args := [d1, d2, d3] }
  | _ => none }
def rtaPartsRow : OpenClaim := { program := "ytcmldhanidkdjaa", sum := "3cfd489491f1bd5137ba33ed7648de7ce8d4e8d0c5fbea6b51be9c9bba370417", func := "ostinato/ostinatolaw13.RtaParts", spec := "rtaParts", inPlace := ["math/bits.Add64"], unfollowed := true, recurses := true, apart := false }
def RtaPartsSaid : Prop := rtaPartsRow.holds Try.pinned (OpenSpec.ofChange rtaPartsSpec)

/-- ITS FALSE NEIGHBOUR: 'it returns false'. Refute it at one input. -/
def rtaPartsWrong : ChangeSpec := { name := "rtaParts", fn := fun _ => fun
  | [d1, d2, d3] => { results := [.lit (.bool false)], args := [d1, d2, d3] }
  | _ => none }
def RtaPartsWrongFalsely : Prop := rtaPartsRow.holds Try.pinned (OpenSpec.ofChange rtaPartsWrong)

/-- 'ostinatolaw13.RtaBears': WHATEVER THE INPUT: true; the input reads as it did. -/
def rtaBearsSpec : ChangeSpec := { name := "rtaBears", fn := fun _ => fun
  | [d1, d2] => { results := [.lit (.bool true)], args := [d1, d2] }
  | _ => none }
def rtaBearsRow : OpenClaim := { program := "ytcmldhanidkdjaa", sum := "3cfd489491f1bd5137ba33ed7648de7ce8d4e8d0c5fbea6b51be9c9bba370417", func := "ostinato/ostinatolaw13.RtaBears", spec := "rtaBears", inPlace := ["math/bits.Add64"], unfollowed := true, recurses := true, apart := false }
def RtaBearsSaid : Prop := rtaBearsRow.holds Try.pinned (OpenSpec.ofChange rtaBearsSpec)

/-- ITS FALSE NEIGHBOUR: 'it returns false'. Refute it at one input. -/
def rtaBearsWrong : ChangeSpec := { name := "rtaBears", fn := fun _ => fun
  | [d1, d2] => { results := [.lit (.bool false)], args := [d1, d2] }
  | _ => none }
def RtaBearsWrongFalsely : Prop := rtaBearsRow.holds Try.pinned (OpenSpec.ofChange rtaBearsWrong)

/- THE SECOND FORM. 'bulk': how many values and letters a reading holds, each counted each time it is reached (what is shared counts as often as it is met; a slice's spare places count too). A statement '..UptoSaid' is the law's where the arguments, and the package variables that the reading takes, are together of bulk at most 1048576: NARROWER than '..Said'. Prove '..Said' where nothing that the law and all that it calls make is longer than what came in: it says more and counts as full. Else prove '..UptoSaid'. A law counts once. -/
mutual
def uptoBulk {H : Type} : DataW H → Nat
  | .lit (.string bytes) => bytes.length + 1
  | .lit _ => 1
  | .nil => 1
  | .ptr d => uptoBulk d + 1
  | .slice elems spare => uptoBulkAll elems + uptoBulkAll spare + 1
  | .agg parts => uptoBulkAll parts + 1
  | .iface _ d => uptoBulk d + 1
  | .map entries => uptoBulkEntries entries + 1
  | .held _ => 1
def uptoBulkAll {H : Type} : List (DataW H) → Nat
  | [] => 0
  | d :: r => uptoBulk d + uptoBulkAll r
def uptoBulkEntries {H : Type} : List (Lit × DataW H) → Nat
  | [] => 0
  | x :: r => uptoBulkEntry x + uptoBulkEntries r
def uptoBulkEntry {H : Type} : Lit × DataW H → Nat
  | (.string bytes, d) => bytes.length + uptoBulk d + 1
  | (_, d) => uptoBulk d + 1
 end
def uptoSmall : (H : Type) → List (DataW H) → Bool := fun _ ds => decide (uptoBulkAll ds ≤ 1048576)
def OpenSpec.upto (s : _root_.Go.ChangeSpec) : _root_.Go.OpenSpec := { _root_.Go.OpenSpec.ofChange s with cond := some uptoSmall }

/-- 'ostinatolaw13.RtaLeast', WHERE WHAT IT READS IS OF BULK AT MOST 1048576: true; the input reads as it did. -/
def rtaLeastUptoRow : OpenClaim := { program := "ytcmldhanidkdjaa", sum := "3cfd489491f1bd5137ba33ed7648de7ce8d4e8d0c5fbea6b51be9c9bba370417", func := "ostinato/ostinatolaw13.RtaLeast", spec := "rtaLeast", inPlace := ["math/bits.Add64"], unfollowed := true, recurses := true, apart := false, narrowed := true }
def RtaLeastUptoSaid : Prop := rtaLeastUptoRow.holds Try.pinned (OpenSpec.upto rtaLeastSpec)

/-- 'ostinatolaw13.RtaMore', WHERE WHAT IT READS IS OF BULK AT MOST 1048576: true; the input reads as it did. -/
def rtaMoreUptoRow : OpenClaim := { program := "ytcmldhanidkdjaa", sum := "3cfd489491f1bd5137ba33ed7648de7ce8d4e8d0c5fbea6b51be9c9bba370417", func := "ostinato/ostinatolaw13.RtaMore", spec := "rtaMore", inPlace := ["math/bits.Add64"], unfollowed := true, recurses := true, apart := false, narrowed := true }
def RtaMoreUptoSaid : Prop := rtaMoreUptoRow.holds Try.pinned (OpenSpec.upto rtaMoreSpec)

/-- 'ostinatolaw13.RtaParts', WHERE WHAT IT READS IS OF BULK AT MOST 1048576: true; the input reads as it did. -/
def rtaPartsUptoRow : OpenClaim := { program := "ytcmldhanidkdjaa", sum := "3cfd489491f1bd5137ba33ed7648de7ce8d4e8d0c5fbea6b51be9c9bba370417", func := "ostinato/ostinatolaw13.RtaParts", spec := "rtaParts", inPlace := ["math/bits.Add64"], unfollowed := true, recurses := true, apart := false, narrowed := true }
def RtaPartsUptoSaid : Prop := rtaPartsUptoRow.holds Try.pinned (OpenSpec.upto rtaPartsSpec)

/-- 'ostinatolaw13.RtaBears', WHERE WHAT IT READS IS OF BULK AT MOST 1048576: true; the input reads as it did. -/
def rtaBearsUptoRow : OpenClaim := { program := "ytcmldhanidkdjaa", sum := "3cfd489491f1bd5137ba33ed7648de7ce8d4e8d0c5fbea6b51be9c9bba370417", func := "ostinato/ostinatolaw13.RtaBears", spec := "rtaBears", inPlace := ["math/bits.Add64"], unfollowed := true, recurses := true, apart := false, narrowed := true }
def RtaBearsUptoSaid : Prop := rtaBearsUptoRow.holds Try.pinned (OpenSpec.upto rtaBearsSpec)

end Rows
end Go.Proofs.Ytcmldhanidkdjaa
