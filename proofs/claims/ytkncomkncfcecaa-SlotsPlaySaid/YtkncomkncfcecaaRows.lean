/-
  No cell of these rows narrows 'for every input' (looked for: loops, veiled, ifaces, maps, wideKeys, modest, calm, conditions, laid).
  DERIVED. THE GIVEN ROWS OF THIS SEAT. 7 by the template 'for every input the law returns true; each argument reads behind the call as it read before'; 0 by the template 'total and deterministic' (their statements: YtkncomkncfcecaaTotals.lean).
  GIVEN WITH THE SEED: the statements are not yours to turn. If you find one false, say at which input.
  Laid BY PROGRAM, IN A SANDBOX (cutbox-rows.mjs): the forced cells as the released guide's own fill.sh prints them over the translation 2fb531d552154aa1… (all of the seat's roots in one cut). By AI agents, Wed Nov 11 2026. No macro, syntax, notation, axiom, sorry.
-/
import Derived.Test.YtkncomkncfcecaaChecked
import GoSem.Claim
import GoSem.ClaimJoined
import GoSem.ClaimMapViews
import Derived.JoinedTies
import Derived.KernelRfl
namespace Go.Proofs.Ytkncomkncfcecaa
/- THE CELL 'sum', in the pinned program and in every row, IS THE sha256 OF THE DUMP (.gsa) THAT YtkncomkncfcecaaProg.lean LOADS. Nothing in Lean hashes anything: it is a label: what it is worth is what the hold of that sum in a sandbox is worth. -/
noncomputable def Try.pinned : Pinned := { name := "ytkncomkncfcecaa", sum := "2fb531d552154aa1d78df07a86051f0a4f2a52e2fab745c2f877f1ee05c366e5", checked := Try.checked }
namespace Rows
def none {H : Type} : Left H := { results := [], args := [] }

/-- 'solenoidlaw6.SlotsTurns': WHATEVER THE INPUT: true; the input reads as it did. -/
def slotsTurnsSpec : ChangeSpec := { name := "slotsTurns", fn := fun _ => fun
  | [d] => { results := [.lit (.bool true)], args := [d] }
  | _ => none }
def slotsTurnsRow : OpenClaim := { program := "ytkncomkncfcecaa", sum := "2fb531d552154aa1d78df07a86051f0a4f2a52e2fab745c2f877f1ee05c366e5", func := "solenoid/solenoidlaw6.SlotsTurns", spec := "slotsTurns", inPlace := ["slices.overlaps[solenoid/slots.place]"], unfollowed := true, recurses := true, apart := false }
def SlotsTurnsSaid : Prop := slotsTurnsRow.holds Try.pinned (OpenSpec.ofChange slotsTurnsSpec)

/-- ITS FALSE NEIGHBOUR: 'it returns false'. Refute it at one input. -/
def slotsTurnsWrong : ChangeSpec := { name := "slotsTurns", fn := fun _ => fun
  | [d] => { results := [.lit (.bool false)], args := [d] }
  | _ => none }
def SlotsTurnsWrongFalsely : Prop := slotsTurnsRow.holds Try.pinned (OpenSpec.ofChange slotsTurnsWrong)

/-- 'solenoidlaw6.SlotsLast': WHATEVER THE INPUT: true; the input reads as it did. -/
def slotsLastSpec : ChangeSpec := { name := "slotsLast", fn := fun _ => fun
  | [d] => { results := [.lit (.bool true)], args := [d] }
  | _ => none }
def slotsLastRow : OpenClaim := { program := "ytkncomkncfcecaa", sum := "2fb531d552154aa1d78df07a86051f0a4f2a52e2fab745c2f877f1ee05c366e5", func := "solenoid/solenoidlaw6.SlotsLast", spec := "slotsLast", inPlace := ["slices.overlaps[solenoid/slots.place]"], unfollowed := true, recurses := true, apart := false }
def SlotsLastSaid : Prop := slotsLastRow.holds Try.pinned (OpenSpec.ofChange slotsLastSpec)

/-- ITS FALSE NEIGHBOUR: 'it returns false'. Refute it at one input. -/
def slotsLastWrong : ChangeSpec := { name := "slotsLast", fn := fun _ => fun
  | [d] => { results := [.lit (.bool false)], args := [d] }
  | _ => none }
def SlotsLastWrongFalsely : Prop := slotsLastRow.holds Try.pinned (OpenSpec.ofChange slotsLastWrong)

/-- 'solenoidlaw6.SlotsStore': WHATEVER THE INPUT: true; the input reads as it did. -/
def slotsStoreSpec : ChangeSpec := { name := "slotsStore", fn := fun _ => fun
  | [d1, d2, d3, d4] => { results := [.lit (.bool true)], args := [d1, d2, d3, d4] }
  | _ => none }
def slotsStoreRow : OpenClaim := { program := "ytkncomkncfcecaa", sum := "2fb531d552154aa1d78df07a86051f0a4f2a52e2fab745c2f877f1ee05c366e5", func := "solenoid/solenoidlaw6.SlotsStore", spec := "slotsStore", inPlace := ["slices.overlaps[solenoid/slots.place]"], unfollowed := true, recurses := true, apart := false }
def SlotsStoreSaid : Prop := slotsStoreRow.holds Try.pinned (OpenSpec.ofChange slotsStoreSpec)

/-- ITS FALSE NEIGHBOUR: 'it returns false'. Refute it at one input. -/
def slotsStoreWrong : ChangeSpec := { name := "slotsStore", fn := fun _ => fun
  | [d1, d2, d3, d4] => { results := [.lit (.bool false)], args := [d1, d2, d3, d4] }
  | _ => none }
def SlotsStoreWrongFalsely : Prop := slotsStoreRow.holds Try.pinned (OpenSpec.ofChange slotsStoreWrong)

/-- 'solenoidlaw6.SlotsWrong': WHATEVER THE INPUT: true; the input reads as it did. -/
def slotsWrongSpec : ChangeSpec := { name := "slotsWrong", fn := fun _ => fun
  | [d1, d2, d3] => { results := [.lit (.bool true)], args := [d1, d2, d3] }
  | _ => none }
def slotsWrongRow : OpenClaim := { program := "ytkncomkncfcecaa", sum := "2fb531d552154aa1d78df07a86051f0a4f2a52e2fab745c2f877f1ee05c366e5", func := "solenoid/solenoidlaw6.SlotsWrong", spec := "slotsWrong", inPlace := ["slices.overlaps[solenoid/slots.place]"], unfollowed := true, recurses := true, apart := false }
def SlotsWrongSaid : Prop := slotsWrongRow.holds Try.pinned (OpenSpec.ofChange slotsWrongSpec)

/-- ITS FALSE NEIGHBOUR: 'it returns false'. Refute it at one input. -/
def slotsWrongWrong : ChangeSpec := { name := "slotsWrong", fn := fun _ => fun
  | [d1, d2, d3] => { results := [.lit (.bool false)], args := [d1, d2, d3] }
  | _ => none }
def SlotsWrongWrongFalsely : Prop := slotsWrongRow.holds Try.pinned (OpenSpec.ofChange slotsWrongWrong)

/-- 'solenoidlaw6.SlotsRows': WHATEVER THE INPUT: true; the input reads as it did. -/
def slotsRowsSpec : ChangeSpec := { name := "slotsRows", fn := fun _ => fun
  | [d1, d2] => { results := [.lit (.bool true)], args := [d1, d2] }
  | _ => none }
def slotsRowsRow : OpenClaim := { program := "ytkncomkncfcecaa", sum := "2fb531d552154aa1d78df07a86051f0a4f2a52e2fab745c2f877f1ee05c366e5", func := "solenoid/solenoidlaw6.SlotsRows", spec := "slotsRows", inPlace := ["slices.overlaps[solenoid/slots.place]"], unfollowed := true, recurses := true, apart := false }
def SlotsRowsSaid : Prop := slotsRowsRow.holds Try.pinned (OpenSpec.ofChange slotsRowsSpec)

/-- ITS FALSE NEIGHBOUR: 'it returns false'. Refute it at one input. -/
def slotsRowsWrong : ChangeSpec := { name := "slotsRows", fn := fun _ => fun
  | [d1, d2] => { results := [.lit (.bool false)], args := [d1, d2] }
  | _ => none }
def SlotsRowsWrongFalsely : Prop := slotsRowsRow.holds Try.pinned (OpenSpec.ofChange slotsRowsWrong)

/-- 'solenoidlaw6.SlotsTorn': WHATEVER THE INPUT: true; the input reads as it did. -/
def slotsTornSpec : ChangeSpec := { name := "slotsTorn", fn := fun _ => fun
  | [d1, d2, d3, d4] => { results := [.lit (.bool true)], args := [d1, d2, d3, d4] }
  | _ => none }
def slotsTornRow : OpenClaim := { program := "ytkncomkncfcecaa", sum := "2fb531d552154aa1d78df07a86051f0a4f2a52e2fab745c2f877f1ee05c366e5", func := "solenoid/solenoidlaw6.SlotsTorn", spec := "slotsTorn", inPlace := ["slices.overlaps[solenoid/slots.place]"], unfollowed := true, recurses := true, apart := false }
def SlotsTornSaid : Prop := slotsTornRow.holds Try.pinned (OpenSpec.ofChange slotsTornSpec)

/-- ITS FALSE NEIGHBOUR: 'it returns false'. Refute it at one input. -/
def slotsTornWrong : ChangeSpec := { name := "slotsTorn", fn := fun _ => fun
  | [d1, d2, d3, d4] => { results := [.lit (.bool false)], args := [d1, d2, d3, d4] }
  | _ => none }
def SlotsTornWrongFalsely : Prop := slotsTornRow.holds Try.pinned (OpenSpec.ofChange slotsTornWrong)

/-- 'solenoidlaw6.SlotsPlay': WHATEVER THE INPUT: true; the input reads as it did. -/
def slotsPlaySpec : ChangeSpec := { name := "slotsPlay", fn := fun _ => fun
  | [d] => { results := [.lit (.bool true)], args := [d] }
  | _ => none }
def slotsPlayRow : OpenClaim := { program := "ytkncomkncfcecaa", sum := "2fb531d552154aa1d78df07a86051f0a4f2a52e2fab745c2f877f1ee05c366e5", func := "solenoid/solenoidlaw6.SlotsPlay", spec := "slotsPlay", inPlace := ["slices.overlaps[solenoid/slots.place]"], unfollowed := true, recurses := true, apart := false }
def SlotsPlaySaid : Prop := slotsPlayRow.holds Try.pinned (OpenSpec.ofChange slotsPlaySpec)

/-- ITS FALSE NEIGHBOUR: 'it returns false'. Refute it at one input. -/
def slotsPlayWrong : ChangeSpec := { name := "slotsPlay", fn := fun _ => fun
  | [d] => { results := [.lit (.bool false)], args := [d] }
  | _ => none }
def SlotsPlayWrongFalsely : Prop := slotsPlayRow.holds Try.pinned (OpenSpec.ofChange slotsPlayWrong)

/- THE SECOND FORM. 'bulk': how many values and letters a reading holds, each counted each time it is reached (what is shared counts as often as it is met; a slice's spare places count too). A statement '..UptoSaid' is the law's where the arguments, and the package variables that the reading takes, are together of bulk at most 1048576: NARROWER than '..Said'. Prove '..Said' where nothing that the law and all that it calls make is longer than what came in: it says more and counts as full. Else prove '..UptoSaid'. A law counts once. -/
mutual
def uptoBulk {H : Type} : DataW H → Nat
  | .lit (.string bytes) => bytes.length + 1
  | .lit _ => 1
  | .nil => 1
  | .ptr d => uptoBulk d + 1
  | .slice elems spare => uptoBulkAll elems + uptoBulkAll spare + 1
  | .agg parts => uptoBulkAll parts + 1
  | .iface _ d => uptoBulk d + 1
  | .map entries => uptoBulkEntries entries + 1
  | .held _ => 1
def uptoBulkAll {H : Type} : List (DataW H) → Nat
  | [] => 0
  | d :: r => uptoBulk d + uptoBulkAll r
def uptoBulkEntries {H : Type} : List (Lit × DataW H) → Nat
  | [] => 0
  | x :: r => uptoBulkEntry x + uptoBulkEntries r
def uptoBulkEntry {H : Type} : Lit × DataW H → Nat
  | (.string bytes, d) => bytes.length + uptoBulk d + 1
  | (_, d) => uptoBulk d + 1
 end
def uptoSmall : (H : Type) → List (DataW H) → Bool := fun _ ds => decide (uptoBulkAll ds ≤ 1048576)
def OpenSpec.upto (s : _root_.Go.ChangeSpec) : _root_.Go.OpenSpec := { _root_.Go.OpenSpec.ofChange s with cond := some uptoSmall }

/-- 'solenoidlaw6.SlotsTurns', WHERE WHAT IT READS IS OF BULK AT MOST 1048576: true; the input reads as it did. -/
def slotsTurnsUptoRow : OpenClaim := { program := "ytkncomkncfcecaa", sum := "2fb531d552154aa1d78df07a86051f0a4f2a52e2fab745c2f877f1ee05c366e5", func := "solenoid/solenoidlaw6.SlotsTurns", spec := "slotsTurns", inPlace := ["slices.overlaps[solenoid/slots.place]"], unfollowed := true, recurses := true, apart := false, narrowed := true }
def SlotsTurnsUptoSaid : Prop := slotsTurnsUptoRow.holds Try.pinned (OpenSpec.upto slotsTurnsSpec)

/-- 'solenoidlaw6.SlotsLast', WHERE WHAT IT READS IS OF BULK AT MOST 1048576: true; the input reads as it did. -/
def slotsLastUptoRow : OpenClaim := { program := "ytkncomkncfcecaa", sum := "2fb531d552154aa1d78df07a86051f0a4f2a52e2fab745c2f877f1ee05c366e5", func := "solenoid/solenoidlaw6.SlotsLast", spec := "slotsLast", inPlace := ["slices.overlaps[solenoid/slots.place]"], unfollowed := true, recurses := true, apart := false, narrowed := true }
def SlotsLastUptoSaid : Prop := slotsLastUptoRow.holds Try.pinned (OpenSpec.upto slotsLastSpec)

/-- 'solenoidlaw6.SlotsStore', WHERE WHAT IT READS IS OF BULK AT MOST 1048576: true; the input reads as it did. -/
def slotsStoreUptoRow : OpenClaim := { program := "ytkncomkncfcecaa", sum := "2fb531d552154aa1d78df07a86051f0a4f2a52e2fab745c2f877f1ee05c366e5", func := "solenoid/solenoidlaw6.SlotsStore", spec := "slotsStore", inPlace := ["slices.overlaps[solenoid/slots.place]"], unfollowed := true, recurses := true, apart := false, narrowed := true }
def SlotsStoreUptoSaid : Prop := slotsStoreUptoRow.holds Try.pinned (OpenSpec.upto slotsStoreSpec)

/-- 'solenoidlaw6.SlotsWrong', WHERE WHAT IT READS IS OF BULK AT MOST 1048576: true; the input reads as it did. -/
def slotsWrongUptoRow : OpenClaim := { program := "ytkncomkncfcecaa", sum := "2fb531d552154aa1d78df07a86051f0a4f2a52e2fab745c2f877f1ee05c366e5", func := "solenoid/solenoidlaw6.SlotsWrong", spec := "slotsWrong", inPlace := ["slices.overlaps[solenoid/slots.place]"], unfollowed := true, recurses := true, apart := false, narrowed := true }
def SlotsWrongUptoSaid : Prop := slotsWrongUptoRow.holds Try.pinned (OpenSpec.upto slotsWrongSpec)

/-- 'solenoidlaw6.SlotsRows', WHERE WHAT IT READS IS OF BULK AT MOST 1048576: true; the input reads as it did. -/
def slotsRowsUptoRow : OpenClaim := { program := "ytkncomkncfcecaa", sum := "2fb531d552154aa1d78df07a86051f0a4f2a52e2fab745c2f877f1ee05c366e5", func := "solenoid/solenoidlaw6.SlotsRows", spec := "slotsRows", inPlace := ["slices.overlaps[solenoid/slots.place]"], unfollowed := true, recurses := true, apart := false, narrowed := true }
def SlotsRowsUptoSaid : Prop := slotsRowsUptoRow.holds Try.pinned (OpenSpec.upto slotsRowsSpec)

/-- 'solenoidlaw6.SlotsTorn', WHERE WHAT IT READS IS OF BULK AT MOST 1048576: true; the input reads as it did. -/
def slotsTornUptoRow : OpenClaim := { program := "ytkncomkncfcecaa", sum := "2fb531d552154aa1d78df07a86051f0a4f2a52e2fab745c2f877f1ee05c366e5", func := "solenoid/solenoidlaw6.SlotsTorn", spec := "slotsTorn", inPlace := ["slices.overlaps[solenoid/slots.place]"], unfollowed := true, recurses := true, apart := false, narrowed := true }
def SlotsTornUptoSaid : Prop := slotsTornUptoRow.holds Try.pinned (OpenSpec.upto slotsTornSpec)

/-- 'solenoidlaw6.SlotsPlay', WHERE WHAT IT READS IS OF BULK AT MOST 1048576: true; the input reads as it did. -/
def slotsPlayUptoRow : OpenClaim := { program := "ytkncomkncfcecaa", sum := "2fb531d552154aa1d78df07a86051f0a4f2a52e2fab745c2f877f1ee05c366e5", func := "solenoid/solenoidlaw6.SlotsPlay", spec := "slotsPlay", inPlace := ["slices.overlaps[solenoid/slots.place]"], unfollowed := true, recurses := true, apart := false, narrowed := true }
def SlotsPlayUptoSaid : Prop := slotsPlayUptoRow.holds Try.pinned (OpenSpec.upto slotsPlaySpec)

end Rows
end Go.Proofs.Ytkncomkncfcecaa
