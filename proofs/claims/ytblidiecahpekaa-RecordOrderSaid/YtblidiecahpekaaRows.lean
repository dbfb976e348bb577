/-
  No cell of these rows narrows 'for every input' (looked for: loops, veiled, ifaces, maps, wideKeys, modest, calm, conditions, laid).
  DERIVED. THE GIVEN ROWS OF THIS SEAT. 7 by the template 'for every input the law returns true; each argument reads behind the call as it read before'; 0 by the template 'total and deterministic' (their statements: YtblidiecahpekaaTotals.lean).
  GIVEN WITH THE SEED: the statements are not yours to turn. If you find one false, say at which input.
  Laid BY PROGRAM, IN A SANDBOX (cutbox-rows.mjs): the forced cells as the released guide's own fill.sh prints them over the translation 0f772a95c718b8e3… (all of the seat's roots in one cut). By AI agents, Wed Nov 11 2026. No macro, syntax, notation, axiom, sorry.
-/
import Derived.Test.YtblidiecahpekaaChecked
import GoSem.Claim
import GoSem.ClaimJoined
import GoSem.ClaimMapViews
import Derived.JoinedTies
import Derived.KernelRfl
namespace Go.Proofs.Ytblidiecahpekaa
/- THE CELL 'sum', in the pinned program and in every row, IS THE sha256 OF THE DUMP (.gsa) THAT YtblidiecahpekaaProg.lean LOADS. Nothing in Lean hashes anything: it is a label: what it is worth is what the hold of that sum in a sandbox is worth. -/
noncomputable def Try.pinned : Pinned := { name := "ytblidiecahpekaa", sum := "0f772a95c718b8e304592d8af48277faeeeabe8d1c0258d4d47785cb485d27cd", checked := Try.checked }
namespace Rows
def none {H : Type} : Left H := { results := [], args := [] }

/-- 'solenoidlaw5.RecordPages': WHATEVER THE INPUT: true; the input reads as it did. -/
def recordPagesSpec : ChangeSpec := { name := "recordPages", fn := fun _ => fun
  | [d] => { results := [.lit (.bool true)], args := [d] }
  | _ => none }
def recordPagesRow : OpenClaim := { program := "ytblidiecahpekaa", sum := "0f772a95c718b8e304592d8af48277faeeeabe8d1c0258d4d47785cb485d27cd", func := "solenoid/solenoidlaw5.RecordPages", spec := "recordPages", unfollowed := true, recurses := true, apart := false }
def RecordPagesSaid : Prop := recordPagesRow.holds Try.pinned (OpenSpec.ofChange recordPagesSpec)

/-- ITS FALSE NEIGHBOUR: 'it returns false'. Refute it at one input. -/
def recordPagesWrong : ChangeSpec := { name := "recordPages", fn := fun _ => fun
  | [d] => { results := [.lit (.bool false)], args := [d] }
  | _ => none }
def RecordPagesWrongFalsely : Prop := recordPagesRow.holds Try.pinned (OpenSpec.ofChange recordPagesWrong)

/-- 'solenoidlaw5.RecordOrder': WHATEVER THE INPUT: true; the input reads as it did. -/
def recordOrderSpec : ChangeSpec := { name := "recordOrder", fn := fun _ => fun
  | [d] => { results := [.lit (.bool true)], args := [d] }
  | _ => none }
def recordOrderRow : OpenClaim := { program := "ytblidiecahpekaa", sum := "0f772a95c718b8e304592d8af48277faeeeabe8d1c0258d4d47785cb485d27cd", func := "solenoid/solenoidlaw5.RecordOrder", spec := "recordOrder", unfollowed := true, recurses := true, apart := false }
def RecordOrderSaid : Prop := recordOrderRow.holds Try.pinned (OpenSpec.ofChange recordOrderSpec)

/-- ITS FALSE NEIGHBOUR: 'it returns false'. Refute it at one input. -/
def recordOrderWrong : ChangeSpec := { name := "recordOrder", fn := fun _ => fun
  | [d] => { results := [.lit (.bool false)], args := [d] }
  | _ => none }
def RecordOrderWrongFalsely : Prop := recordOrderRow.holds Try.pinned (OpenSpec.ofChange recordOrderWrong)

/-- 'solenoidlaw5.RecordSpoilt': WHATEVER THE INPUT: true; the input reads as it did. -/
def recordSpoiltSpec : ChangeSpec := { name := "recordSpoilt", fn := fun _ => fun
  | [d1, d2, d3] => { results := [.lit (.bool true)], args := [d1, d2, d3] }
  | _ => none }
def recordSpoiltRow : OpenClaim := { program := "ytblidiecahpekaa", sum := "0f772a95c718b8e304592d8af48277faeeeabe8d1c0258d4d47785cb485d27cd", func := "solenoid/solenoidlaw5.RecordSpoilt", spec := "recordSpoilt", unfollowed := true, recurses := true, apart := false }
def RecordSpoiltSaid : Prop := recordSpoiltRow.holds Try.pinned (OpenSpec.ofChange recordSpoiltSpec)

/-- ITS FALSE NEIGHBOUR: 'it returns false'. Refute it at one input. -/
def recordSpoiltWrong : ChangeSpec := { name := "recordSpoilt", fn := fun _ => fun
  | [d1, d2, d3] => { results := [.lit (.bool false)], args := [d1, d2, d3] }
  | _ => none }
def RecordSpoiltWrongFalsely : Prop := recordSpoiltRow.holds Try.pinned (OpenSpec.ofChange recordSpoiltWrong)

/-- 'solenoidlaw5.RecordRows': WHATEVER THE INPUT: true; the input reads as it did. -/
def recordRowsSpec : ChangeSpec := { name := "recordRows", fn := fun _ => fun
  | [d1, d2] => { results := [.lit (.bool true)], args := [d1, d2] }
  | _ => none }
def recordRowsRow : OpenClaim := { program := "ytblidiecahpekaa", sum := "0f772a95c718b8e304592d8af48277faeeeabe8d1c0258d4d47785cb485d27cd", func := "solenoid/solenoidlaw5.RecordRows", spec := "recordRows", unfollowed := true, recurses := true, apart := false }
def RecordRowsSaid : Prop := recordRowsRow.holds Try.pinned (OpenSpec.ofChange recordRowsSpec)

/-- ITS FALSE NEIGHBOUR: 'it returns false'. Refute it at one input. -/
def recordRowsWrong : ChangeSpec := { name := "recordRows", fn := fun _ => fun
  | [d1, d2] => { results := [.lit (.bool false)], args := [d1, d2] }
  | _ => none }
def RecordRowsWrongFalsely : Prop := recordRowsRow.holds Try.pinned (OpenSpec.ofChange recordRowsWrong)

/-- 'solenoidlaw5.RecordFull': WHATEVER THE INPUT: true; the input reads as it did. -/
def recordFullSpec : ChangeSpec := { name := "recordFull", fn := fun _ => fun
  | [d] => { results := [.lit (.bool true)], args := [d] }
  | _ => none }
def recordFullRow : OpenClaim := { program := "ytblidiecahpekaa", sum := "0f772a95c718b8e304592d8af48277faeeeabe8d1c0258d4d47785cb485d27cd", func := "solenoid/solenoidlaw5.RecordFull", spec := "recordFull", unfollowed := true, recurses := true, apart := false }
def RecordFullSaid : Prop := recordFullRow.holds Try.pinned (OpenSpec.ofChange recordFullSpec)

/-- ITS FALSE NEIGHBOUR: 'it returns false'. Refute it at one input. -/
def recordFullWrong : ChangeSpec := { name := "recordFull", fn := fun _ => fun
  | [d] => { results := [.lit (.bool false)], args := [d] }
  | _ => none }
def RecordFullWrongFalsely : Prop := recordFullRow.holds Try.pinned (OpenSpec.ofChange recordFullWrong)

/-- 'solenoidlaw5.RecordTorn': WHATEVER THE INPUT: true; the input reads as it did. -/
def recordTornSpec : ChangeSpec := { name := "recordTorn", fn := fun _ => fun
  | [d1, d2, d3, d4] => { results := [.lit (.bool true)], args := [d1, d2, d3, d4] }
  | _ => none }
def recordTornRow : OpenClaim := { program := "ytblidiecahpekaa", sum := "0f772a95c718b8e304592d8af48277faeeeabe8d1c0258d4d47785cb485d27cd", func := "solenoid/solenoidlaw5.RecordTorn", spec := "recordTorn", unfollowed := true, recurses := true, apart := false }
def RecordTornSaid : Prop := recordTornRow.holds Try.pinned (OpenSpec.ofChange recordTornSpec)

/-- ITS FALSE NEIGHBOUR: 'it returns false'. Refute it at one input. -/
def recordTornWrong : ChangeSpec := { name := "recordTorn", fn := fun _ => fun
  | [d1, d2, d3, d4] => { results := [.lit (.bool false)], args := [d1, d2, d3, d4] }
  | _ => none }
def RecordTornWrongFalsely : Prop := recordTornRow.holds Try.pinned (OpenSpec.ofChange recordTornWrong)

/-- 'solenoidlaw5.RecordPlays': WHATEVER THE INPUT: true; the input reads as it did. -/
def recordPlaysSpec : ChangeSpec := { name := "recordPlays", fn := fun _ => fun
  | [d1, d2] => { results := [.lit (.bool true)], args := [d1, d2] }
  | _ => none }
def recordPlaysRow : OpenClaim := { program := "ytblidiecahpekaa", sum := "0f772a95c718b8e304592d8af48277faeeeabe8d1c0258d4d47785cb485d27cd", func := "solenoid/solenoidlaw5.RecordPlays", spec := "recordPlays", unfollowed := true, recurses := true, apart := false }
def RecordPlaysSaid : Prop := recordPlaysRow.holds Try.pinned (OpenSpec.ofChange recordPlaysSpec)

/-- ITS FALSE NEIGHBOUR: 'it returns false'. Refute it at one input. -/
def recordPlaysWrong : ChangeSpec := { name := "recordPlays", fn := fun _ => fun
  | [d1, d2] => { results := [.lit (.bool false)], args := [d1, d2] }
  | _ => none }
def RecordPlaysWrongFalsely : Prop := recordPlaysRow.holds Try.pinned (OpenSpec.ofChange recordPlaysWrong)

/- THE SECOND FORM. 'bulk': how many values and letters a reading holds, each counted each time it is reached (what is shared counts as often as it is met; a slice's spare places count too). A statement '..UptoSaid' is the law's where the arguments, and the package variables that the reading takes, are together of bulk at most 1048576: NARROWER than '..Said'. Prove '..Said' where nothing that the law and all that it calls make is longer than what came in: it says more and counts as full. Else prove '..UptoSaid'. A law counts once. -/
mutual
def uptoBulk {H : Type} : DataW H → Nat
  | .lit (.string bytes) => bytes.length + 1
  | .lit _ => 1
  | .nil => 1
  | .ptr d => uptoBulk d + 1
  | .slice elems spare => uptoBulkAll elems + uptoBulkAll spare + 1
  | .agg parts => uptoBulkAll parts + 1
  | .iface _ d => uptoBulk d + 1
  | .map entries => uptoBulkEntries entries + 1
  | .held _ => 1
def uptoBulkAll {H : Type} : List (DataW H) → Nat
  | [] => 0
  | d :: r => uptoBulk d + uptoBulkAll r
def uptoBulkEntries {H : Type} : List (Lit × DataW H) → Nat
  | [] => 0
  | x :: r => uptoBulkEntry x + uptoBulkEntries r
def uptoBulkEntry {H : Type} : Lit × DataW H → Nat
  | (.string bytes, d) => bytes.length + uptoBulk d + 1
  | (_, d) => uptoBulk d + 1
 end
def uptoSmall : (H : Type) → List (DataW H) → Bool := fun _ ds => decide (uptoBulkAll ds ≤ 1048576)
def OpenSpec.upto (s : _root_.Go.ChangeSpec) : _root_.Go.OpenSpec := { _root_.Go.OpenSpec.ofChange s with cond := some uptoSmall }

/-- 'solenoidlaw5.RecordPages', WHERE WHAT IT READS IS OF BULK AT MOST 1048576: true; the input reads as it did. -/
def recordPagesUptoRow : OpenClaim := { program := "ytblidiecahpekaa", sum := "0f772a95c718b8e304592d8af48277faeeeabe8d1c0258d4d47785cb485d27cd", func := "solenoid/solenoidlaw5.RecordPages", spec := "recordPages", unfollowed := true, recurses := true, apart := false, narrowed := true }
def RecordPagesUptoSaid : Prop := recordPagesUptoRow.holds Try.pinned (OpenSpec.upto recordPagesSpec)

/-- 'solenoidlaw5.RecordOrder', WHERE WHAT IT READS IS OF BULK AT MOST 1048576: true; the input reads as it did. -/
def recordOrderUptoRow : OpenClaim := { program := "ytblidiecahpekaa", sum := "0f772a95c718b8e304592d8af48277faeeeabe8d1c0258d4d47785cb485d27cd", func := "solenoid/solenoidlaw5.RecordOrder", spec := "recordOrder", unfollowed := true, recurses := true, apart := false, narrowed := true }
def RecordOrderUptoSaid : Prop := recordOrderUptoRow.holds Try.pinned (OpenSpec.upto recordOrderSpec)

/-- 'solenoidlaw5.RecordSpoilt', WHERE WHAT IT READS IS OF BULK AT MOST 1048576: true; the input reads as it did. -/
def recordSpoiltUptoRow : OpenClaim := { program := "ytblidiecahpekaa", sum := "0f772a95c718b8e304592d8af48277faeeeabe8d1c0258d4d47785cb485d27cd", func := "solenoid/solenoidlaw5.RecordSpoilt", spec := "recordSpoilt", unfollowed := true, recurses := true, apart := false, narrowed := true }
def RecordSpoiltUptoSaid : Prop := recordSpoiltUptoRow.holds Try.pinned (OpenSpec.upto recordSpoiltSpec)

/-- 'solenoidlaw5.RecordRows', WHERE WHAT IT READS IS OF BULK AT MOST 1048576: true; the input reads as it did. -/
def recordRowsUptoRow : OpenClaim := { program := "ytblidiecahpekaa", sum := "0f772a95c718b8e304592d8af48277faeeeabe8d1c0258d4d47785cb485d27cd", func := "solenoid/solenoidlaw5.RecordRows", spec := "recordRows", unfollowed := true, recurses := true, apart := false, narrowed := true }
def RecordRowsUptoSaid : Prop := recordRowsUptoRow.holds Try.pinned (OpenSpec.upto recordRowsSpec)

/-- 'solenoidlaw5.RecordFull', WHERE WHAT IT READS IS OF BULK AT MOST 1048576: true; the input reads as it did. -/
def recordFullUptoRow : OpenClaim := { program := "ytblidiecahpekaa", sum := "0f772a95c718b8e304592d8af48277faeeeabe8d1c0258d4d47785cb485d27cd", func := "solenoid/solenoidlaw5.RecordFull", spec := "recordFull", unfollowed := true, recurses := true, apart := false, narrowed := true }
def RecordFullUptoSaid : Prop := recordFullUptoRow.holds Try.pinned (OpenSpec.upto recordFullSpec)

/-- 'solenoidlaw5.RecordTorn', WHERE WHAT IT READS IS OF BULK AT MOST 1048576: true; the input reads as it did. -/
def recordTornUptoRow : OpenClaim := { program := "ytblidiecahpekaa", sum := "0f772a95c718b8e304592d8af48277faeeeabe8d1c0258d4d47785cb485d27cd", func := "solenoid/solenoidlaw5.RecordTorn", spec := "recordTorn", unfollowed := true, recurses := true, apart := false, narrowed := true }
def RecordTornUptoSaid : Prop := recordTornUptoRow.holds Try.pinned (OpenSpec.upto recordTornSpec)

/-- 'solenoidlaw5.RecordPlays', WHERE WHAT IT READS IS OF BULK AT MOST 1048576: true; the input reads as it did. -/
def recordPlaysUptoRow : OpenClaim := { program := "ytblidiecahpekaa", sum := "0f772a95c718b8e304592d8af48277faeeeabe8d1c0258d4d47785cb485d27cd", func := "solenoid/solenoidlaw5.RecordPlays", spec := "recordPlays", unfollowed := true, recurses := true, apart := false, narrowed := true }
def RecordPlaysUptoSaid : Prop := recordPlaysUptoRow.holds Try.pinned (OpenSpec.upto recordPlaysSpec)

end Rows
end Go.Proofs.Ytblidiecahpekaa
