/-
  No cell of these rows narrows 'for every input' (looked for: loops, veiled, ifaces, maps, wideKeys, modest, calm, conditions, laid).
  DERIVED. THE GIVEN ROWS OF THIS SEAT. 5 by the template 'for every input the law returns true; each argument reads behind the call as it read before'; 0 by the template 'total and deterministic' (their statements: YtcpifcdndhhmgaaTotals.lean).
  GIVEN WITH THE SEED: the statements are not yours to turn. If you find one false, say at which input.
  Laid BY PROGRAM, IN A SANDBOX (cutbox-rows.mjs): the forced cells as the released guide's own fill.sh prints them over the translation 7c9d1a55384426ba… (all of the seat's roots in one cut). By AI agents, Wed Nov 11 2026. No macro, syntax, notation, axiom, sorry.
-/
import Derived.Test.YtcpifcdndhhmgaaChecked
import GoSem.Claim
import GoSem.ClaimJoined
import GoSem.ClaimMapViews
import Derived.JoinedTies
import Derived.KernelRfl
namespace Go.Proofs.Ytcpifcdndhhmgaa
/- THE CELL 'sum', in the pinned program and in every row, IS THE sha256 OF THE DUMP (.gsa) THAT YtcpifcdndhhmgaaProg.lean LOADS. Nothing in Lean hashes anything: it is a label: what it is worth is what the hold of that sum in a sandbox is worth. -/
noncomputable def Try.pinned : Pinned := { name := "ytcpifcdndhhmgaa", sum := "7c9d1a55384426bae94d4d734bea3adc08030d5853f3452e5d446a5ced891a61", checked := Try.checked }
namespace Rows
def none {H : Type} : Left H := { results := [], args := [] }

/-- 'solenoidlaw16.RetainAgain': WHATEVER THE INPUT: true; the input reads as it did. -/
def retainAgainSpec : ChangeSpec := { name := "retainAgain", fn := fun _ => fun
  | [d1, d2, d3] => { results := [.lit (.bool true)], args := [d1, d2, d3] }
  | _ => none }
def retainAgainRow : OpenClaim := { program := "ytcpifcdndhhmgaa", sum := "7c9d1a55384426bae94d4d734bea3adc08030d5853f3452e5d446a5ced891a61", func := "solenoid/solenoidlaw16.RetainAgain", spec := "retainAgain", unfollowed := true, recurses := true, plainKeys := false, apart := false }
def RetainAgainSaid : Prop := retainAgainRow.holds Try.pinned (OpenSpec.ofChange retainAgainSpec)

/-- ITS FALSE NEIGHBOUR: 'it returns false'. Refute it at one input. -/
def retainAgainWrong : ChangeSpec := { name := "retainAgain", fn := fun _ => fun
  | [d1, d2, d3] => { results := [.lit (.bool false)], args := [d1, d2, d3] }
  | _ => none }
def RetainAgainWrongFalsely : Prop := retainAgainRow.holds Try.pinned (OpenSpec.ofChange retainAgainWrong)

/-- 'solenoidlaw16.RetainTurns': WHATEVER THE INPUT: true; the input reads as it did. -/
def retainTurnsSpec : ChangeSpec := { name := "retainTurns", fn := fun _ => fun
  | [d1, d2] => { results := [.lit (.bool true)], args := [d1, d2] }
  | _ => none }
def retainTurnsRow : OpenClaim := { program := "ytcpifcdndhhmgaa", sum := "7c9d1a55384426bae94d4d734bea3adc08030d5853f3452e5d446a5ced891a61", func := "solenoid/solenoidlaw16.RetainTurns", spec := "retainTurns", unfollowed := true, recurses := true, plainKeys := false, apart := false }
def RetainTurnsSaid : Prop := retainTurnsRow.holds Try.pinned (OpenSpec.ofChange retainTurnsSpec)

/-- ITS FALSE NEIGHBOUR: 'it returns false'. Refute it at one input. -/
def retainTurnsWrong : ChangeSpec := { name := "retainTurns", fn := fun _ => fun
  | [d1, d2] => { results := [.lit (.bool false)], args := [d1, d2] }
  | _ => none }
def RetainTurnsWrongFalsely : Prop := retainTurnsRow.holds Try.pinned (OpenSpec.ofChange retainTurnsWrong)

/-- 'solenoidlaw16.RetainTorn': WHATEVER THE INPUT: true; the input reads as it did. -/
def retainTornSpec : ChangeSpec := { name := "retainTorn", fn := fun _ => fun
  | [d1, d2, d3, d4] => { results := [.lit (.bool true)], args := [d1, d2, d3, d4] }
  | _ => none }
def retainTornRow : OpenClaim := { program := "ytcpifcdndhhmgaa", sum := "7c9d1a55384426bae94d4d734bea3adc08030d5853f3452e5d446a5ced891a61", func := "solenoid/solenoidlaw16.RetainTorn", spec := "retainTorn", unfollowed := true, recurses := true, plainKeys := false, apart := false }
def RetainTornSaid : Prop := retainTornRow.holds Try.pinned (OpenSpec.ofChange retainTornSpec)

/-- ITS FALSE NEIGHBOUR: 'it returns false'. Refute it at one input. -/
def retainTornWrong : ChangeSpec := { name := "retainTorn", fn := fun _ => fun
  | [d1, d2, d3, d4] => { results := [.lit (.bool false)], args := [d1, d2, d3, d4] }
  | _ => none }
def RetainTornWrongFalsely : Prop := retainTornRow.holds Try.pinned (OpenSpec.ofChange retainTornWrong)

/-- 'solenoidlaw16.RetainTakes': WHATEVER THE INPUT: true; the input reads as it did. -/
def retainTakesSpec : ChangeSpec := { name := "retainTakes", fn := fun _ => fun
  | [d1, d2, d3, d4] => { results := [.lit (.bool true)], args := [d1, d2, d3, d4] }
  | _ => none }
def retainTakesRow : OpenClaim := { program := "ytcpifcdndhhmgaa", sum := "7c9d1a55384426bae94d4d734bea3adc08030d5853f3452e5d446a5ced891a61", func := "solenoid/solenoidlaw16.RetainTakes", spec := "retainTakes", unfollowed := true, recurses := true, plainKeys := false, apart := false }
def RetainTakesSaid : Prop := retainTakesRow.holds Try.pinned (OpenSpec.ofChange retainTakesSpec)

/-- ITS FALSE NEIGHBOUR: 'it returns false'. Refute it at one input. -/
def retainTakesWrong : ChangeSpec := { name := "retainTakes", fn := fun _ => fun
  | [d1, d2, d3, d4] => { results := [.lit (.bool false)], args := [d1, d2, d3, d4] }
  | _ => none }
def RetainTakesWrongFalsely : Prop := retainTakesRow.holds Try.pinned (OpenSpec.ofChange retainTakesWrong)

/-- 'solenoidlaw16.RetainOld': WHATEVER THE INPUT: true; the input reads as it did. -/
def retainOldSpec : ChangeSpec := { name := "retainOld", fn := fun _ => fun
  | [d1, d2, d3] => { results := [.lit (.bool true)], args := [d1, d2, d3] }
  | _ => none }
def retainOldRow : OpenClaim := { program := "ytcpifcdndhhmgaa", sum := "7c9d1a55384426bae94d4d734bea3adc08030d5853f3452e5d446a5ced891a61", func := "solenoid/solenoidlaw16.RetainOld", spec := "retainOld", unfollowed := true, recurses := true, plainKeys := false, apart := false }
def RetainOldSaid : Prop := retainOldRow.holds Try.pinned (OpenSpec.ofChange retainOldSpec)

/-- ITS FALSE NEIGHBOUR: 'it returns false'. Refute it at one input. -/
def retainOldWrong : ChangeSpec := { name := "retainOld", fn := fun _ => fun
  | [d1, d2, d3] => { results := [.lit (.bool false)], args := [d1, d2, d3] }
  | _ => none }
def RetainOldWrongFalsely : Prop := retainOldRow.holds Try.pinned (OpenSpec.ofChange retainOldWrong)

/- THE SECOND FORM. 'bulk': how many values and letters a reading holds, each counted each time it is reached (what is shared counts as often as it is met; a slice's spare places count too). A statement '..UptoSaid' is the law's where the arguments, and the package variables that the reading takes, are together of bulk at most 1048576: NARROWER than '..Said'. Prove '..Said' where nothing that the law and all that it calls make is longer than what came in: it says more and counts as full. Else prove '..UptoSaid'. A law counts once. -/
mutual
def uptoBulk {H : Type} : DataW H → Nat
  | .lit (.string bytes) => bytes.length + 1
  | .lit _ => 1
  | .nil => 1
  | .ptr d => uptoBulk d + 1
  | .slice elems spare => uptoBulkAll elems + uptoBulkAll spare + 1
  | .agg parts => uptoBulkAll parts + 1
  | .iface _ d => uptoBulk d + 1
  | .map entries => uptoBulkEntries entries + 1
  | .held _ => 1
def uptoBulkAll {H : Type} : List (DataW H) → Nat
  | [] => 0
  | d :: r => uptoBulk d + uptoBulkAll r
def uptoBulkEntries {H : Type} : List (Lit × DataW H) → Nat
  | [] => 0
  | x :: r => uptoBulkEntry x + uptoBulkEntries r
def uptoBulkEntry {H : Type} : Lit × DataW H → Nat
  | (.string bytes, d) => bytes.length + uptoBulk d + 1
  | (_, d) => uptoBulk d + 1
 end
def uptoSmall : (H : Type) → List (DataW H) → Bool := fun _ ds => decide (uptoBulkAll ds ≤ 1048576)
def OpenSpec.upto (s : _root_.Go.ChangeSpec) : _root_.Go.OpenSpec := { _root_.Go.OpenSpec.ofChange s with cond := some uptoSmall }

/-- 'solenoidlaw16.RetainAgain', WHERE WHAT IT READS IS OF BULK AT MOST 1048576: true; the input reads as it did. -/
def retainAgainUptoRow : OpenClaim := { program := "ytcpifcdndhhmgaa", sum := "7c9d1a55384426bae94d4d734bea3adc08030d5853f3452e5d446a5ced891a61", func := "solenoid/solenoidlaw16.RetainAgain", spec := "retainAgain", unfollowed := true, recurses := true, plainKeys := false, apart := false, narrowed := true }
def RetainAgainUptoSaid : Prop := retainAgainUptoRow.holds Try.pinned (OpenSpec.upto retainAgainSpec)

/-- 'solenoidlaw16.RetainTurns', WHERE WHAT IT READS IS OF BULK AT MOST 1048576: true; the input reads as it did. -/
def retainTurnsUptoRow : OpenClaim := { program := "ytcpifcdndhhmgaa", sum := "7c9d1a55384426bae94d4d734bea3adc08030d5853f3452e5d446a5ced891a61", func := "solenoid/solenoidlaw16.RetainTurns", spec := "retainTurns", unfollowed := true, recurses := true, plainKeys := false, apart := false, narrowed := true }
def RetainTurnsUptoSaid : Prop := retainTurnsUptoRow.holds Try.pinned (OpenSpec.upto retainTurnsSpec)

/-- 'solenoidlaw16.RetainTorn', WHERE WHAT IT READS IS OF BULK AT MOST 1048576: true; the input reads as it did. -/
def retainTornUptoRow : OpenClaim := { program := "ytcpifcdndhhmgaa", sum := "7c9d1a55384426bae94d4d734bea3adc08030d5853f3452e5d446a5ced891a61", func := "solenoid/solenoidlaw16.RetainTorn", spec := "retainTorn", unfollowed := true, recurses := true, plainKeys := false, apart := false, narrowed := true }
def RetainTornUptoSaid : Prop := retainTornUptoRow.holds Try.pinned (OpenSpec.upto retainTornSpec)

/-- 'solenoidlaw16.RetainTakes', WHERE WHAT IT READS IS OF BULK AT MOST 1048576: true; the input reads as it did. -/
def retainTakesUptoRow : OpenClaim := { program := "ytcpifcdndhhmgaa", sum := "7c9d1a55384426bae94d4d734bea3adc08030d5853f3452e5d446a5ced891a61", func := "solenoid/solenoidlaw16.RetainTakes", spec := "retainTakes", unfollowed := true, recurses := true, plainKeys := false, apart := false, narrowed := true }
def RetainTakesUptoSaid : Prop := retainTakesUptoRow.holds Try.pinned (OpenSpec.upto retainTakesSpec)

/-- 'solenoidlaw16.RetainOld', WHERE WHAT IT READS IS OF BULK AT MOST 1048576: true; the input reads as it did. -/
def retainOldUptoRow : OpenClaim := { program := "ytcpifcdndhhmgaa", sum := "7c9d1a55384426bae94d4d734bea3adc08030d5853f3452e5d446a5ced891a61", func := "solenoid/solenoidlaw16.RetainOld", spec := "retainOld", unfollowed := true, recurses := true, plainKeys := false, apart := false, narrowed := true }
def RetainOldUptoSaid : Prop := retainOldUptoRow.holds Try.pinned (OpenSpec.upto retainOldSpec)

end Rows
end Go.Proofs.Ytcpifcdndhhmgaa
