/-
  No cell of these rows narrows 'for every input' (looked for: loops, veiled, ifaces, maps, wideKeys, modest, calm, conditions, laid).
  DERIVED. THE GIVEN ROWS OF THIS SEAT. 4 by the template 'for every input the law returns true; each argument reads behind the call as it read before'; 0 by the template 'total and deterministic' (their statements: YtkgenkkcgegcbaaTotals.lean).
  GIVEN WITH THE SEED: the statements are not yours to turn. If you find one false, say at which input.
  Laid BY PROGRAM, IN A SANDBOX (cutbox-rows.mjs): the forced cells as the released guide's own fill.sh prints them over the translation ce5ca71fb47b3716… (all of the seat's roots in one cut). By AI agents, Wed Nov 11 2026. No macro, syntax, notation, axiom, sorry.
-/
import Derived.Test.YtkgenkkcgegcbaaChecked
import GoSem.Claim
import GoSem.ClaimJoined
import GoSem.ClaimMapViews
import Derived.JoinedTies
import Derived.KernelRfl
namespace Go.Proofs.Ytkgenkkcgegcbaa
/- THE CELL 'sum', in the pinned program and in every row, IS THE sha256 OF THE DUMP (.gsa) THAT YtkgenkkcgegcbaaProg.lean LOADS. Nothing in Lean hashes anything: it is a label: what it is worth is what the hold of that sum in a sandbox is worth. -/
noncomputable def Try.pinned : Pinned := { name := "ytkgenkkcgegcbaa", sum := "ce5ca71fb47b371616e724e2094079c77e799470e370b321d290fb7b01df4100", checked := Try.checked }
namespace Rows
def none {H : Type} : Left H := { results := [], args := [] }

/-- 'solenoidlaw17.SessionPlays': WHATEVER THE INPUT: true; the input reads as it did. -/
def sessionPlaysSpec : ChangeSpec := { name := "sessionPlays", fn := fun _ => fun
  | [d1, d2, d3] => { results := [.lit (.bool true)], args := [d1, d2, d3] }
  | _ => none }
def sessionPlaysRow : OpenClaim := { program := "ytkgenkkcgegcbaa", sum := "ce5ca71fb47b371616e724e2094079c77e799470e370b321d290fb7b01df4100", func := "solenoid/solenoidlaw17.SessionPlays", spec := "sessionPlays", apart := false }
def SessionPlaysSaid : Prop := sessionPlaysRow.holds Try.pinned (OpenSpec.ofChange sessionPlaysSpec)

/-- ITS FALSE NEIGHBOUR: 'it returns false'. Refute it at one input. -/
def sessionPlaysWrong : ChangeSpec := { name := "sessionPlays", fn := fun _ => fun
  | [d1, d2, d3] => { results := [.lit (.bool false)], args := [d1, d2, d3] }
  | _ => none }
def SessionPlaysWrongFalsely : Prop := sessionPlaysRow.holds Try.pinned (OpenSpec.ofChange sessionPlaysWrong)

/-- 'solenoidlaw17.SessionFrames': WHATEVER THE INPUT: true; the input reads as it did. -/
def sessionFramesSpec : ChangeSpec := { name := "sessionFrames", fn := fun _ => fun
  | [d1, d2, d3, d4, d5, d6] => { results := [.lit (.bool true)], args := [d1, d2, d3, d4, d5, d6] }
  | _ => none }
def sessionFramesRow : OpenClaim := { program := "ytkgenkkcgegcbaa", sum := "ce5ca71fb47b371616e724e2094079c77e799470e370b321d290fb7b01df4100", func := "solenoid/solenoidlaw17.SessionFrames", spec := "sessionFrames", unfollowed := true, recurses := true, apart := false }
def SessionFramesSaid : Prop := sessionFramesRow.holds Try.pinned (OpenSpec.ofChange sessionFramesSpec)

/-- ITS FALSE NEIGHBOUR: 'it returns false'. Refute it at one input. -/
def sessionFramesWrong : ChangeSpec := { name := "sessionFrames", fn := fun _ => fun
  | [d1, d2, d3, d4, d5, d6] => { results := [.lit (.bool false)], args := [d1, d2, d3, d4, d5, d6] }
  | _ => none }
def SessionFramesWrongFalsely : Prop := sessionFramesRow.holds Try.pinned (OpenSpec.ofChange sessionFramesWrong)

/-- 'solenoidlaw17.SessionCuts': WHATEVER THE INPUT: true; the input reads as it did. -/
def sessionCutsSpec : ChangeSpec := { name := "sessionCuts", fn := fun _ => fun
  | [d1, d2, d3] => { results := [.lit (.bool true)], args := [d1, d2, d3] }
  | _ => none }
def sessionCutsRow : OpenClaim := { program := "ytkgenkkcgegcbaa", sum := "ce5ca71fb47b371616e724e2094079c77e799470e370b321d290fb7b01df4100", func := "solenoid/solenoidlaw17.SessionCuts", spec := "sessionCuts", unfollowed := true, recurses := true, apart := false }
def SessionCutsSaid : Prop := sessionCutsRow.holds Try.pinned (OpenSpec.ofChange sessionCutsSpec)

/-- ITS FALSE NEIGHBOUR: 'it returns false'. Refute it at one input. -/
def sessionCutsWrong : ChangeSpec := { name := "sessionCuts", fn := fun _ => fun
  | [d1, d2, d3] => { results := [.lit (.bool false)], args := [d1, d2, d3] }
  | _ => none }
def SessionCutsWrongFalsely : Prop := sessionCutsRow.holds Try.pinned (OpenSpec.ofChange sessionCutsWrong)

/-- 'solenoidlaw17.SessionLong': WHATEVER THE INPUT: true; the input reads as it did. -/
def sessionLongSpec : ChangeSpec := { name := "sessionLong", fn := fun _ => fun
  | [d1, d2] => { results := [.lit (.bool true)], args := [d1, d2] }
  | _ => none }
def sessionLongRow : OpenClaim := { program := "ytkgenkkcgegcbaa", sum := "ce5ca71fb47b371616e724e2094079c77e799470e370b321d290fb7b01df4100", func := "solenoid/solenoidlaw17.SessionLong", spec := "sessionLong", unfollowed := true, recurses := true, apart := false }
def SessionLongSaid : Prop := sessionLongRow.holds Try.pinned (OpenSpec.ofChange sessionLongSpec)

/-- ITS FALSE NEIGHBOUR: 'it returns false'. Refute it at one input. -/
def sessionLongWrong : ChangeSpec := { name := "sessionLong", fn := fun _ => fun
  | [d1, d2] => { results := [.lit (.bool false)], args := [d1, d2] }
  | _ => none }
def SessionLongWrongFalsely : Prop := sessionLongRow.holds Try.pinned (OpenSpec.ofChange sessionLongWrong)

/- THE SECOND FORM. 'bulk': how many values and letters a reading holds, each counted each time it is reached (what is shared counts as often as it is met; a slice's spare places count too). A statement '..UptoSaid' is the law's where the arguments, and the package variables that the reading takes, are together of bulk at most 1048576: NARROWER than '..Said'. Prove '..Said' where nothing that the law and all that it calls make is longer than what came in: it says more and counts as full. Else prove '..UptoSaid'. A law counts once. -/
mutual
def uptoBulk {H : Type} : DataW H → Nat
  | .lit (.string bytes) => bytes.length + 1
  | .lit _ => 1
  | .nil => 1
  | .ptr d => uptoBulk d + 1
  | .slice elems spare => uptoBulkAll elems + uptoBulkAll spare + 1
  | .agg parts => uptoBulkAll parts + 1
  | .iface _ d => uptoBulk d + 1
  | .map entries => uptoBulkEntries entries + 1
  | .held _ => 1
def uptoBulkAll {H : Type} : List (DataW H) → Nat
  | [] => 0
  | d :: r => uptoBulk d + uptoBulkAll r
def uptoBulkEntries {H : Type} : List (Lit × DataW H) → Nat
  | [] => 0
  | x :: r => uptoBulkEntry x + uptoBulkEntries r
def uptoBulkEntry {H : Type} : Lit × DataW H → Nat
  | (.string bytes, d) => bytes.length + uptoBulk d + 1
  | (_, d) => uptoBulk d + 1
 end
def uptoSmall : (H : Type) → List (DataW H) → Bool := fun _ ds => decide (uptoBulkAll ds ≤ 1048576)
def OpenSpec.upto (s : _root_.Go.ChangeSpec) : _root_.Go.OpenSpec := { _root_.Go.OpenSpec.ofChange s with cond := some uptoSmall }

/-- 'solenoidlaw17.SessionPlays', WHERE WHAT IT READS IS OF BULK AT MOST 1048576: true; the input reads as it did. -/
def sessionPlaysUptoRow : OpenClaim := { program := "ytkgenkkcgegcbaa", sum := "ce5ca71fb47b371616e724e2094079c77e799470e370b321d290fb7b01df4100", func := "solenoid/solenoidlaw17.SessionPlays", spec := "sessionPlays", apart := false, narrowed := true }
def SessionPlaysUptoSaid : Prop := sessionPlaysUptoRow.holds Try.pinned (OpenSpec.upto sessionPlaysSpec)

/-- 'solenoidlaw17.SessionFrames', WHERE WHAT IT READS IS OF BULK AT MOST 1048576: true; the input reads as it did. -/
def sessionFramesUptoRow : OpenClaim := { program := "ytkgenkkcgegcbaa", sum := "ce5ca71fb47b371616e724e2094079c77e799470e370b321d290fb7b01df4100", func := "solenoid/solenoidlaw17.SessionFrames", spec := "sessionFrames", unfollowed := true, recurses := true, apart := false, narrowed := true }
def SessionFramesUptoSaid : Prop := sessionFramesUptoRow.holds Try.pinned (OpenSpec.upto sessionFramesSpec)

/-- 'solenoidlaw17.SessionCuts', WHERE WHAT IT READS IS OF BULK AT MOST 1048576: true; the input reads as it did. -/
def sessionCutsUptoRow : OpenClaim := { program := "ytkgenkkcgegcbaa", sum := "ce5ca71fb47b371616e724e2094079c77e799470e370b321d290fb7b01df4100", func := "solenoid/solenoidlaw17.SessionCuts", spec := "sessionCuts", unfollowed := true, recurses := true, apart := false, narrowed := true }
def SessionCutsUptoSaid : Prop := sessionCutsUptoRow.holds Try.pinned (OpenSpec.upto sessionCutsSpec)

/-- 'solenoidlaw17.SessionLong', WHERE WHAT IT READS IS OF BULK AT MOST 1048576: true; the input reads as it did. -/
def sessionLongUptoRow : OpenClaim := { program := "ytkgenkkcgegcbaa", sum := "ce5ca71fb47b371616e724e2094079c77e799470e370b321d290fb7b01df4100", func := "solenoid/solenoidlaw17.SessionLong", spec := "sessionLong", unfollowed := true, recurses := true, apart := false, narrowed := true }
def SessionLongUptoSaid : Prop := sessionLongUptoRow.holds Try.pinned (OpenSpec.upto sessionLongSpec)

end Rows
end Go.Proofs.Ytkgenkkcgegcbaa
