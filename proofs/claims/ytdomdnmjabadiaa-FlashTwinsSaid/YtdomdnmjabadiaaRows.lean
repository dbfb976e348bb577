/-
  No cell of these rows narrows 'for every input' (looked for: loops, veiled, ifaces, maps, wideKeys, modest, calm, conditions, laid).
  DERIVED. THE GIVEN ROWS OF THIS SEAT. 7 by the template 'for every input the law returns true; each argument reads behind the call as it read before'; 0 by the template 'total and deterministic' (their statements: YtdomdnmjabadiaaTotals.lean).
  GIVEN WITH THE SEED: the statements are not yours to turn. If you find one false, say at which input.
  Laid BY PROGRAM, IN A SANDBOX (cutbox-rows.mjs): the forced cells as the released guide's own fill.sh prints them over the translation a1fafd84968b58c1… (all of the seat's roots in one cut). By AI agents, Wed Nov 11 2026. No macro, syntax, notation, axiom, sorry.
-/
import Derived.Test.YtdomdnmjabadiaaChecked
import GoSem.Claim
import GoSem.ClaimJoined
import GoSem.ClaimMapViews
import Derived.JoinedTies
import Derived.KernelRfl
namespace Go.Proofs.Ytdomdnmjabadiaa
/- THE CELL 'sum', in the pinned program and in every row, IS THE sha256 OF THE DUMP (.gsa) THAT YtdomdnmjabadiaaProg.lean LOADS. Nothing in Lean hashes anything: it is a label: what it is worth is what the hold of that sum in a sandbox is worth. -/
noncomputable def Try.pinned : Pinned := { name := "ytdomdnmjabadiaa", sum := "a1fafd84968b58c16c508ddbb2bed5e411041a721b688682ba0b0f5b797f0758", checked := Try.checked }
namespace Rows
def none {H : Type} : Left H := { results := [], args := [] }

/-- 'solenoidlaw4.FlashBits': WHATEVER THE INPUT: true; the input reads as it did. -/
def flashBitsSpec : ChangeSpec := { name := "flashBits", fn := fun _ => fun
  | [d1, d2, d3, d4] => { results := [.lit (.bool true)], args := [d1, d2, d3, d4] }
  | _ => none }
def flashBitsRow : OpenClaim := { program := "ytdomdnmjabadiaa", sum := "a1fafd84968b58c16c508ddbb2bed5e411041a721b688682ba0b0f5b797f0758", func := "solenoid/solenoidlaw4.FlashBits", spec := "flashBits", apart := false }
def FlashBitsSaid : Prop := flashBitsRow.holds Try.pinned (OpenSpec.ofChange flashBitsSpec)

/-- ITS FALSE NEIGHBOUR: 'it returns false'. Refute it at one input. -/
def flashBitsWrong : ChangeSpec := { name := "flashBits", fn := fun _ => fun
  | [d1, d2, d3, d4] => { results := [.lit (.bool false)], args := [d1, d2, d3, d4] }
  | _ => none }
def FlashBitsWrongFalsely : Prop := flashBitsRow.holds Try.pinned (OpenSpec.ofChange flashBitsWrong)

/-- 'solenoidlaw4.FlashAgain': WHATEVER THE INPUT: true; the input reads as it did. -/
def flashAgainSpec : ChangeSpec := { name := "flashAgain", fn := fun _ => fun
  | [d] => { results := [.lit (.bool true)], args := [d] }
  | _ => none }
def flashAgainRow : OpenClaim := { program := "ytdomdnmjabadiaa", sum := "a1fafd84968b58c16c508ddbb2bed5e411041a721b688682ba0b0f5b797f0758", func := "solenoid/solenoidlaw4.FlashAgain", spec := "flashAgain", apart := false }
def FlashAgainSaid : Prop := flashAgainRow.holds Try.pinned (OpenSpec.ofChange flashAgainSpec)

/-- ITS FALSE NEIGHBOUR: 'it returns false'. Refute it at one input. -/
def flashAgainWrong : ChangeSpec := { name := "flashAgain", fn := fun _ => fun
  | [d] => { results := [.lit (.bool false)], args := [d] }
  | _ => none }
def FlashAgainWrongFalsely : Prop := flashAgainRow.holds Try.pinned (OpenSpec.ofChange flashAgainWrong)

/-- 'solenoidlaw4.FlashAddr': WHATEVER THE INPUT: true; the input reads as it did. -/
def flashAddrSpec : ChangeSpec := { name := "flashAddr", fn := fun _ => fun
  | [d1, d2, d3] => { results := [.lit (.bool true)], args := [d1, d2, d3] }
  | _ => none }
def flashAddrRow : OpenClaim := { program := "ytdomdnmjabadiaa", sum := "a1fafd84968b58c16c508ddbb2bed5e411041a721b688682ba0b0f5b797f0758", func := "solenoid/solenoidlaw4.FlashAddr", spec := "flashAddr", apart := false }
def FlashAddrSaid : Prop := flashAddrRow.holds Try.pinned (OpenSpec.ofChange flashAddrSpec)

/-- ITS FALSE NEIGHBOUR: 'it returns false'. Refute it at one input. -/
def flashAddrWrong : ChangeSpec := { name := "flashAddr", fn := fun _ => fun
  | [d1, d2, d3] => { results := [.lit (.bool false)], args := [d1, d2, d3] }
  | _ => none }
def FlashAddrWrongFalsely : Prop := flashAddrRow.holds Try.pinned (OpenSpec.ofChange flashAddrWrong)

/-- 'solenoidlaw4.FlashErase': WHATEVER THE INPUT: true; the input reads as it did. -/
def flashEraseSpec : ChangeSpec := { name := "flashErase", fn := fun _ => fun
  | [d1, d2] => { results := [.lit (.bool true)], args := [d1, d2] }
  | _ => none }
def flashEraseRow : OpenClaim := { program := "ytdomdnmjabadiaa", sum := "a1fafd84968b58c16c508ddbb2bed5e411041a721b688682ba0b0f5b797f0758", func := "solenoid/solenoidlaw4.FlashErase", spec := "flashErase", apart := false }
def FlashEraseSaid : Prop := flashEraseRow.holds Try.pinned (OpenSpec.ofChange flashEraseSpec)

/-- ITS FALSE NEIGHBOUR: 'it returns false'. Refute it at one input. -/
def flashEraseWrong : ChangeSpec := { name := "flashErase", fn := fun _ => fun
  | [d1, d2] => { results := [.lit (.bool false)], args := [d1, d2] }
  | _ => none }
def FlashEraseWrongFalsely : Prop := flashEraseRow.holds Try.pinned (OpenSpec.ofChange flashEraseWrong)

/-- 'solenoidlaw4.FlashTorn': WHATEVER THE INPUT: true; the input reads as it did. -/
def flashTornSpec : ChangeSpec := { name := "flashTorn", fn := fun _ => fun
  | [d1, d2, d3] => { results := [.lit (.bool true)], args := [d1, d2, d3] }
  | _ => none }
def flashTornRow : OpenClaim := { program := "ytdomdnmjabadiaa", sum := "a1fafd84968b58c16c508ddbb2bed5e411041a721b688682ba0b0f5b797f0758", func := "solenoid/solenoidlaw4.FlashTorn", spec := "flashTorn", apart := false }
def FlashTornSaid : Prop := flashTornRow.holds Try.pinned (OpenSpec.ofChange flashTornSpec)

/-- ITS FALSE NEIGHBOUR: 'it returns false'. Refute it at one input. -/
def flashTornWrong : ChangeSpec := { name := "flashTorn", fn := fun _ => fun
  | [d1, d2, d3] => { results := [.lit (.bool false)], args := [d1, d2, d3] }
  | _ => none }
def FlashTornWrongFalsely : Prop := flashTornRow.holds Try.pinned (OpenSpec.ofChange flashTornWrong)

/-- 'solenoidlaw4.FlashTwins': WHATEVER THE INPUT: true; the input reads as it did. -/
def flashTwinsSpec : ChangeSpec := { name := "flashTwins", fn := fun _ => fun
  | [d] => { results := [.lit (.bool true)], args := [d] }
  | _ => none }
def flashTwinsRow : OpenClaim := { program := "ytdomdnmjabadiaa", sum := "a1fafd84968b58c16c508ddbb2bed5e411041a721b688682ba0b0f5b797f0758", func := "solenoid/solenoidlaw4.FlashTwins", spec := "flashTwins", apart := false }
def FlashTwinsSaid : Prop := flashTwinsRow.holds Try.pinned (OpenSpec.ofChange flashTwinsSpec)

/-- ITS FALSE NEIGHBOUR: 'it returns false'. Refute it at one input. -/
def flashTwinsWrong : ChangeSpec := { name := "flashTwins", fn := fun _ => fun
  | [d] => { results := [.lit (.bool false)], args := [d] }
  | _ => none }
def FlashTwinsWrongFalsely : Prop := flashTwinsRow.holds Try.pinned (OpenSpec.ofChange flashTwinsWrong)

/-- 'solenoidlaw4.FlashStops': WHATEVER THE INPUT: true; the input reads as it did. -/
def flashStopsSpec : ChangeSpec := { name := "flashStops", fn := fun _ => fun
  | [d1, d2, d3] => { results := [.lit (.bool true)], args := [d1, d2, d3] }
  | _ => none }
def flashStopsRow : OpenClaim := { program := "ytdomdnmjabadiaa", sum := "a1fafd84968b58c16c508ddbb2bed5e411041a721b688682ba0b0f5b797f0758", func := "solenoid/solenoidlaw4.FlashStops", spec := "flashStops", apart := false }
def FlashStopsSaid : Prop := flashStopsRow.holds Try.pinned (OpenSpec.ofChange flashStopsSpec)

/-- ITS FALSE NEIGHBOUR: 'it returns false'. Refute it at one input. -/
def flashStopsWrong : ChangeSpec := { name := "flashStops", fn := fun _ => fun
  | [d1, d2, d3] => { results := [.lit (.bool false)], args := [d1, d2, d3] }
  | _ => none }
def FlashStopsWrongFalsely : Prop := flashStopsRow.holds Try.pinned (OpenSpec.ofChange flashStopsWrong)

/- THE SECOND FORM. 'bulk': how many values and letters a reading holds, each counted each time it is reached (what is shared counts as often as it is met; a slice's spare places count too). A statement '..UptoSaid' is the law's where the arguments, and the package variables that the reading takes, are together of bulk at most 1048576: NARROWER than '..Said'. Prove '..Said' where nothing that the law and all that it calls make is longer than what came in: it says more and counts as full. Else prove '..UptoSaid'. A law counts once. -/
mutual
def uptoBulk {H : Type} : DataW H → Nat
  | .lit (.string bytes) => bytes.length + 1
  | .lit _ => 1
  | .nil => 1
  | .ptr d => uptoBulk d + 1
  | .slice elems spare => uptoBulkAll elems + uptoBulkAll spare + 1
  | .agg parts => uptoBulkAll parts + 1
  | .iface _ d => uptoBulk d + 1
  | .map entries => uptoBulkEntries entries + 1
  | .held _ => 1
def uptoBulkAll {H : Type} : List (DataW H) → Nat
  | [] => 0
  | d :: r => uptoBulk d + uptoBulkAll r
def uptoBulkEntries {H : Type} : List (Lit × DataW H) → Nat
  | [] => 0
  | x :: r => uptoBulkEntry x + uptoBulkEntries r
def uptoBulkEntry {H : Type} : Lit × DataW H → Nat
  | (.string bytes, d) => bytes.length + uptoBulk d + 1
  | (_, d) => uptoBulk d + 1
 end
def uptoSmall : (H : Type) → List (DataW H) → Bool := fun _ ds => decide (uptoBulkAll ds ≤ 1048576)
def OpenSpec.upto (s : _root_.Go.ChangeSpec) : _root_.Go.OpenSpec := { _root_.Go.OpenSpec.ofChange s with cond := some uptoSmall }

/-- 'solenoidlaw4.FlashBits', WHERE WHAT IT READS IS OF BULK AT MOST 1048576: true; the input reads as it did. -/
def flashBitsUptoRow : OpenClaim := { program := "ytdomdnmjabadiaa", sum := "a1fafd84968b58c16c508ddbb2bed5e411041a721b688682ba0b0f5b797f0758", func := "solenoid/solenoidlaw4.FlashBits", spec := "flashBits", apart := false, narrowed := true }
def FlashBitsUptoSaid : Prop := flashBitsUptoRow.holds Try.pinned (OpenSpec.upto flashBitsSpec)

/-- 'solenoidlaw4.FlashAgain', WHERE WHAT IT READS IS OF BULK AT MOST 1048576: true; the input reads as it did. -/
def flashAgainUptoRow : OpenClaim := { program := "ytdomdnmjabadiaa", sum := "a1fafd84968b58c16c508ddbb2bed5e411041a721b688682ba0b0f5b797f0758", func := "solenoid/solenoidlaw4.FlashAgain", spec := "flashAgain", apart := false, narrowed := true }
def FlashAgainUptoSaid : Prop := flashAgainUptoRow.holds Try.pinned (OpenSpec.upto flashAgainSpec)

/-- 'solenoidlaw4.FlashAddr', WHERE WHAT IT READS IS OF BULK AT MOST 1048576: true; the input reads as it did. -/
def flashAddrUptoRow : OpenClaim := { program := "ytdomdnmjabadiaa", sum := "a1fafd84968b58c16c508ddbb2bed5e411041a721b688682ba0b0f5b797f0758", func := "solenoid/solenoidlaw4.FlashAddr", spec := "flashAddr", apart := false, narrowed := true }
def FlashAddrUptoSaid : Prop := flashAddrUptoRow.holds Try.pinned (OpenSpec.upto flashAddrSpec)

/-- 'solenoidlaw4.FlashErase', WHERE WHAT IT READS IS OF BULK AT MOST 1048576: true; the input reads as it did. -/
def flashEraseUptoRow : OpenClaim := { program := "ytdomdnmjabadiaa", sum := "a1fafd84968b58c16c508ddbb2bed5e411041a721b688682ba0b0f5b797f0758", func := "solenoid/solenoidlaw4.FlashErase", spec := "flashErase", apart := false, narrowed := true }
def FlashEraseUptoSaid : Prop := flashEraseUptoRow.holds Try.pinned (OpenSpec.upto flashEraseSpec)

/-- 'solenoidlaw4.FlashTorn', WHERE WHAT IT READS IS OF BULK AT MOST 1048576: true; the input reads as it did. -/
def flashTornUptoRow : OpenClaim := { program := "ytdomdnmjabadiaa", sum := "a1fafd84968b58c16c508ddbb2bed5e411041a721b688682ba0b0f5b797f0758", func := "solenoid/solenoidlaw4.FlashTorn", spec := "flashTorn", apart := false, narrowed := true }
def FlashTornUptoSaid : Prop := flashTornUptoRow.holds Try.pinned (OpenSpec.upto flashTornSpec)

/-- 'solenoidlaw4.FlashTwins', WHERE WHAT IT READS IS OF BULK AT MOST 1048576: true; the input reads as it did. -/
def flashTwinsUptoRow : OpenClaim := { program := "ytdomdnmjabadiaa", sum := "a1fafd84968b58c16c508ddbb2bed5e411041a721b688682ba0b0f5b797f0758", func := "solenoid/solenoidlaw4.FlashTwins", spec := "flashTwins", apart := false, narrowed := true }
def FlashTwinsUptoSaid : Prop := flashTwinsUptoRow.holds Try.pinned (OpenSpec.upto flashTwinsSpec)

/-- 'solenoidlaw4.FlashStops', WHERE WHAT IT READS IS OF BULK AT MOST 1048576: true; the input reads as it did. -/
def flashStopsUptoRow : OpenClaim := { program := "ytdomdnmjabadiaa", sum := "a1fafd84968b58c16c508ddbb2bed5e411041a721b688682ba0b0f5b797f0758", func := "solenoid/solenoidlaw4.FlashStops", spec := "flashStops", apart := false, narrowed := true }
def FlashStopsUptoSaid : Prop := flashStopsUptoRow.holds Try.pinned (OpenSpec.upto flashStopsSpec)

end Rows
end Go.Proofs.Ytdomdnmjabadiaa
