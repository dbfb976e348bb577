/-
  No cell of these rows narrows 'for every input' (looked for: loops, veiled, ifaces, maps, wideKeys, modest, calm, conditions, laid).
  DERIVED. THE GIVEN ROWS OF THIS SEAT. 6 by the template 'for every input the law returns true; each argument reads behind the call as it read before'; 0 by the template 'total and deterministic' (their statements: YtdbjclpjplkkfaaTotals.lean).
  GIVEN WITH THE SEED: the statements are not yours to turn. If you find one false, say at which input.
  Laid BY PROGRAM, IN A SANDBOX (cutbox-rows.mjs): the forced cells as the released guide's own fill.sh prints them over the translation 90ff78ae0677737f… (all of the seat's roots in one cut). By AI agents, Wed Nov 11 2026. No macro, syntax, notation, axiom, sorry.
-/
import Derived.Test.YtdbjclpjplkkfaaChecked
import GoSem.Claim
import GoSem.ClaimJoined
import GoSem.ClaimMapViews
import Derived.JoinedTies
import Derived.KernelRfl
namespace Go.Proofs.Ytdbjclpjplkkfaa
/- THE CELL 'sum', in the pinned program and in every row, IS THE sha256 OF THE DUMP (.gsa) THAT YtdbjclpjplkkfaaProg.lean LOADS. Nothing in Lean hashes anything: it is a label: what it is worth is what the hold of that sum in a sandbox is worth. -/
noncomputable def Try.pinned : Pinned := { name := "ytdbjclpjplkkfaa", sum := "90ff78ae0677737f455177a7a24b845b8d5b466b281218c8669d198870ff3e70", checked := Try.checked }
namespace Rows
def none {H : Type} : Left H := { results := [], args := [] }

/-- 'solenoidlaw2.CrcSums': WHATEVER THE INPUT: true; the input reads as it did. -/
def crcSumsSpec : ChangeSpec := { name := "crcSums", fn := fun _ => fun
  | [d1, d2] => { results := [.lit (.bool true)], args := [d1, d2] }
  | _ => none }
def crcSumsRow : OpenClaim := { program := "ytdbjclpjplkkfaa", sum := "90ff78ae0677737f455177a7a24b845b8d5b466b281218c8669d198870ff3e70", func := "solenoid/solenoidlaw2.CrcSums", spec := "crcSums", apart := false }
def CrcSumsSaid : Prop := crcSumsRow.holds Try.pinned (OpenSpec.ofChange crcSumsSpec)

/-- ITS FALSE NEIGHBOUR: 'it returns false'. Refute it at one input. -/
def crcSumsWrong : ChangeSpec := { name := "crcSums", fn := fun _ => fun
  | [d1, d2] => { results := [.lit (.bool false)], args := [d1, d2] }
  | _ => none }
def CrcSumsWrongFalsely : Prop := crcSumsRow.holds Try.pinned (OpenSpec.ofChange crcSumsWrong)

/-- 'solenoidlaw2.CrcBits': WHATEVER THE INPUT: true; the input reads as it did. -/
def crcBitsSpec : ChangeSpec := { name := "crcBits", fn := fun _ => fun
  | [d1, d2, d3] => { results := [.lit (.bool true)], args := [d1, d2, d3] }
  | _ => none }
def crcBitsRow : OpenClaim := { program := "ytdbjclpjplkkfaa", sum := "90ff78ae0677737f455177a7a24b845b8d5b466b281218c8669d198870ff3e70", func := "solenoid/solenoidlaw2.CrcBits", spec := "crcBits", apart := false }
def CrcBitsSaid : Prop := crcBitsRow.holds Try.pinned (OpenSpec.ofChange crcBitsSpec)

/-- ITS FALSE NEIGHBOUR: 'it returns false'. Refute it at one input. -/
def crcBitsWrong : ChangeSpec := { name := "crcBits", fn := fun _ => fun
  | [d1, d2, d3] => { results := [.lit (.bool false)], args := [d1, d2, d3] }
  | _ => none }
def CrcBitsWrongFalsely : Prop := crcBitsRow.holds Try.pinned (OpenSpec.ofChange crcBitsWrong)

/-- 'solenoidlaw2.CrcLines': WHATEVER THE INPUT: true; the input reads as it did. -/
def crcLinesSpec : ChangeSpec := { name := "crcLines", fn := fun _ => fun
  | [d1, d2] => { results := [.lit (.bool true)], args := [d1, d2] }
  | _ => none }
def crcLinesRow : OpenClaim := { program := "ytdbjclpjplkkfaa", sum := "90ff78ae0677737f455177a7a24b845b8d5b466b281218c8669d198870ff3e70", func := "solenoid/solenoidlaw2.CrcLines", spec := "crcLines", apart := false }
def CrcLinesSaid : Prop := crcLinesRow.holds Try.pinned (OpenSpec.ofChange crcLinesSpec)

/-- ITS FALSE NEIGHBOUR: 'it returns false'. Refute it at one input. -/
def crcLinesWrong : ChangeSpec := { name := "crcLines", fn := fun _ => fun
  | [d1, d2] => { results := [.lit (.bool false)], args := [d1, d2] }
  | _ => none }
def CrcLinesWrongFalsely : Prop := crcLinesRow.holds Try.pinned (OpenSpec.ofChange crcLinesWrong)

/-- 'solenoidlaw2.CrcLong': WHATEVER THE INPUT: true; the input reads as it did. -/
def crcLongSpec : ChangeSpec := { name := "crcLong", fn := fun _ => fun
  | [d1, d2] => { results := [.lit (.bool true)], args := [d1, d2] }
  | _ => none }
def crcLongRow : OpenClaim := { program := "ytdbjclpjplkkfaa", sum := "90ff78ae0677737f455177a7a24b845b8d5b466b281218c8669d198870ff3e70", func := "solenoid/solenoidlaw2.CrcLong", spec := "crcLong", apart := false }
def CrcLongSaid : Prop := crcLongRow.holds Try.pinned (OpenSpec.ofChange crcLongSpec)

/-- ITS FALSE NEIGHBOUR: 'it returns false'. Refute it at one input. -/
def crcLongWrong : ChangeSpec := { name := "crcLong", fn := fun _ => fun
  | [d1, d2] => { results := [.lit (.bool false)], args := [d1, d2] }
  | _ => none }
def CrcLongWrongFalsely : Prop := crcLongRow.holds Try.pinned (OpenSpec.ofChange crcLongWrong)

/-- 'solenoidlaw2.CrcOpens': WHATEVER THE INPUT: true; the input reads as it did. -/
def crcOpensSpec : ChangeSpec := { name := "crcOpens", fn := fun _ => fun
  | [d1, d2, d3, d4, d5] => { results := [.lit (.bool true)], args := [d1, d2, d3, d4, d5] }
  | _ => none }
def crcOpensRow : OpenClaim := { program := "ytdbjclpjplkkfaa", sum := "90ff78ae0677737f455177a7a24b845b8d5b466b281218c8669d198870ff3e70", func := "solenoid/solenoidlaw2.CrcOpens", spec := "crcOpens", apart := false }
def CrcOpensSaid : Prop := crcOpensRow.holds Try.pinned (OpenSpec.ofChange crcOpensSpec)

/-- ITS FALSE NEIGHBOUR: 'it returns false'. Refute it at one input. -/
def crcOpensWrong : ChangeSpec := { name := "crcOpens", fn := fun _ => fun
  | [d1, d2, d3, d4, d5] => { results := [.lit (.bool false)], args := [d1, d2, d3, d4, d5] }
  | _ => none }
def CrcOpensWrongFalsely : Prop := crcOpensRow.holds Try.pinned (OpenSpec.ofChange crcOpensWrong)

/-- 'solenoidlaw2.CrcBack': WHATEVER THE INPUT: true; the input reads as it did. -/
def crcBackSpec : ChangeSpec := { name := "crcBack", fn := fun _ => fun
  | [d1, d2, d3, d4] => { results := [.lit (.bool true)], args := [d1, d2, d3, d4] }
  | _ => none }
def crcBackRow : OpenClaim := { program := "ytdbjclpjplkkfaa", sum := "90ff78ae0677737f455177a7a24b845b8d5b466b281218c8669d198870ff3e70", func := "solenoid/solenoidlaw2.CrcBack", spec := "crcBack", apart := false }
def CrcBackSaid : Prop := crcBackRow.holds Try.pinned (OpenSpec.ofChange crcBackSpec)

/-- ITS FALSE NEIGHBOUR: 'it returns false'. Refute it at one input. -/
def crcBackWrong : ChangeSpec := { name := "crcBack", fn := fun _ => fun
  | [d1, d2, d3, d4] => { results := [.lit (.bool false)], args := [d1, d2, d3, d4] }
  | _ => none }
def CrcBackWrongFalsely : Prop := crcBackRow.holds Try.pinned (OpenSpec.ofChange crcBackWrong)

/- THE SECOND FORM. 'bulk': how many values and letters a reading holds, each counted each time it is reached (what is shared counts as often as it is met; a slice's spare places count too). A statement '..UptoSaid' is the law's where the arguments, and the package variables that the reading takes, are together of bulk at most 1048576: NARROWER than '..Said'. Prove '..Said' where nothing that the law and all that it calls make is longer than what came in: it says more and counts as full. Else prove '..UptoSaid'. A law counts once. -/
mutual
def uptoBulk {H : Type} : DataW H → Nat
  | .lit (.string bytes) => bytes.length + 1
  | .lit _ => 1
  | .nil => 1
  | .ptr d => uptoBulk d + 1
  | .slice elems spare => uptoBulkAll elems + uptoBulkAll spare + 1
  | .agg parts => uptoBulkAll parts + 1
  | .iface _ d => uptoBulk d + 1
  | .map entries => uptoBulkEntries entries + 1
  | .held _ => 1
def uptoBulkAll {H : Type} : List (DataW H) → Nat
  | [] => 0
  | d :: r => uptoBulk d + uptoBulkAll r
def uptoBulkEntries {H : Type} : List (Lit × DataW H) → Nat
  | [] => 0
  | x :: r => uptoBulkEntry x + uptoBulkEntries r
def uptoBulkEntry {H : Type} : Lit × DataW H → Nat
  | (.string bytes, d) => bytes.length + uptoBulk d + 1
  | (_, d) => uptoBulk d + 1
 end
def uptoSmall : (H : Type) → List (DataW H) → Bool := fun _ ds => decide (uptoBulkAll ds ≤ 1048576)
def OpenSpec.upto (s : _root_.Go.ChangeSpec) : _root_.Go.OpenSpec := { _root_.Go.OpenSpec.ofChange s with cond := some uptoSmall }

/-- 'solenoidlaw2.CrcSums', WHERE WHAT IT READS IS OF BULK AT MOST 1048576: true; the input reads as it did. -/
def crcSumsUptoRow : OpenClaim := { program := "ytdbjclpjplkkfaa", sum := "90ff78ae0677737f455177a7a24b845b8d5b466b281218c8669d198870ff3e70", func := "solenoid/solenoidlaw2.CrcSums", spec := "crcSums", apart := false, narrowed := true }
def CrcSumsUptoSaid : Prop := crcSumsUptoRow.holds Try.pinned (OpenSpec.upto crcSumsSpec)

/-- 'solenoidlaw2.CrcBits', WHERE WHAT IT READS IS OF BULK AT MOST 1048576: true; the input reads as it did. -/
def crcBitsUptoRow : OpenClaim := { program := "ytdbjclpjplkkfaa", sum := "90ff78ae0677737f455177a7a24b845b8d5b466b281218c8669d198870ff3e70", func := "solenoid/solenoidlaw2.CrcBits", spec := "crcBits", apart := false, narrowed := true }
def CrcBitsUptoSaid : Prop := crcBitsUptoRow.holds Try.pinned (OpenSpec.upto crcBitsSpec)

/-- 'solenoidlaw2.CrcLines', WHERE WHAT IT READS IS OF BULK AT MOST 1048576: true; the input reads as it did. -/
def crcLinesUptoRow : OpenClaim := { program := "ytdbjclpjplkkfaa", sum := "90ff78ae0677737f455177a7a24b845b8d5b466b281218c8669d198870ff3e70", func := "solenoid/solenoidlaw2.CrcLines", spec := "crcLines", apart := false, narrowed := true }
def CrcLinesUptoSaid : Prop := crcLinesUptoRow.holds Try.pinned (OpenSpec.upto crcLinesSpec)

/-- 'solenoidlaw2.CrcLong', WHERE WHAT IT READS IS OF BULK AT MOST 1048576: true; the input reads as it did. -/
def crcLongUptoRow : OpenClaim := { program := "ytdbjclpjplkkfaa", sum := "90ff78ae0677737f455177a7a24b845b8d5b466b281218c8669d198870ff3e70", func := "solenoid/solenoidlaw2.CrcLong", spec := "crcLong", apart := false, narrowed := true }
def CrcLongUptoSaid : Prop := crcLongUptoRow.holds Try.pinned (OpenSpec.upto crcLongSpec)

/-- 'solenoidlaw2.CrcOpens', WHERE WHAT IT READS IS OF BULK AT MOST 1048576: true; the input reads as it did. -/
def crcOpensUptoRow : OpenClaim := { program := "ytdbjclpjplkkfaa", sum := "90ff78ae0677737f455177a7a24b845b8d5b466b281218c8669d198870ff3e70", func := "solenoid/solenoidlaw2.CrcOpens", spec := "crcOpens", apart := false, narrowed := true }
def CrcOpensUptoSaid : Prop := crcOpensUptoRow.holds Try.pinned (OpenSpec.upto crcOpensSpec)

/-- 'solenoidlaw2.CrcBack', WHERE WHAT IT READS IS OF BULK AT MOST 1048576: true; the input reads as it did. -/
def crcBackUptoRow : OpenClaim := { program := "ytdbjclpjplkkfaa", sum := "90ff78ae0677737f455177a7a24b845b8d5b466b281218c8669d198870ff3e70", func := "solenoid/solenoidlaw2.CrcBack", spec := "crcBack", apart := false, narrowed := true }
def CrcBackUptoSaid : Prop := crcBackUptoRow.holds Try.pinned (OpenSpec.upto crcBackSpec)

end Rows
end Go.Proofs.Ytdbjclpjplkkfaa
