/- The sum SHA-256 of a list of bytes, plainly. No program in sight. Arrays in memory: laid zero, a table's literal, the whole of one read, written. The sparse walk's laws for arrays by value: laid, loaded, stored, built. No program in sight. The sparse walk's laws for append at bytes. -/
import Derived.Test.YtcpifcdndhhmgaaLib
import Derived.Test.YtcpifcdndhhmgaaChecked
import Derived.Laws.Tables
import Derived.Laws.Rows
import Derived.Test.YtcpifcdndhhmgaaKn
import Derived.Test.YtcpifcdndhhmgaaClone
set_option linter.unusedVariables false
set_option linter.unusedSimpArgs false
namespace Go.Proofs.Ytcpifcdndhhmgaa
open Go.RowKit

abbrev W32 := BitVec 32
/-- a word turned to the right -/
def ror (x : W32) (n : Nat) : W32 := (x >>> n) ||| (x <<< (32 - n))
abbrev uv (x : W32) : Value := .int .u32 (x.toNat : Int)
def wv (l : List W32) : List Value := l.map fun x => .int .u32 (x.toNat : Int)
structure ShaSt where
  a : W32
  b : W32
  c : W32
  d : W32
  e : W32
  f : W32
  g : W32
  h : W32
def ShaSt.words (s : ShaSt) : List W32 := [s.a, s.b, s.c, s.d, s.e, s.f, s.g, s.h]
def sig0 (x : W32) : W32 := ror x 7 ^^^ ror x 18 ^^^ (x >>> 3)
def sig1 (x : W32) : W32 := ror x 17 ^^^ ror x 19 ^^^ (x >>> 10)
def byteW (x : UInt8) : W32 := BitVec.ofNat 32 x.toNat
def be4 (x0 x1 x2 x3 : UInt8) : W32 := (byteW x0 <<< 24) ||| (byteW x1 <<< 16) ||| (byteW x2 <<< 8) ||| byteW x3
def be32 (l : List UInt8) (q : Nat) : W32 := be4 (l.getD q 0) (l.getD (q + 1) 0) (l.getD (q + 2) 0) (l.getD (q + 3) 0)
/-- the first words of a piece -/
def wl (b : List UInt8) : Nat → List W32
  | 0 => []
  | i + 1 => wl b i ++ [if i < 16 then be32 b (4 * i) else (wl b i).getD (i - 16) 0 + sig0 ((wl b i).getD (i - 15) 0) + (wl b i).getD (i - 7) 0 + sig1 ((wl b i).getD (i - 2) 0)]
def ks : List W32 := [
  0x428a2f98, 0x71374491, 0xb5c0fbcf, 0xe9b5dba5, 0x3956c25b, 0x59f111f1, 0x923f82a4, 0xab1c5ed5,
  0xd807aa98, 0x12835b01, 0x243185be, 0x550c7dc3, 0x72be5d74, 0x80deb1fe, 0x9bdc06a7, 0xc19bf174,
  0xe49b69c1, 0xefbe4786, 0x0fc19dc6, 0x240ca1cc, 0x2de92c6f, 0x4a7484aa, 0x5cb0a9dc, 0x76f988da,
  0x983e5152, 0xa831c66d, 0xb00327c8, 0xbf597fc7, 0xc6e00bf3, 0xd5a79147, 0x06ca6351, 0x14292967,
  0x27b70a85, 0x2e1b2138, 0x4d2c6dfc, 0x53380d13, 0x650a7354, 0x766a0abb, 0x81c2c92e, 0x92722c85,
  0xa2bfe8a1, 0xa81a664b, 0xc24b8b70, 0xc76c51a3, 0xd192e819, 0xd6990624, 0xf40e3585, 0x106aa070,
  0x19a4c116, 0x1e376c08, 0x2748774c, 0x34b0bcb5, 0x391c0cb3, 0x4ed8aa4a, 0x5b9cca4f, 0x682e6ff3,
  0x748f82ee, 0x78a5636f, 0x84c87814, 0x8cc70208, 0x90befffa, 0xa4506ceb, 0xbef9a3f7, 0xc67178f2]
def st0 : ShaSt := ⟨0x6a09e667, 0xbb67ae85, 0x3c6ef372, 0xa54ff53a, 0x510e527f, 0x9b05688c, 0x1f83d9ab, 0x5be0cd19⟩
/-- the two sums of a round -/
def shaX (t : ShaSt) (k w : W32) : W32 := t.h + (ror t.e 6 ^^^ ror t.e 11 ^^^ ror t.e 25) + ((t.e &&& t.f) ^^^ (~~~t.e &&& t.g)) + k + w
def shaY (t : ShaSt) : W32 := (ror t.a 2 ^^^ ror t.a 13 ^^^ ror t.a 22) + ((t.a &&& t.b) ^^^ (t.a &&& t.c) ^^^ (t.b &&& t.c))
def shaRound (t : ShaSt) (k w : W32) : ShaSt := ⟨shaX t k w + shaY t, t.a, t.b, t.c, t.d + shaX t k w, t.e, t.f, t.g⟩
def rounds (b : List UInt8) (s : ShaSt) : Nat → ShaSt
  | 0 => s
  | i + 1 => shaRound (rounds b s i) (ks.getD i 0) ((wl b 64).getD i 0)
def addSt (s t : ShaSt) : ShaSt := ⟨t.a + s.a, t.b + s.b, t.c + s.c, t.d + s.d, t.e + s.e, t.f + s.f, t.g + s.g, t.h + s.h⟩
/-- the first j words are added -/
def addW (t s : List W32) (j : Nat) : List W32 := (List.zipWith (· + ·) t s).take j ++ t.drop j
def comp (s : ShaSt) (b : List UInt8) : ShaSt := addSt s (rounds b s 64)
/-- how many zeros -/
def zeros (n : Nat) : Nat := (119 - n % 64) % 64
def lenBytes (n : Nat) : Nat → List UInt8
  | 0 => []
  | i + 1 => lenBytes n i ++ [UInt8.ofNat (n * 8 / 2 ^ (56 - 8 * i))]
/-- with the first k zeros, the first j bytes of its length -/
def padZ (l : List UInt8) (k : Nat) : List UInt8 := l ++ [0x80] ++ List.replicate k 0
def padL (l : List UInt8) (j : Nat) : List UInt8 := padZ l (zeros l.length) ++ lenBytes l.length j
def padS (l : List UInt8) : List UInt8 := l ++ [0x80] ++ List.replicate (zeros l.length) 0 ++ lenBytes l.length 8
def blks (all : List UInt8) : Nat → ShaSt
  | 0 => st0
  | j + 1 => comp (blks all j) ((all.drop (64 * j)).take 64)
/-- the bytes of words, the highest first -/
def outB (l : List W32) : Nat → List UInt8
  | 0 => []
  | i + 1 => outB l i ++ [UInt8.ofNat ((l.getD (i / 4) 0).toNat / 2 ^ (24 - 8 * (i % 4)))]
def sha (l : List UInt8) : List UInt8 := outB (blks (padS l) ((padS l).length / 64)).words 32
/-! ### in the spelling of the walk -/
end Go.Proofs.Ytcpifcdndhhmgaa
set_option linter.unusedVariables false
set_option linter.unusedSimpArgs false
namespace Go.Proofs.Ytcpifcdndhhmgaa
open Go.RowKit

def chkW : List W32 → List Value → Bool
  | [], [] => true
  | x :: xs, .int .u32 n :: vs => (n == (x.toNat : Int)) && chkW xs vs
  | _, _ => false
def chkB : List UInt8 → List Value → Bool
  | [], [] => true
  | x :: xs, .int .u8 n :: vs => (n == (x.toNat : Int)) && chkB xs vs
  | _, _ => false
/-- a literal of whatever values, its cells said -/
theorem wpList_buildTo {P : Program} {ops : Array Oper} {rest : List Oper} {o : Oper} {a : Act} {w : World} {Q : Exit → Act → World → Prop} (hgd : o.guard = none) (t : TypeId) (parts : Array (Nat × Operand)) (ho : o.op = .build t parts) (cells : Array Value)
    (hb : P.built t (parts.map fun (i, x) => (i, a.eval x)).toList = some cells)
    (h : wpList P ops Q rest (a.put o.dst (.agg cells)) w) : wpList P ops Q (o :: rest) a w :=
  wpList_plain hgd fun _ hK => by
    refine wp_build t parts ho (by rw [hb]; rfl) ?_
    rw [hb]
    exact hK _ _ h
/-- a variable of an array's type is laid -/
theorem run_alloc_row {P : Program} {t : TypeId} {cs : Array Value} (h : (P.info? t).bind (·.zero) = some (.agg cs)) (old : Value) (w : World) :
    (Instr.alloc t true old).run P w = .ok (.pointer (some ⟨w.heap.size, 0, none⟩)) (w.alloc (.cells cs t)) := by
  cases hi : P.info? t with
  | none => rw [hi] at h; cases h
  | some i =>
    rw [hi] at h
    simp only [Option.bind_some] at h
    simp [Instr.alloc, zeroValue, typeInfo, hi, h, newVar, newRow, newObj, go_sem, Value.cells]
    rfl
theorem wpList_alloc_row {P : Program} {ops : Array Oper} {rest : List Oper} {o : Oper} {a : Act} {w : World} {Q : Exit → Act → World → Prop} (hgd : o.guard = none) (t : TypeId) (ho : o.op = .alloc t) {cs : Array Value}
    (hz : (P.info? t).bind (·.zero) = some (.agg cs))
    (h : wpList P ops Q rest (a.put o.dst (.pointer (some ⟨w.heap.size, 0, none⟩))) (w.alloc (.cells cs t))) : wpList P ops Q (o :: rest) a w :=
  wpList_plain hgd fun K hK => by
    unfold Oper.wp execOp
    simp only [ho, Sem.run_bind, run_alloc_row hz, Result.andThen_ok]
    exact hK _ _ h
/-- a whole array written into a block that is known -/
theorem setRow_block {w : World} {g : Nat} {old cs : Array Value} {t : TypeId} {fr : Nat × Nat} (hg : w.heap[g]? = some (.cells old t fr)) : (w.setRow g cs).heap[g]? = some (.cells cs t fr) := setRow_heap w g old cs t fr hg
theorem below_setRow {B : Nat} {w w' : World} (hb : Below B w w') {g : Nat} (hg : B ≤ g) (cs : Array Value) : Below B w (w'.setRow g cs) :=
  ⟨hb.os, hb.tape, hb.output, by rw [setRow_size]; exact hb.size, fun i hi => by rw [setRow_other w' g i cs (by omega)]; exact hb.block i hi⟩
end Go.Proofs.Ytcpifcdndhhmgaa
set_option linter.unusedVariables false
set_option linter.unusedSimpArgs false
namespace Go.Proofs.Ytcpifcdndhhmgaa
open Go.RowKit
section
variable {P : Program} {Q : Exit → Act → World → Prop} {n : Nat} {L : Slots} {w : World} {ops : Array Oper} {rest : List Oper} {o : Oper}
theorem kl_alloc_row {d : Nat} (t : TypeId) {cs : Array Value} (hz : (P.info? t).bind (·.zero) = some (.agg cs)) (hd : o.dst = some d) (hg : o.guard = none) (ho : o.op = .alloc t) (hn : Nat.blt d n = true)
    (h : KL P ops Q rest n ((d, .pointer (some ⟨w.heap.size, 0, none⟩)) :: L) (w.alloc (.cells cs t))) : KL P ops Q (o :: rest) n L w :=
  ⟨fun a k => wpList_alloc_row hg t ho hz (kl_back k hd hn h)⟩
theorem kl_load_row {d x : Nat} (ty : TypeId) (g : Nat) (t : TypeId) (cs : Array Value) (fr : Nat × Nat) (de : TypeDesc) (hg' : w.heap[g]? = some (.cells cs t fr)) (hu : P.underlying ty = some de) (hde : (match de with | .struct _ | .array _ _ => true | _ => false) = true) (hi : (P.info? ty).map (·.size) = some cs.size)
    (hd : o.dst = some d) (hg : o.guard = none) (ho : o.op = .load ty (.tmp x)) (hx : lk L x = some (.pointer (some ⟨g, 0, none⟩))) (hn : Nat.blt d n = true)
    (h : KL P ops Q rest n ((d, .agg cs) :: L) w) : KL P ops Q (o :: rest) n L w :=
  ⟨fun a k => wpList_load_row hg ty (.tmp x) ho g (k.ev hx) t cs fr de hg' hu hde hi (kl_back k hd hn h)⟩
theorem kl_store_row {x y : Nat} (ty : TypeId) (g : Nat) (cells : Array Value) (t : TypeId) (old : Array Value) (hg' : w.heap[g]? = some (.cells old t (0, 0))) (hi : (P.info? ty).map (·.size) = some cells.size) (hs : old.size = cells.size) (hwv : cells.all (·.oneCell') = true)
    (hd : o.dst = none) (hg : o.guard = none) (ho : o.op = .store ty (.tmp x) (.tmp y)) (hx : lk L x = some (.pointer (some ⟨g, 0, none⟩))) (hy : lk L y = some (.agg cells))
    (h : KL P ops Q rest n L (w.setRow g cells)) : KL P ops Q (o :: rest) n L w :=
  ⟨fun a k => wpList_store_row hg ty (.tmp x) (.tmp y) ho g cells (k.ev hx) (k.ev hy) t old hg' hi hs hwv (kl_back0 k hd h)⟩
theorem kl_build {d : Nat} (t : TypeId) (parts : Array (Nat × Operand)) (cells : Array Value) (hd : o.dst = some d) (hg : o.guard = none) (ho : o.op = .build t parts) (hok : (parts.toList.all fun p => okx L p.2) = true) (hn : Nat.blt d n = true)
    (hb : P.built t (parts.toList.map fun p => (p.1, ev L p.2)) = some cells)
    (h : KL P ops Q rest n ((d, .agg cells) :: L) w) : KL P ops Q (o :: rest) n L w :=
  ⟨fun a k => wpList_buildTo hg t parts ho cells (by rw [map_eval2 k parts hok, Array.toList_map]; exact hb) (kl_back k hd hn h)⟩
end
end Go.Proofs.Ytcpifcdndhhmgaa
set_option linter.unusedVariables false
set_option linter.unusedSimpArgs false
namespace Go.Proofs.Ytcpifcdndhhmgaa
open Go.RowKit
section
variable {Q : Exit → Act → World → Prop} {N : Nat} {L : Slots} {w : World} {ops : Array Oper} {rest : List Oper} {o : Oper}
end
end Go.Proofs.Ytcpifcdndhhmgaa
