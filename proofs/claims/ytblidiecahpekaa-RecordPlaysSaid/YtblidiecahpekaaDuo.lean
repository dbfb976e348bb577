/- Both memories side by side: the code's at g, the document's at x. -/
import Derived.Test.YtblidiecahpekaaRecApp
import Derived.Test.YtblidiecahpekaaRecAppR
import Derived.Test.YtblidiecahpekaaRecKnown
import Derived.Test.YtblidiecahpekaaRefFlash2
import Derived.Test.YtblidiecahpekaaFlashOps
set_option linter.unusedVariables false
set_option linter.unusedSimpArgs false
namespace Go.Proofs.Ytblidiecahpekaa
open Go.RowKit

def NeQ (g x : Nat) (b : Nat) : Prop := b ≠ g ∧ b ≠ x
structure Duo (w0 W : World) (g x : Nat) (f k : FlashSt) : Prop where
  fs : FS (NeQ g x) W g f
  rf : RF (NeQ g x) W x k
  ge : w0.heap.size ≤ g
  lt : g < x
  bel : Below w0.heap.size w0 W
section
variable {w0 W W' : World} {g x : Nat} {f k f1 : FlashSt}
theorem neq_g (b : Nat) (h : NeQ g x b) : b ≠ g := h.1
theorem neq_x (b : Nat) (h : NeQ g x b) : b ≠ x := h.2
theorem Duo.next (h : Duo w0 W g x f k) (hb : Below W.heap.size W W') : Duo w0 W' g x f k := ⟨h.fs.below hb, h.rf.below hb, h.ge, h.lt, below_then h.bel hb h.bel.size⟩
theorem Duo.fst (h : Duo w0 W g x f k) (hF : FS (NeQ g x) W' g f1) (hg : W.grownBy W' (some g)) : Duo w0 W' g x f1 k :=
  ⟨hF, h.rf.other hg (by have := h.lt; omega) neq_g, h.ge, h.lt, below_grown h.bel hg h.bel.size h.ge⟩
theorem Duo.snd (h : Duo w0 W g x f k) (hF : RF (NeQ g x) W' x f1) (hg : W.grownBy W' (some x)) : Duo w0 W' g x f f1 :=
  ⟨h.fs.other hg (by have := h.lt; omega) neq_x, hF, h.ge, h.lt, below_grown h.bel hg h.bel.size (by have := h.lt; have := h.ge; omega)⟩
theorem Duo.xlt (h : Duo w0 W g x f k) : x < W.heap.size := h.rf.lt
theorem Duo.fresh (h : Duo w0 W g x f k) : ∀ b, W.heap.size ≤ b → NeQ g x b := fun b hb => by have := h.rf.lt; have := h.lt; exact ⟨by omega, by omega⟩
theorem Duo.keeps (h : Duo w0 W g x f k) : Keeps w0 W := Keeps.of_below h.bel
theorem Duo.start (w0 w w1 w2 : World) (hb : Below w0.heap.size w0 w) (h1 : FS (fun _ => False) w1 w.heap.size f) (hb1 : Below w.heap.size w w1) (h2 : RF (fun _ => False) w2 w1.heap.size k) (hb2 : Below w1.heap.size w1 w2) : Duo w0 w2 w.heap.size w1.heap.size f k :=
  ⟨(h1.below hb2).weak fun _ h => h.elim, h2.weak fun _ h => h.elim, hb.size, h1.lt, below_then (below_then hb hb1 hb.size) hb2 (Nat.le_trans hb.size hb1.size)⟩
/-- bytes of a block of one's own stay while a memory is written -/
theorem bs_fst {A : Option Addr} {n : Nat} {l : List UInt8} (hB : Bs W A n l) (hne : 0 < n → Away g A) (hg : W.grownBy W' (some g)) : Bs W' A n l := hB.grownKeep0 hg hne
end
theorem away_new {W : World} {g b o : Nat} (hg : g ≠ b) : Away g (some ⟨b, o, none⟩) := fun a e => by injection e with e; subst e; exact fun h => hg h.symm
end Go.Proofs.Ytblidiecahpekaa
