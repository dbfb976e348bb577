/- []byte("..") of a constant. -/
import Derived.Test.YtkncomkncfcecaaLay
import Derived.Test.YtkncomkncfcecaaConcat
import Derived.Lib.SmallJoins
set_option linter.unusedVariables false
set_option linter.unusedSimpArgs false
namespace Go.Proofs.Ytkncomkncfcecaa
open Go.RowKit
theorem kl_convLit {Q : Exit → Act → World → Prop} {N : Nat} {L : Slots} {w : World} {ops : Array Oper} {rest : List Oper} {o : Oper} {d x g n c : Nat} (C : Array Value) (hgw : g = w.heap.size) (hd : o.dst = some d) (hg : o.guard = none) (ho : o.op = .convert 32 32 (.tmp x)) (hx : lk L x = some (.slice (some ⟨g, 0, none⟩) n c)) (hn : Nat.blt d N = true)
    (h : KL Try.prog ops Q rest N ((d, .slice (some ⟨g, 0, none⟩) n c) :: L) (w.alloc (.cells C 5 (C.size, C.size + 1)))) : KL Try.prog ops Q (o :: rest) N L (w.alloc (.cells C 5)) :=
  kl_step hd hg (by simp [ho, okop, okx, hx, hn]) fun K hK => by
    have he : ev L (.tmp x) = .slice (some ⟨g, 0, none⟩) n c := by simp [ev, hx]
    have hr := Joins.run_convert_bytes_const_at (P := Try.prog) w 32 5 C n c g hgw Try.underlying32 Try.underlying5
    simp only [execOp, ho, he, Sem.run_bind, hr, Result.andThen_ok, Sem.run_pure]
    exact hK _ _ h
/-- such bytes in their block -/
theorem bs_mark (w : World) (l : List UInt8) (fr : Nat × Nat) {n : Nat} (hn : l.length = n) : Bs (w.alloc (.cells (bv l).toArray 5 fr)) (some ⟨w.heap.size, 0, none⟩) n l :=
  ⟨by rw [length_bv]; exact hn, fun _ => ⟨_, 0, rfl, fun i u hu => by
    rw [Nat.zero_add, World.cell?_alloc_mark w _ _ fr i, List.getElem?_toArray]; exact hu⟩⟩
end Go.Proofs.Ytkncomkncfcecaa
