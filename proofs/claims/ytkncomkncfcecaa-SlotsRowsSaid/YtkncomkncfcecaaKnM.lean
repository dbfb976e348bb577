/- make([]byte, k) in a sparse walk. -/
import Derived.Test.YtkncomkncfcecaaLay
import Derived.Test.YtkncomkncfcecaaConcat
set_option linter.unusedVariables false
set_option linter.unusedSimpArgs false
namespace Go.Proofs.Ytkncomkncfcecaa
open Go.RowKit
theorem kl_makeB {Q : Exit → Act → World → Prop} {n : Nat} {L : Slots} {w : World} {ops : Array Oper} {rest : List Oper} {o : Oper} {d y k : Nat} (hd : o.dst = some d) (hg : o.guard = none) (ho : o.op = .makeSlice 32 (.tmp y) (.tmp y)) (hy : lk L y = some (.int .i64 (k : Int))) (hk : k ≤ 140737488355328) (hn : Nat.blt d n = true)
    (h : ∀ g w', Hid (g = w.heap.size) → Below w.heap.size w w' → Bs w' (some ⟨g, 0, none⟩) k (List.replicate k 0) → KL Try.prog ops Q rest n ((d, .slice (some ⟨g, 0, none⟩) k k) :: L) w') : KL Try.prog ops Q (o :: rest) n L w :=
  kl_step hd hg (by simp [ho, okop, okx, hy, hn]) fun K hK => by
    have he : ev L (.tmp y) = .int .i64 (k : Int) := by simp [ev, hy]
    have hr : (execOp (ev L) o).run Try.prog w = .ok (.value (.slice (some ⟨w.heap.size, 0, none⟩) k k)) (w.alloc (.cells (bv (List.replicate k 0)).toArray 5)) := by
      simp [execOp, ho, he, makeBytes k hk, Sem.run_bind, Result.andThen]
    rw [hr]
    exact hK _ _ (h _ _ (by show _ = _; rfl) ((Below.refl _ _).alloc (Nat.le_refl _) _) (Bs.lit _ rfl _ (by simp) rfl))
end Go.Proofs.Ytkncomkncfcecaa
