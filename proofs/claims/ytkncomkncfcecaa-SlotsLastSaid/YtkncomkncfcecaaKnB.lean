/- The sparse walk's laws for a variable of one cell: boxed, laid; and for a function value made. No program in sight. -/
import Derived.Test.YtkncomkncfcecaaKn
import Derived.RangeFuncBox
set_option linter.unusedVariables false
set_option linter.unusedSimpArgs false
namespace Go.Proofs.Ytkncomkncfcecaa
open Go.RowKit
section
variable {P : Program} {Q : Exit → Act → World → Prop} {n : Nat} {L : Slots} {w : World} {ops : Array Oper} {rest : List Oper} {o : Oper}
theorem kl_box1 {d y : Nat} {t : TypeId} {v : Value} (hd : o.dst = some d) (hg : o.guard = none) (ho : o.op = .box t (.tmp y)) (hy : lk L y = some v) (hv : v.cells = #[v]) (hn : Nat.blt d n = true)
    (h : ∀ g w', Hid (g = w.heap.size) → Hid (w'.heap.size = w.heap.size + 1) → Below w.heap.size w w' → Boxed w' g t v → KL P ops Q rest n ((d, .pointer (some ⟨g, 0, none⟩)) :: L) w') : KL P ops Q (o :: rest) n L w :=
  kl_step hd hg (by simp [ho, okop, okx, hy, hn]) fun K hK => by
    have he : ev L (.tmp y) = v := by simp [ev, hy]
    have hr : (execOp (ev L) o).run P w = .ok (.value (.pointer (some ⟨w.heap.size, 0, none⟩))) (w.alloc (.cells #[v] t)) := by
      simp [execOp, ho, he, Instr.box, Sem.run_bind, Sem.run_pure, newVar, newRow, hv]
    rw [hr]
    exact hK _ _ (h _ _ (by show _ = _; rfl) (by show _ = _; simp) ((Below.refl _ _).alloc (Nat.le_refl _) _) (Boxed.new w t v))
theorem kl_alloc1 {d : Nat} {t : TypeId} {v : Value} (hd : o.dst = some d) (hg : o.guard = none) (ho : o.op = .alloc t) (hz : (P.info? t).bind (·.zero) = some v) (hv : v.cells = #[v]) (hn : Nat.blt d n = true)
    (h : ∀ g w', Hid (g = w.heap.size) → Hid (w'.heap.size = w.heap.size + 1) → Below w.heap.size w w' → Boxed w' g t v → KL P ops Q rest n ((d, .pointer (some ⟨g, 0, none⟩)) :: L) w') : KL P ops Q (o :: rest) n L w := ⟨fun a k => by
  refine wpList_plain hg fun K hK => ?_
  obtain ⟨it, hi, hz'⟩ : ∃ it, P.info? t = some it ∧ it.zero = some v := by
    cases hi : P.info? t with
    | none => simp [hi] at hz
    | some it => exact ⟨it, rfl, by simpa [hi] using hz⟩
  have hr : (execOp a.eval o).run P w = .ok (.value (.pointer (some ⟨w.heap.size, 0, none⟩))) (w.alloc (.cells #[v] t)) := by
    have h0 : (zeroValue t).run P w = .ok v w := by
      simp [zeroValue, typeInfo, Sem.run_bind, hi, hz', go_sem]
    simp [execOp, ho, Instr.alloc, Sem.run_bind, Sem.run_pure, newVar, newRow, hv, h0]
  unfold Oper.wp
  rw [hr]
  exact hK _ _ (kl_back k hd hn (h _ _ (by show _ = _; rfl) (by show _ = _; simp) ((Below.refl _ _).alloc (Nat.le_refl _) _) (Boxed.new w t v)))⟩
theorem kl_makeFunc {d : Nat} {f : Fn} {xs : Array Operand} (hd : o.dst = some d) (hg : o.guard = none) (ho : o.op = .makeFunc f #[] xs) (hk : (xs.toList.all (okx L) && Nat.blt d n) = true) (hr : (execOp (ev L) o).run P w = .ok (.value (.func f #[] (xs.map (ev L)))) w)
    (h : KL P ops Q rest n ((d, .func f #[] (xs.map (ev L))) :: L) w) : KL P ops Q (o :: rest) n L w :=
  kl_run hd hg (by simp only [Bool.and_eq_true] at hk; simp [ho, okop, hk]) hr h
end
end Go.Proofs.Ytkncomkncfcecaa
