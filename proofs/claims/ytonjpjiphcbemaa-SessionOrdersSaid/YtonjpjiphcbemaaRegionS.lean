/- A region that draws its order: an operation that stores. No program in sight. -/
import Derived.Test.YtonjpjiphcbemaaRegionL
namespace Go.Proofs.Ytonjpjiphcbemaa
open Go.RowKit
section
variable {P : Program} {ops : List Oper} {Q : Exit → Act → World → Prop} {a : Act} {Ss : List SPred} {R : (Nat → Bool) → World → Prop}
theorem vl_store {src : List (Nat × Option Nat)} {i : Nat} {o : Oper} (hw : ∀ L A W, Src (SLL Ss L) a A W src → Region.wanted o (yielded ops.toArray A.tmps) = true)
    (h : ∀ L A W, Closed ops L → L i = false → (∀ j, bindsTo o j = true → L j = true) → R L W → Src (SLL Ss L) a A W src →
      ∃ W', (execOp A.eval o).run P W = .ok .skip W' ∧ R (upd L i) W' ∧ Pres L i W W' 0 Ss ∧ SLL Ss (upd L i) i W' undef) : VL1 P Q a (SLL Ss) R ops src i o := by
  intro L A W K hd hc hl hpre hR0 hs hK
  rw [if_pos (hw L A W hs)]
  obtain ⟨W', hr, hR', hp, hS⟩ := h L A W hc hl hpre hR0 hs
  unfold Oper.wp
  rw [hr]
  exact hK undef W' hR' (fun j u hne hlj hsj => hp.get j u (by omega) (by rw [Nat.zero_add]; exact hlj) hsj) hS
end
theorem pres_true {L : Nat → Bool} {i k : Nat} {W W' : World} : k ≠ i → L k = true → ∀ u, (fun _ _ _ => True : SPred) L W u → (fun _ _ _ => True : SPred) (upd L i) W' u := fun _ _ _ _ => trivial
theorem mono_trueL : MonoL (fun _ _ _ => True) := fun _ _ _ _ _ _ _ => trivial
end Go.Proofs.Ytonjpjiphcbemaa
