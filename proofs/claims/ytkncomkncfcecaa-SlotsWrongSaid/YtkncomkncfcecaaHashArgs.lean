/- An argument of 32 bytes by value, opened. -/
import Derived.Test.YtkncomkncfcecaaArgs
import Derived.OpenShut
import Derived.Deep.Slices
import Derived.Deep.Matrix
set_option linter.unusedVariables false
set_option linter.unusedSimpArgs false
namespace Go.Proofs.Ytkncomkncfcecaa
open Go.ChangeShapes Go.WideShapes Go.ChangeAt Go.RowKit Go.Deep
section
variable {H : Type} {enc : TypeId × Value → H} {P : Program} {W : World}
theorem open_hash {t e : TypeId} {v : Value} {d : DataW H} {p : List MemPlace} {h63 : Bool} (ht : P.underlying t = some (.array 32 e)) (he : P.underlying e = some (.int .u8)) (ct : P.cellsOf t = 32) (ce : P.cellsOf e = 1)
    (h : DataW.Trod enc P W 0 (fun _ => true) h63 t v d p) : ∃ l : List UInt8, v = .agg (bv l).toArray ∧ l.length = 32 := by
  obtain ⟨fuel, hf⟩ := h
  obtain ⟨xs, m, _, _, hlen, hxl, hx⟩ := DataW.trod_array ht hf
  rw [ct] at hlen
  have hrow : ∀ i, i < 32 → ∃ x : UInt8, v.cells[i]? = some (.int .u8 (x.toNat : Int)) := by
    intro i hi
    have h1 := hx i hi
    rw [ce, List.getElem?_eq_getElem (by omega), Nat.mul_one] at h1
    obtain ⟨z, hz, _, hwf⟩ := DataW.trod_int he h1
    obtain ⟨u, rfl⟩ := u8_value hwf
    refine ⟨u, ?_⟩
    have h2 := congrArg (fun l : List Value => l[0]?) hz
    simp only [List.getElem?_take, List.getElem?_drop, Nat.lt_one_iff, if_true, Nat.add_zero, List.getElem?_cons_zero] at h2
    simpa using h2
  haveI : Inhabited UInt8 := ⟨0⟩
  obtain ⟨F, hF⟩ := choose_lt hrow
  have hcs : v.cells = (bv ((List.range 32).map F)).toArray := by
    apply Array.toList_inj.1
    apply List.ext_getElem?
    intro i
    rcases Nat.lt_or_ge i 32 with h | h
    · have := hF i h
      rw [Array.getElem?_toList, this, List.toList_toArray, bv_get _ i (by simpa using h)]
      simp
    · rw [List.getElem?_eq_none (by simpa using (by omega : v.cells.toList.length ≤ i)), List.getElem?_eq_none (by simp [length_bv]; omega)]
  refine ⟨(List.range 32).map F, ?_, by simp⟩
  have hsz : v.cells.size = 32 := by simpa using hlen
  cases v with
  | agg cs => simp only [Value.cells] at hcs; rw [hcs]
  | _ => simp [Value.cells] at hsz
end
end Go.Proofs.Ytkncomkncfcecaa
