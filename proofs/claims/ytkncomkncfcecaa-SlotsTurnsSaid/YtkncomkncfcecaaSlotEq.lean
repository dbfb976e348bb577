/- == on entries by value. -/
import Derived.Test.YtkncomkncfcecaaSlotMem
import Derived.Test.YtkncomkncfcecaaRegionL
import Derived.DeepKeys
set_option linter.unusedVariables false
set_option linter.unusedSimpArgs false
namespace Go.Proofs.Ytkncomkncfcecaa
open Go.RowKit
def eqE (a b : EntS) : Bool := a.seq == b.seq && (a.slot == b.slot && a.sum == b.sum)
theorem eqE_seq (a b : EntS) (h : a.seq ≠ b.seq) : eqE a b = false := by simp [eqE, h]
theorem fieldsOf_of {P : Program} {t : TypeId} {fs : Array Field} (h : P.underlying t = some (.struct fs)) : P.fieldsOf t = fs := by unfold Program.fieldsOf; rw [h]
theorem sizeHash (w : World) : (Go.sizeOf 29).run Try.prog w = .ok 32 w := by
  have h := hashSize z32 z32_len
  rw [length_bv, z32_len] at h
  cases hi : Try.prog.info? 29 with
  | none => rw [hi] at h; cases h
  | some i =>
    rw [hi] at h
    have : i.size = 32 := by simpa using h
    simp [Go.sizeOf, typeInfo, hi, this]
theorem part_0 (w : World) (a : EntS) : (part 3 (entC a).toArray 0).run Try.prog w = .ok (.int .i64 a.seq) w := by
  simp [part, isAgg, run_underlying Try.underlying3, entC]
theorem part_1 (w : World) (a : EntS) : (part 3 (entC a).toArray 1).run Try.prog w = .ok (.int .i64 a.slot) w := by
  simp [part, isAgg, run_underlying Try.underlying3, entC]
theorem part_2 (w : World) (a : EntS) (h : a.sum.length = 32) : (part 29 (entC a).toArray 2).run Try.prog w = .ok (.agg (bv a.sum).toArray) w := by
  have he : (entC a).toArray.extract 2 (2 + 32) = (bv a.sum).toArray := by
    apply Array.toList_inj.1
    rw [Array.toList_extract]
    show List.extract (.int .i64 a.seq :: .int .i64 a.slot :: bv a.sum) 2 34 = bv a.sum
    simp only [List.extract, List.drop_succ_cons, List.drop_zero]
    rw [List.take_of_length_le (by rw [length_bv, h]; omega)]
  simp only [part, isAgg, run_underlying Try.underlying29, sizeHash, Sem.run_bind, Sem.run_pure, Result.andThen_ok, Sem.run_ite, if_true, he]
set_option maxRecDepth 100000 in
theorem eqEnt (w : World) (a b : EntS) (ha : a.sum.length = 32) (hb : b.sum.length = 32) : (Op.equalIn 10000 31 (.agg (entC a).toArray) (.agg (entC b).toArray)).run Try.prog w = .ok (eqE a b) w := by
  have hf := fieldsOf_of Try.underlying31
  have hu : Try.prog.underlying 31 = some (.struct (Try.prog.fieldsOf 31)) := by rw [hf]; exact Try.underlying31
  have e2 : ∀ W, (Op.equalIn 9999 29 (.agg (bv a.sum).toArray) (.agg (bv b.sum).toArray)).run Try.prog W = .ok (a.sum == b.sum) W := fun W => run_equalIn_bytes W 9997 29 5 32 hashUnder Try.underlying5 (fun _ => rfl) a.sum b.sum ha hb
  rw [run_equalIn_struct w 9999 31 _ _ hu (by kernel_rfl), hf]
  have e0 := fun W (x y : Int) => run_equalIn_int (P := Try.prog) W 9998 3 .i64 .i64 x y Try.underlying3
  simp only [Op.eqFields, Sem.run_bind, Sem.run_ite, part_0, part_1, part_2 _ _ ha, part_2 _ _ hb, Result.andThen_ok, e0, e2]
  unfold eqE
  cases a.seq == b.seq <;> cases a.slot == b.slot <;> cases a.sum == b.sum <;> simp
end Go.Proofs.Ytkncomkncfcecaa
