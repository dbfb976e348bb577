/- Entries of slots as memory: both packages' structs. -/
import Derived.Test.YtkncomkncfcecaaSlotP
import Derived.Test.YtkncomkncfcecaaLay
import Derived.Test.YtkncomkncfcecaaKnF
import Derived.Test.YtkncomkncfcecaaKnOps
set_option linter.unusedVariables false
set_option linter.unusedSimpArgs false
namespace Go.Proofs.Ytkncomkncfcecaa
open Go.RowKit
def I64 (x : Int) : Prop := -9223372036854775808 ≤ x ∧ x ≤ 9223372036854775807
theorem GoodE.i64 {e : EntS} (h : GoodE e) : I64 e.seq ∧ I64 e.slot := by have := h.seq; have := h.slot; unfold I64; omega
theorem ent_0 (e : EntS) : (entC e)[0]? = some (.int .i64 e.seq) := rfl
theorem ent_1 (e : EntS) : (entC e)[1]? = some (.int .i64 e.slot) := rfl
theorem ent_sum (e : EntS) (k : Nat) : (entC e)[2 + k]? = (bv e.sum)[k]? := by rw [Nat.add_comm]; rfl
theorem ent_one (e : EntS) : (entC e).toArray.all (·.oneCell') = true := by
  rw [← Array.all_toList]
  simp only [entC, List.all_cons, Bool.and_eq_true]
  exact ⟨rfl, rfl, List.all_eq_true.2 (bv_one e.sum)⟩
theorem ent_one' (e : EntS) : ∀ u ∈ entC e, u.oneCell' = true := fun u hu => by
  have := ent_one e
  rw [← Array.all_toList] at this
  exact List.all_eq_true.1 this u hu
theorem ent_set (q s : Int) (h : List UInt8) (k : Nat) (x : UInt8) : (entC ⟨q, s, h⟩).set (2 + k) (bval x) = entC ⟨q, s, h.set k x⟩ := by
  rw [Nat.add_comm]
  show .int .i64 q :: .int .i64 s :: (bv h).set k _ = _
  rw [bv_set']
  rfl
theorem cells_int (k : IntKind) (x : Int) : (Value.int k x).cells = [Value.int k x].toArray := rfl
theorem hash_row (hs : List UInt8) (k : Nat) (x : UInt8) (hl : hs.length = k) (hk : k < 32) : (hs ++ List.replicate (32 - k) 0).set k x = (hs ++ [x]) ++ List.replicate (32 - (k + 1)) 0 := by
  subst hl
  rw [List.set_append_right _ _ (Nat.le_refl _), Nat.sub_self, show 32 - hs.length = (32 - (hs.length + 1)) + 1 by omega, List.replicate_succ, List.set_cons_zero, List.append_assoc]
  rfl
theorem hash_cell (hs : List UInt8) (k : Nat) (hl : hs.length = k) (hk : k < 32) : (bv (hs ++ List.replicate (32 - k) 0))[k]? = some (bval 0) := by
  subst hl
  unfold bv
  rw [List.getElem?_map, List.getElem?_append_right (Nat.le_refl _), Nat.sub_self, show 32 - hs.length = (32 - (hs.length + 1)) + 1 by omega, List.replicate_succ]
  rfl
theorem hashSize (h : List UInt8) (hl : h.length = 32) : (Try.prog.info? 29).map (·.size) = some (bv h).length := by
  rw [length_bv, hl]; kernel_rfl
theorem entZero : (Try.prog.info? 31).bind (·.zero) = some (.agg (entC entZ).toArray) := by kernel_rfl
theorem entSize : (Try.prog.info? 31).map (·.size) = some 34 := by kernel_rfl
theorem entInfo (e : EntS) (h : e.sum.length = 32) : (Try.prog.info? 31).map (·.size) = some (entC e).toArray.size := by rw [entSize]; simp [entC_len e h]
theorem entInfoL (e : EntS) (h : e.sum.length = 32) : (Try.prog.info? 31).map (·.size) = some (entC e).length := by rw [entSize]; simp [entC_len e h]
theorem entUnder : ∃ fs, Try.prog.underlying 31 = some (.struct fs) ∧ fs.toList.mapM (fun f => (Try.prog.info? f.type).map fun i => (f.offset, i.size)) = some [(0, 1), (1, 1), (2, 32)] := ⟨_, Try.underlying31, by kernel_rfl⟩
theorem entBuilt0 : Try.prog.built 31 [] = some (entC entZ).toArray := by
  obtain ⟨fs, hu, hp⟩ := entUnder
  rw [built_struct entZero hu hp, fill_nil]
theorem entBuiltF : Try.prog.built 31 [(1, .int .i64 2)] = some (entC entF).toArray := by
  obtain ⟨fs, hu, hp⟩ := entUnder
  rw [built_struct entZero hu hp]
  have hz : (entC entZ).length = 34 := entC_len _ z32_len
  have h1 := fill_step ([(0, 1), (1, 1), (2, 32)].toArray[·]?) [.int .i64 0] (.int .i64 0 :: bv z32) 1 _ _ (cells_int .i64 2) rfl (by simp) []
  rw [fill_nil] at h1
  exact h1
theorem entBuilt2 (q s : Int) : Try.prog.built 31 [(0, .int .i64 q), (1, .int .i64 s)] = some (entC ⟨q, s, z32⟩).toArray := by
  obtain ⟨fs, hu, hp⟩ := entUnder
  rw [built_struct entZero hu hp]
  have h1 := fill_step ([(0, 1), (1, 1), (2, 32)].toArray[·]?) [] (entC entZ) 0 _ _ (cells_int .i64 q) rfl (by simp [entC]) [(1, .int .i64 s)]
  have h2 := fill_step ([(0, 1), (1, 1), (2, 32)].toArray[·]?) [.int .i64 q] (.int .i64 0 :: bv z32) 1 _ _ (cells_int .i64 s) rfl (by simp) []
  rw [fill_nil] at h2
  exact h1.trans h2
theorem entBuilt3 (q s : Int) (h : List UInt8) (hl : h.length = 32) : Try.prog.built 31 [(0, .int .i64 q), (1, .int .i64 s), (2, .agg (bv h).toArray)] = some (entC ⟨q, s, h⟩).toArray := by
  obtain ⟨fs, hu, hp⟩ := entUnder
  rw [built_struct entZero hu hp]
  have hz : (bv z32).length = 32 := by rw [length_bv, z32_len]
  have hh : (bv h).length = 32 := by rw [length_bv, hl]
  have h1 := fill_step ([(0, 1), (1, 1), (2, 32)].toArray[·]?) [] (entC entZ) 0 _ _ (cells_int .i64 q) rfl (by simp [entC]) [(1, .int .i64 s), (2, .agg (bv h).toArray)]
  have h2 := fill_step ([(0, 1), (1, 1), (2, 32)].toArray[·]?) [.int .i64 q] (.int .i64 0 :: bv z32) 1 _ _ (cells_int .i64 s) rfl (by simp) [(2, .agg (bv h).toArray)]
  have h3 := fill_step ([(0, 1), (1, 1), (2, 32)].toArray[·]?) [.int .i64 q, .int .i64 s] (bv z32) 2 (.agg (bv h).toArray) (bv h) rfl (by rw [hh]; rfl) (by rw [hh, hz]; exact Nat.le_refl _) []
  rw [fill_nil] at h3
  refine h1.trans (h2.trans (h3.trans ?_))
  rw [List.drop_of_length_le (by rw [hh, hz]; exact Nat.le_refl _), List.append_nil]
  rfl
end Go.Proofs.Ytkncomkncfcecaa
