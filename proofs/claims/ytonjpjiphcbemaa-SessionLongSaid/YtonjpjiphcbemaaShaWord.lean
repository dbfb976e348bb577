/- A word turned to the right: the code's and the document's. -/
import Derived.Test.YtonjpjiphcbemaaChecked
import Derived.Test.YtonjpjiphcbemaaArr
namespace Go.Proofs.Ytonjpjiphcbemaa
open Go.RowKit
theorem ror_code (x : W32) (n m : Nat) (hm : m + n = 32) : bits .or .u32 ((x.toNat : Int) / 2 ^ n) ((x.toNat : Int) * 2 ^ m % 4294967296) = ((ror x n).toNat : Int) := by
  have h1 : ((x.toNat : Int) / 2 ^ n) = ((x.toNat / 2 ^ n : Nat) : Int) := by simp
  have h2 : ((x.toNat : Int) * 2 ^ m % 4294967296) = ((x.toNat * 2 ^ m % 4294967296 : Nat) : Int) := by simp
  have hx := x.isLt
  rw [h1, h2, u32_or_nat _ _ (Nat.lt_of_le_of_lt (Nat.div_le_self _ _) hx) (Nat.mod_lt _ (by omega))]
  unfold ror
  rw [BitVec.toNat_or, BitVec.toNat_ushiftRight, BitVec.toNat_shiftLeft, Nat.shiftRight_eq_div_pow, Nat.shiftLeft_eq, show 32 - n = m by omega]
theorem ror_code2 (x : W32) (n m : Nat) (hm : m + n = 32) : bits .or .u32 ((x.toNat : Int) * 2 ^ m % 4294967296) ((x.toNat : Int) / 2 ^ n) = ((ror x n).toNat : Int) := by
  rw [← ror_code x n m hm]
  have h1 : ((x.toNat : Int) / 2 ^ n) = ((x.toNat / 2 ^ n : Nat) : Int) := by simp
  have h2 : ((x.toNat : Int) * 2 ^ m % 4294967296) = ((x.toNat * 2 ^ m % 4294967296 : Nat) : Int) := by simp
  have hx := x.isLt
  rw [h1, h2, u32_or_nat _ _ (Nat.lt_of_le_of_lt (Nat.div_le_self _ _) hx) (Nat.mod_lt _ (by omega)), u32_or_nat _ _ (Nat.mod_lt _ (by omega)) (Nat.lt_of_le_of_lt (Nat.div_le_self _ _) hx), Nat.or_comm]
theorem neg31 : ∀ n : Fin 32, 0 < n.1 → bits .and .u64 (IntKind.u64.wrap (-(n.1 : Int))) 31 = ((32 - n.1 : Nat) : Int) := by decide
theorem rotl_any (x : W32) (n m : Nat) (hn : 0 < n) (hn2 : n < 32) (hm : m + n = 32) (w : World) :
    Calls Try.prog 75 #[.int .u32 (x.toNat : Int), .int .i64 (-(n : Int))] w fun e w' => e = .returned (.int .u32 ((ror x n).toNat : Int)) ∧ w = w' := by
  have he := neg31 ⟨n, hn2⟩ hn
  dsimp only at he
  rw [show 32 - n = m by omega] at he
  have hf := ror_code2 x n m hm
  have HF := Lib.hid hf
  have hm2 : (m : Int) < 64 := by omega
  have hmn : (32 : Int) - m = n := by omega
  clear hf
  go_enter Try.func75, Try.ntmps75
  go_wp2_with fail
  go_ret
  rw [← HF.out]
  exact ⟨rfl, rfl⟩
theorem right_any (x : W32) (n : Nat) (hn : 0 < n) (hn2 : n < 32) (w : World) :
    Calls Try.prog 74 #[.int .u32 (x.toNat : Int), .int .i64 (n : Int)] w fun e w' => e = .returned (.int .u32 ((ror x n).toNat : Int)) ∧ w = w' := by
  go_enter Try.func74, Try.ntmps74
  go_wp2_with (go_at_call 75; refine Calls.mono (rotl_any x n (32 - n) hn hn2 (by omega) _) ?_; rintro e w1 ⟨rfl, rfl⟩)
  go_ret
  exact ⟨rfl, rfl⟩
theorem rot_any (x : W32) (n : Nat) (hn : 0 < n) (hn2 : n < 32) (w : World) :
    Calls Try.prog 35 #[.int .u32 (x.toNat : Int), .int .u64 (n : Int)] w fun e w' => e = .returned (.int .u32 ((ror x n).toNat : Int)) ∧ w = w' := by
  have hf := ror_code x n (32 - n) (by omega)
  have HF := Lib.hid hf
  clear hf
  go_enter Try.func35, Try.ntmps35
  go_wp2_with fail
  go_ret
  exact ⟨ret_int HF.out, rfl⟩
theorem right_st (x : W32) (N : Int) (n : Nat) (hN : N = n) (hn : 0 < n) (hn2 : n < 32) (w : World) :
    Calls Try.prog 74 #[.int .u32 (x.toNat : Int), .int .i64 N] w fun e w' => e = .returned (.int .u32 ((ror x n).toNat : Int)) ∧ w' = w := by
  subst hN
  exact (right_any x n hn hn2 w).mono fun _ _ h => ⟨h.1, h.2.symm⟩
theorem rot_st (x : W32) (N : Int) (n : Nat) (hN : N = n) (hn : 0 < n) (hn2 : n < 32) (w : World) :
    Calls Try.prog 35 #[.int .u32 (x.toNat : Int), .int .u64 N] w fun e w' => e = .returned (.int .u32 ((ror x n).toNat : Int)) ∧ w' = w := by
  subst hN
  exact (rot_any x n hn hn2 w).mono fun _ _ h => ⟨h.1, h.2.symm⟩
theorem keysInfo : (Try.prog.info? 76).map (·.size) = some 64 := by kernel_rfl
theorem keysUnder : Try.prog.underlying 76 = some (.array 64 75) := by kernel_rfl
def z64 : List W32 := List.replicate 64 0
theorem length_z64 : z64.length = 64 := List.length_replicate
theorem z64Zero : (Try.prog.info? 76).bind (·.zero) = some (.agg (wv z64).toArray) := zero_of z64 (by kernel_rfl)
theorem size_wv (l : List W32) : (wv l).toArray.size = l.length := by simp [wv]
theorem length_ks : ks.length = 64 := by kernel_rfl
theorem keys_any (w : World) : Calls Try.prog 73 #[] w fun e w' => e = .returned (.agg (wv ks).toArray) ∧ Below w.heap.size w w' := by
  go_enter Try.func73, Try.ntmps73
  go_wp2_with (first
    | (with_reducible refine wpList_alloc_row rfl 76 rfl z64Zero ?_)
    | (with_reducible refine wpList_table rfl 76 _ ks rfl (by kernel_rfl) ?_)
    | (refine wpList_store_row rfl 76 _ _ rfl w.heap.size (wv ks).toArray rfl rfl 76 (wv z64).toArray ?_ keysInfo ?_ (wv_one _) ?_))
  · exact heap_alloc_new _ _
  · kernel_rfl
  · exact bodyPost_ret (v := .agg (wv ks).toArray) (results_cell_row rfl _ _ w.heap.size 76 (wv ks).toArray (0, 0) _ rfl (setRow_block (heap_alloc_new _ _)) keysUnder rfl keysInfo) rfl ⟨rfl, below_setRow ((Below.refl _ _).alloc (Nat.le_refl _) _) (Nat.le_refl _) _⟩
theorem words_any (w : World) : Calls Try.prog 34 #[] w fun e w' => e = .returned (.agg (wv ks).toArray) ∧ Below w.heap.size w w' := by
  go_enter Try.func34, Try.ntmps34
  go_wp2_with (first
    | (with_reducible refine wpList_alloc_row rfl 76 rfl z64Zero ?_)
    | (with_reducible refine wpList_table rfl 76 _ ks rfl (by kernel_rfl) ?_)
    | (refine wpList_store_row rfl 76 _ _ rfl w.heap.size (wv ks).toArray rfl rfl 76 (wv z64).toArray ?_ keysInfo ?_ (wv_one _) ?_))
  · exact heap_alloc_new _ _
  · kernel_rfl
  · exact bodyPost_ret (v := .agg (wv ks).toArray) (results_cell_row rfl _ _ w.heap.size 76 (wv ks).toArray (0, 0) _ rfl (setRow_block (heap_alloc_new _ _)) keysUnder rfl keysInfo) rfl ⟨rfl, below_setRow ((Below.refl _ _).alloc (Nat.le_refl _) _) (Nat.le_refl _) _⟩
theorem stInfo : (Try.prog.info? 113).map (·.size) = some 8 := by kernel_rfl
theorem stUnder : Try.prog.underlying 113 = some (.array 8 75) := by kernel_rfl
def z8 : List W32 := List.replicate 8 0
theorem z8Zero : (Try.prog.info? 113).bind (·.zero) = some (.agg (wv z8).toArray) := zero_of z8 (by kernel_rfl)
theorem begun_any (w : World) : Calls Try.prog 64 #[] w fun e w' => e = .returned (.agg (wv st0.words).toArray) ∧ Below w.heap.size w w' := by
  go_enter Try.func64, Try.ntmps64
  go_wp2_with (first
    | (with_reducible refine wpList_alloc_row rfl 113 rfl z8Zero ?_)
    | (with_reducible refine wpList_table rfl 113 _ st0.words rfl (by kernel_rfl) ?_)
    | (refine wpList_store_row rfl 113 _ _ rfl w.heap.size (wv st0.words).toArray rfl rfl 113 (wv z8).toArray ?_ stInfo ?_ (wv_one _) ?_))
  · exact heap_alloc_new _ _
  · kernel_rfl
  · exact bodyPost_ret (v := .agg (wv st0.words).toArray) (results_cell_row rfl _ _ w.heap.size 113 (wv st0.words).toArray (0, 0) _ rfl (setRow_block (heap_alloc_new _ _)) stUnder rfl stInfo) rfl ⟨rfl, below_setRow ((Below.refl _ _).alloc (Nat.le_refl _) _) (Nat.le_refl _) _⟩
end Go.Proofs.Ytonjpjiphcbemaa
