/- Literals of structs and arrays with parts of whatever cells: laid part by part. Results of two kinds. No program in sight. A word turned to the right: the code's and the document's. The words of a piece. -/
import Derived.Test.YtkgenkkcgegcbaaKnOps
import Derived.Test.YtkgenkkcgegcbaaChecked
import Derived.Test.YtkgenkkcgegcbaaArr
import Derived.Test.YtkgenkkcgegcbaaRegion
import Derived.StillTailTactics
import Derived.Deep.QuietTactic
import Derived.BigQuiet
import Derived.Deep.DeepCutAuto
import Derived.Deep.CutBlock
namespace Go.Proofs.Ytkgenkkcgegcbaa
open Go.RowKit

theorem below_atK {w W : World} (hR : Below w.heap.size w W) {g : Nat} {x : Obj} (h : w.heap[g]? = some x) : W.heap[g]? = some x := by rw [hR.block _ (Array.getElem?_eq_some_iff.1 h).1]; exact h
theorem lt_ofK {w : World} {g : Nat} {x : Obj} (h : w.heap[g]? = some x) : g < w.heap.size := (Array.getElem?_eq_some_iff.1 h).1
theorem fold_part (off : Nat) (xs : List Value) : ∀ (k : Nat) (l : List Value), off + k + xs.length ≤ l.length →
    (xs.zipIdx k).foldl (fun (cs : Array Value) (p : Value × Nat) => cs.setIfInBounds (off + p.2) p.1) l.toArray = (l.take (off + k) ++ xs ++ l.drop (off + k + xs.length)).toArray := by
  induction xs with
  | nil => intro k l h; simp
  | cons x xs ih =>
    intro k l h
    simp only [List.length_cons] at h
    rw [List.zipIdx_cons, List.foldl_cons]
    simp only [List.setIfInBounds_toArray]
    rw [ih (k + 1) (l.set (off + k) x) (by rw [List.length_set]; omega)]
    congr 1
    rw [List.drop_set_of_lt (by omega), show off + (k + 1) = off + k + 1 by omega, List.take_succ_eq_append_getElem (by rw [List.length_set]; omega), List.getElem_set_self, List.take_set_of_le (by omega)]
    simp [Nat.add_assoc, Nat.add_comm 1 xs.length]
/-- one part behind those that are laid -/
theorem fill_step (place : Nat → Option (Nat × Nat)) (pre rest : List Value) (i : Nat) (v : Value) (xs : List Value) (hv : v.cells = xs.toArray) (hp : place i = some (pre.length, xs.length)) (hl : xs.length ≤ rest.length) (ps : List (Nat × Value)) :
    Instr.fill place (pre ++ rest).toArray ((i, v) :: ps) = Instr.fill place ((pre ++ xs) ++ rest.drop xs.length).toArray ps := by
  rw [Instr.fill, hp]
  simp only [hv, List.size_toArray, List.length_append]
  rw [if_neg (by simp; omega)]
  congr 1
  rw [← Array.foldl_toList, Array.toList_zipIdx]
  have := fold_part pre.length xs 0 (pre ++ rest) (by rw [List.length_append]; omega)
  rw [this]
  simp [List.drop_append]
theorem fill_nil (place : Nat → Option (Nat × Nat)) (cs : Array Value) : Instr.fill place cs [] = some cs := rfl
theorem built_struct {P : Program} {t : TypeId} {fields : Array Field} {z : List Value} {places : List (Nat × Nat)} (hz : (P.info? t).bind (·.zero) = some (.agg z.toArray)) (hu : P.underlying t = some (.struct fields))
    (hp : fields.toList.mapM (fun f => (P.info? f.type).map fun i => (f.offset, i.size)) = some places) (parts : List (Nat × Value)) : P.built t parts = Instr.fill (places.toArray[·]?) z.toArray parts := by
  unfold Program.built
  cases hi : P.info? t with
  | none => rw [hi] at hz; simp at hz
  | some it =>
    rw [hi] at hz
    simp only [Option.bind_some] at hz
    simp only [hu, hz, hp]
    rfl
/-- results: a variable of a struct's or an array's type, and a slot -/
theorem results_row_tmp {P : Program} {fn : Func} {p t : Tmp} {ty : TypeId} (h : fn.results = #[.cell p ty, .tmp t]) (tmps : Array Value) (w : World) (g : Nat) (t' : TypeId) (cs : Array Value) (fr : Nat × Nat) (d : TypeDesc) (v : Value)
    (hp : tmps.getD p undef = .pointer (some ⟨g, 0, none⟩)) (hv : tmps.getD t undef = v) (hg : w.heap[g]? = some (.cells cs t' fr))
    (hu : P.underlying ty = some d) (hd : d.isRow = true) (hi : (P.info? ty).map (·.size) = some cs.size) :
    (results fn tmps).run P w = .ok (.tuple #[.agg cs, v]) w := by
  have hp' : tmps[p]?.getD undef = .pointer (some ⟨g, 0, none⟩) := by simpa using hp
  have hv' : tmps[t]?.getD undef = v := by simpa using hv
  have hr := run_loadVar_row w g t' ty cs fr d hg hu (by cases d <;> simp_all) hi
  simp [results, h, hp', hv', asAddr, hr]
theorem setRow_alloc (w : World) (old cs : Array Value) (t : TypeId) : (w.alloc (.cells old t)).setRow w.heap.size cs = w.alloc (.cells cs t) := by
  unfold World.setRow World.alloc
  congr 1
  apply Array.ext
  · simp
  · intro i h1 h2
    simp only [Array.getElem_modify, Array.getElem_push]
    by_cases hi : w.heap.size = i
    · simp [hi]
    · simp only [hi, if_false]
      split
      · rfl
      · rename_i h; simp at h1; omega
/-- a variable of a struct's or an array's type, with a value -/
theorem kl_var_row {P : Program} {Q : Exit → Act → World → Prop} {N : Nat} {L : Slots} {w : World} {ops : Array Oper} {rest : List Oper} {o o' : Oper} {d y : Nat} {t : TypeId} {z cells : Array Value} (hz : (P.info? t).bind (·.zero) = some (.agg z)) (hi : (P.info? t).map (·.size) = some cells.size) (hs : z.size = cells.size) (hwv : cells.all (·.oneCell') = true)
    (hd : o.dst = some d) (hg : o.guard = none) (ho : o.op = .alloc t) (hd' : o'.dst = none) (hg' : o'.guard = none) (ho' : o'.op = .store t (.tmp d) (.tmp y)) (hy : lk L y = some (.agg cells)) (hne : (d == y) = false) (hn : Nat.blt d N = true)
    (h : KL P ops Q rest N ((d, .pointer (some ⟨w.heap.size, 0, none⟩)) :: L) (w.alloc (.cells cells t))) : KL P ops Q (o :: o' :: rest) N L w := by
  refine kl_alloc_row t hz hd hg ho hn ?_
  refine kl_store_row t w.heap.size cells t z (heap_alloc_new _ _) hi hs hwv hd' hg' ho' (lk_hit _ _ _) (by rw [lk_miss _ _ _ _ hne]; exact hy) ?_
  rw [setRow_alloc]
  exact h
/-- a slice of one element of whatever cells -/
theorem run_buildSlice_row {P : Program} {t e : TypeId} {z cs : List Value} {size : Nat} (ht : P.underlying t = some (.slice e)) (hz : (P.info? e).bind (·.zero) = some (.agg z.toArray)) (hs : (P.info? e).map (·.size) = some size) (hl : cs.length = size) (h0 : 0 < size) (hm : size ≤ 16777216) (w : World) :
    (Instr.buildSlice t 1 #[(0, .agg cs.toArray)]).run P w = .ok (.slice (some ⟨w.heap.size, 0, none⟩) 1 1) (w.alloc (.cells cs.toArray e)) := by
  cases hi : P.info? e with
  | none => rw [hi] at hs; simp at hs
  | some it =>
    rw [hi] at hs hz
    simp only [Option.map_some, Option.some.injEq, Option.bind_some] at hs hz
    have hsz : (sizeOf e).run P w = .ok size w := by simp [sizeOf, typeInfo, hi, hs]
    have hzz : (zeroValue e).run P w = .ok (.agg z.toArray) w := by simp [zeroValue, typeInfo, hi, hz]
    obtain ⟨l0, hl0, hl1⟩ : ∃ l0 : List Value, ((Array.range size).map ((Value.agg z.toArray).cells[· % (Value.agg z.toArray).cells.size]!)) = l0.toArray ∧ l0.length = size := ⟨_, (Array.toArray_toList).symm, by simp⟩
    have hf := fill_step (fun i => some (i * size, size)) [] l0 0 (.agg cs.toArray) cs rfl (by simp [hl]) (by omega) []
    rw [fill_nil, List.nil_append, List.nil_append, List.drop_of_length_le (by omega), List.append_nil] at hf
    have n1 : ¬ (16777216 < size) := by omega
    have n2 : ¬ (size = 0) := by omega
    simp only [Instr.buildSlice, Sem.run_bind, run_underlying ht, Result.andThen_ok, hsz, Nat.one_mul, gt_iff_lt, Nat.reducePow, n1, n2, if_false, Sem.run_pure, hzz, hl0, hf]
    simp [newRow]
theorem kl_buildSlice_row {P : Program} {Q : Exit → Act → World → Prop} {N : Nat} {L : Slots} {w : World} {ops : Array Oper} {rest : List Oper} {o : Oper} {d x : Nat} {t e : TypeId} {z cs : List Value} {size : Nat}
    (ht : P.underlying t = some (.slice e)) (hz : (P.info? e).bind (·.zero) = some (.agg z.toArray)) (hs : (P.info? e).map (·.size) = some size) (hl : cs.length = size) (h0 : 0 < size) (hm : size ≤ 16777216)
    (hd : o.dst = some d) (hg : o.guard = none) (ho : o.op = .buildSlice t 1 #[(0, .tmp x)]) (hx : lk L x = some (.agg cs.toArray)) (hn : Nat.blt d N = true)
    (h : KL P ops Q rest N ((d, .slice (some ⟨w.heap.size, 0, none⟩) 1 1) :: L) (w.alloc (.cells cs.toArray e))) : KL P ops Q (o :: rest) N L w := by
  refine kl_run hd hg ?_ ?_ h
  · simp [ho, okop, okx, hx, hn]
  · have he : ev L (.tmp x) = .agg cs.toArray := by simp [ev, hx]
    have hr := run_buildSlice_row ht hz hs hl h0 hm w
    simp [execOp, ho, he, hr, Sem.run_bind, Sem.run_pure]
end Go.Proofs.Ytkgenkkcgegcbaa
namespace Go.Proofs.Ytkgenkkcgegcbaa
open Go.RowKit
theorem ror_code (x : W32) (n m : Nat) (hm : m + n = 32) : bits .or .u32 ((x.toNat : Int) / 2 ^ n) ((x.toNat : Int) * 2 ^ m % 4294967296) = ((ror x n).toNat : Int) := by
  have h1 : ((x.toNat : Int) / 2 ^ n) = ((x.toNat / 2 ^ n : Nat) : Int) := by simp
  have h2 : ((x.toNat : Int) * 2 ^ m % 4294967296) = ((x.toNat * 2 ^ m % 4294967296 : Nat) : Int) := by simp
  have hx := x.isLt
  rw [h1, h2, u32_or_nat _ _ (Nat.lt_of_le_of_lt (Nat.div_le_self _ _) hx) (Nat.mod_lt _ (by omega))]
  unfold ror
  rw [BitVec.toNat_or, BitVec.toNat_ushiftRight, BitVec.toNat_shiftLeft, Nat.shiftRight_eq_div_pow, Nat.shiftLeft_eq, show 32 - n = m by omega]
theorem ror_code2 (x : W32) (n m : Nat) (hm : m + n = 32) : bits .or .u32 ((x.toNat : Int) * 2 ^ m % 4294967296) ((x.toNat : Int) / 2 ^ n) = ((ror x n).toNat : Int) := by
  rw [← ror_code x n m hm]
  have h1 : ((x.toNat : Int) / 2 ^ n) = ((x.toNat / 2 ^ n : Nat) : Int) := by simp
  have h2 : ((x.toNat : Int) * 2 ^ m % 4294967296) = ((x.toNat * 2 ^ m % 4294967296 : Nat) : Int) := by simp
  have hx := x.isLt
  rw [h1, h2, u32_or_nat _ _ (Nat.lt_of_le_of_lt (Nat.div_le_self _ _) hx) (Nat.mod_lt _ (by omega)), u32_or_nat _ _ (Nat.mod_lt _ (by omega)) (Nat.lt_of_le_of_lt (Nat.div_le_self _ _) hx), Nat.or_comm]
theorem neg31 : ∀ n : Fin 32, 0 < n.1 → bits .and .u64 (IntKind.u64.wrap (-(n.1 : Int))) 31 = ((32 - n.1 : Nat) : Int) := by decide
theorem rotl_any (x : W32) (n m : Nat) (hn : 0 < n) (hn2 : n < 32) (hm : m + n = 32) (w : World) :
    Calls Try.prog 71 #[.int .u32 (x.toNat : Int), .int .i64 (-(n : Int))] w fun e w' => e = .returned (.int .u32 ((ror x n).toNat : Int)) ∧ w = w' := by
  have he := neg31 ⟨n, hn2⟩ hn
  dsimp only at he
  rw [show 32 - n = m by omega] at he
  have hf := ror_code2 x n m hm
  have HF := Lib.hid hf
  have hm2 : (m : Int) < 64 := by omega
  have hmn : (32 : Int) - m = n := by omega
  clear hf
  go_enter Try.func71, Try.ntmps71
  go_wp2_with fail
  go_ret
  rw [← HF.out]
  exact ⟨rfl, rfl⟩
theorem right_any (x : W32) (n : Nat) (hn : 0 < n) (hn2 : n < 32) (w : World) :
    Calls Try.prog 70 #[.int .u32 (x.toNat : Int), .int .i64 (n : Int)] w fun e w' => e = .returned (.int .u32 ((ror x n).toNat : Int)) ∧ w = w' := by
  go_enter Try.func70, Try.ntmps70
  go_wp2_with (go_at_call 71; refine Calls.mono (rotl_any x n (32 - n) hn hn2 (by omega) _) ?_; rintro e w1 ⟨rfl, rfl⟩)
  go_ret
  exact ⟨rfl, rfl⟩
theorem rot_any (x : W32) (n : Nat) (hn : 0 < n) (hn2 : n < 32) (w : World) :
    Calls Try.prog 31 #[.int .u32 (x.toNat : Int), .int .u64 (n : Int)] w fun e w' => e = .returned (.int .u32 ((ror x n).toNat : Int)) ∧ w = w' := by
  have hf := ror_code x n (32 - n) (by omega)
  have HF := Lib.hid hf
  clear hf
  go_enter Try.func31, Try.ntmps31
  go_wp2_with fail
  go_ret
  exact ⟨ret_int HF.out, rfl⟩
theorem right_st (x : W32) (N : Int) (n : Nat) (hN : N = n) (hn : 0 < n) (hn2 : n < 32) (w : World) :
    Calls Try.prog 70 #[.int .u32 (x.toNat : Int), .int .i64 N] w fun e w' => e = .returned (.int .u32 ((ror x n).toNat : Int)) ∧ w' = w := by
  subst hN
  exact (right_any x n hn hn2 w).mono fun _ _ h => ⟨h.1, h.2.symm⟩
theorem rot_st (x : W32) (N : Int) (n : Nat) (hN : N = n) (hn : 0 < n) (hn2 : n < 32) (w : World) :
    Calls Try.prog 31 #[.int .u32 (x.toNat : Int), .int .u64 N] w fun e w' => e = .returned (.int .u32 ((ror x n).toNat : Int)) ∧ w' = w := by
  subst hN
  exact (rot_any x n hn hn2 w).mono fun _ _ h => ⟨h.1, h.2.symm⟩
theorem keysInfo : (Try.prog.info? 73).map (·.size) = some 64 := by kernel_rfl
theorem keysUnder : Try.prog.underlying 73 = some (.array 64 72) := by kernel_rfl
def z64 : List W32 := List.replicate 64 0
theorem length_z64 : z64.length = 64 := List.length_replicate
theorem z64Zero : (Try.prog.info? 73).bind (·.zero) = some (.agg (wv z64).toArray) := zero_of z64 (by kernel_rfl)
theorem size_wv (l : List W32) : (wv l).toArray.size = l.length := by simp [wv]
theorem length_ks : ks.length = 64 := by kernel_rfl
theorem keys_any (w : World) : Calls Try.prog 69 #[] w fun e w' => e = .returned (.agg (wv ks).toArray) ∧ Below w.heap.size w w' := by
  go_enter Try.func69, Try.ntmps69
  go_wp2_with (first
    | (with_reducible refine wpList_alloc_row rfl 73 rfl z64Zero ?_)
    | (with_reducible refine wpList_table rfl 73 _ ks rfl (by kernel_rfl) ?_)
    | (refine wpList_store_row rfl 73 _ _ rfl w.heap.size (wv ks).toArray rfl rfl 73 (wv z64).toArray ?_ keysInfo ?_ (wv_one _) ?_))
  · exact heap_alloc_new _ _
  · kernel_rfl
  · exact bodyPost_ret (v := .agg (wv ks).toArray) (results_cell_row rfl _ _ w.heap.size 73 (wv ks).toArray (0, 0) _ rfl (setRow_block (heap_alloc_new _ _)) keysUnder rfl keysInfo) rfl ⟨rfl, below_setRow ((Below.refl _ _).alloc (Nat.le_refl _) _) (Nat.le_refl _) _⟩
theorem words_any (w : World) : Calls Try.prog 30 #[] w fun e w' => e = .returned (.agg (wv ks).toArray) ∧ Below w.heap.size w w' := by
  go_enter Try.func30, Try.ntmps30
  go_wp2_with (first
    | (with_reducible refine wpList_alloc_row rfl 73 rfl z64Zero ?_)
    | (with_reducible refine wpList_table rfl 73 _ ks rfl (by kernel_rfl) ?_)
    | (refine wpList_store_row rfl 73 _ _ rfl w.heap.size (wv ks).toArray rfl rfl 73 (wv z64).toArray ?_ keysInfo ?_ (wv_one _) ?_))
  · exact heap_alloc_new _ _
  · kernel_rfl
  · exact bodyPost_ret (v := .agg (wv ks).toArray) (results_cell_row rfl _ _ w.heap.size 73 (wv ks).toArray (0, 0) _ rfl (setRow_block (heap_alloc_new _ _)) keysUnder rfl keysInfo) rfl ⟨rfl, below_setRow ((Below.refl _ _).alloc (Nat.le_refl _) _) (Nat.le_refl _) _⟩
theorem stInfo : (Try.prog.info? 110).map (·.size) = some 8 := by kernel_rfl
theorem stUnder : Try.prog.underlying 110 = some (.array 8 72) := by kernel_rfl
def z8 : List W32 := List.replicate 8 0
theorem z8Zero : (Try.prog.info? 110).bind (·.zero) = some (.agg (wv z8).toArray) := zero_of z8 (by kernel_rfl)
theorem begun_any (w : World) : Calls Try.prog 60 #[] w fun e w' => e = .returned (.agg (wv st0.words).toArray) ∧ Below w.heap.size w w' := by
  go_enter Try.func60, Try.ntmps60
  go_wp2_with (first
    | (with_reducible refine wpList_alloc_row rfl 110 rfl z8Zero ?_)
    | (with_reducible refine wpList_table rfl 110 _ st0.words rfl (by kernel_rfl) ?_)
    | (refine wpList_store_row rfl 110 _ _ rfl w.heap.size (wv st0.words).toArray rfl rfl 110 (wv z8).toArray ?_ stInfo ?_ (wv_one _) ?_))
  · exact heap_alloc_new _ _
  · kernel_rfl
  · exact bodyPost_ret (v := .agg (wv st0.words).toArray) (results_cell_row rfl _ _ w.heap.size 110 (wv st0.words).toArray (0, 0) _ rfl (setRow_block (heap_alloc_new _ _)) stUnder rfl stInfo) rfl ⟨rfl, below_setRow ((Below.refl _ _).alloc (Nat.le_refl _) _) (Nat.le_refl _) _⟩
end Go.Proofs.Ytkgenkkcgegcbaa
namespace Go.Proofs.Ytkgenkkcgegcbaa
open Go.RowKit

theorem wl_cell {w : World} {g : Nat} {l : List UInt8} {k : Nat} {rest : List W32} {t : TypeId} {fr : Nat × Nat} (h : w.heap[g]? = some (.cells (wv (wl l k ++ rest)).toArray t fr)) {i : Nat} (hi : i < k) : w.cell? ⟨g, i, none⟩ = some (.int .u32 (((wl l k).getD i 0).toNat : Int)) := by
  rw [wv_cell h (i := i) (by simp [length_wl]; omega), List.getD_eq_getElem?_getD, List.getElem?_append_left (by rw [length_wl]; exact hi), List.getD_eq_getElem?_getD]
theorem byte_at {w : World} {b o n : Nat} {l : List UInt8} (h : Bs w (some ⟨b, o, none⟩) n l) {k : Nat} (hk : k < n) : ∃ x, Hid (l.getD k 0 = x) ∧ w.cell? ⟨b, o + k, none⟩ = some (.int .u8 ((x : UInt8).toNat : Int)) := by
  have hl : k < l.length := by rw [h.len]; exact hk
  refine ⟨l.getD k 0, rfl, ?_⟩
  rw [List.getD_eq_getElem?_getD, List.getElem?_eq_getElem hl]
  exact h.cellAt hl
set_option maxRecDepth 100000 in
set_option maxHeartbeats 2000000 in
theorem spread_any (A : Option Addr) (n c : Nat) (l : List UInt8) (w : World) (hA : Bs w A n l) (hn : 64 ≤ n) (hn2 : n ≤ 140737488355328) :
    Calls Try.prog 68 #[.slice A n c] w fun e w' => e = .returned (.agg (wv (wl l 64)).toArray) ∧ Below w.heap.size w w' := by
  obtain ⟨b, o, rfl⟩ := hA.some_ (by omega)
  go_enter Try.func68, Try.ntmps68
  go_wp2_with (with_reducible refine wpList_alloc_row rfl 73 rfl z64Zero ?_)
  obtain ⟨w2, hw2⟩ : ∃ w2, w2 = (w.alloc (.cells (wv z64).toArray 73)).alloc (.cells (wv z64).toArray 73) := ⟨_, rfl⟩
  have hb2 : Below w.heap.size w w2 := by rw [hw2]; exact ((Below.refl _ _).alloc (Nat.le_refl _) _).alloc (by simp) _
  have hg0 : w2.heap[w.heap.size]? = some (.cells (wv z64).toArray 73 (0, 0)) := by rw [hw2]; exact (two_new _ _ _).1
  have hg1 : w2.heap[w.heap.size + 1]? = some (.cells (wv z64).toArray 73 (0, 0)) := by rw [hw2]; exact (two_new _ _ _).2
  rw [← hw2]
  clear hw2
  have hsz := hb2.size
  obtain ⟨g0, hg0e⟩ : ∃ g0, w.heap.size = g0 := ⟨_, rfl⟩
  obtain ⟨g1, hg1e⟩ : ∃ g1, w.heap.size + 1 = g1 := ⟨_, rfl⟩
  rw [hg1e] at hg1 ⊢
  rw [hg0e] at hg0 ⊢
  have hne : g0 ≠ g1 := by omega
  have hB : w.heap.size ≤ g0 := by omega
  have hB1 : w.heap.size ≤ g1 := by omega
  clear hg0e hg1e hsz
  go_loopw [8] (fun i wr => ∃ (k : Nat), k ≤ 16 ∧ i = .int .i64 k ∧ Below w.heap.size w wr ∧ wr.heap[g0]? = some (.cells (wv z64).toArray 73 (0, 0)) ∧ wr.heap[g1]? = some (.cells (wv (wl l k ++ List.replicate (64 - k) 0)).toArray 73 (0, 0))) (fun i _ => 16 - (intOf i).toNat)
  case atStart => exact ⟨0, by omega, rfl, hb2, hg0, hg1⟩
  case round =>
    clear hb2 hg0 hg1
    obtain ⟨k, hk, rfl, hb, h0, h1⟩ := hrel
    by_cases hlt : k < 16
    · have hk1 : (k : Int) < 16 := by omega
      have hk64 : (k : Int) < 64 := by omega
      have hk0 : (0 : Int) ≤ k := by omega
      have e0 : IntKind.i64.wrap (4 * (k : Int)) = 4 * k := IntWalk.i64_in _ (by omega)
      have e1 : IntKind.i64.wrap (4 * (k : Int) + 1) = 4 * k + 1 := IntWalk.i64_in _ (by omega)
      have e2 : IntKind.i64.wrap (4 * (k : Int) + 2) = 4 * k + 2 := IntWalk.i64_in _ (by omega)
      have e3 : IntKind.i64.wrap (4 * (k : Int) + 3) = 4 * k + 3 := IntWalk.i64_in _ (by omega)
      have t0 : (4 * (k : Int)).toNat = 4 * k := by omega
      have t1 : (4 * (k : Int) + 1).toNat = 4 * k + 1 := by omega
      have t2 : (4 * (k : Int) + 2).toNat = 4 * k + 2 := by omega
      have t3 : (4 * (k : Int) + 3).toNat = 4 * k + 3 := by omega
      have i0 : 4 * (k : Int) < n := by omega
      have i1 : 4 * (k : Int) + 1 < n := by omega
      have i2 : 4 * (k : Int) + 2 < n := by omega
      have i3 : 4 * (k : Int) + 3 < n := by omega
      have j0 : 0 ≤ 4 * (k : Int) := by omega
      have j1 : 0 ≤ 4 * (k : Int) + 1 := by omega
      have j2 : 0 ≤ 4 * (k : Int) + 2 := by omega
      have j3 : 0 ≤ 4 * (k : Int) + 3 := by omega
      have hl := hA.len
      obtain ⟨x0, hx0, c0⟩ := byte_at hA (show 4 * k < n by omega)
      obtain ⟨x1, hx1, c1⟩ := byte_at hA (show 4 * k + 1 < n by omega)
      obtain ⟨x2, hx2, c2⟩ := byte_at hA (show 4 * k + 2 < n by omega)
      obtain ⟨x3, hx3, c3⟩ := byte_at hA (show 4 * k + 3 < n by omega)
      replace c0 := Keeps.of_below hb _ _ c0
      replace c1 := Keeps.of_below hb _ _ c1
      replace c2 := Keeps.of_below hb _ _ c2
      replace c3 := Keeps.of_below hb _ _ c3
      have HL := Lib.hid hl
      clear hl
      go_upto_region 5 with fail
      go_still_tail 35, (by kernel_rfl)
      change wpList _ _ _ _ _ wr.drew
      have hb := hb.drew
      have h0 : wr.drew.heap[g0]? = some (.cells (wv z64).toArray 73 (0, 0)) := h0
      have h1 : wr.drew.heap[g1]? = some (.cells (wv (wl l k ++ List.replicate (64 - k) 0)).toArray 73 (0, 0)) := h1
      generalize wr.drew = w3 at *
      have d1 : w3.cell? ⟨g1, k, none⟩ = some (.int .u32 (((wl l k ++ List.replicate (64 - k) 0).getD k 0).toNat : Int)) := wv_cell h1 (by simp [length_wl]; omega)
      have f1 : w3.frozen? ⟨g1, k, none⟩ = false := free_of_block h1
      have H0 := Lib.hid h0
      have H1 := Lib.hid h1
      have E1 : Hid _ := Lib.hid (be4_code x0 x1 x2 x3)
      have E2 : be4 x0 x1 x2 x3 = be32 l (4 * k) := by unfold be32; rw [hx0.out, hx1.out, hx2.out, hx3.out]
      have E2 := Lib.hid E2
      clear c0 c1 c2 c3 h0 h1 e0 e1 e2 e3 t0 t1 t2 t3 i0 i1 i2 i3 j0 j1 j2 j3 hx0 hx1 hx2 hx3
      go_wp2_with fail
      go_roundw
      case rel =>
        rw [E1.out, E2.out]
        refine ⟨k + 1, by omega, by go_num, hb.setCell hB1 _, ?_, ?_⟩
        · rw [Below.heap_setCell _ _ _ _ hne]; exact H0.out
        · rw [wv_setCell H1.out, wl_set l k (by omega) _ (by simp) _ (wl_low l k hlt), List.tail_replicate, Nat.sub_sub]
      case measure => simp [intOf]; omega
    · rw [show (k : Int) = 16 by omega]
      obtain rfl : k = 16 := by omega
      go_wp2_with fail
      go_loopw [5] (fun i wr => ∃ (k : Nat), 16 ≤ k ∧ k ≤ 64 ∧ i = .int .i64 k ∧ Below w.heap.size w wr ∧ wr.heap[g0]? = some (.cells (wv z64).toArray 73 (0, 0)) ∧ wr.heap[g1]? = some (.cells (wv (wl l k ++ List.replicate (64 - k) 0)).toArray 73 (0, 0))) (fun i _ => 64 - (intOf i).toNat)
      case atStart => exact ⟨16, by omega, by omega, rfl, hb, h0, h1⟩
      case round =>
        clear hb h0 h1
        obtain ⟨k, hk16, hk64, rfl, hb, h0, h1⟩ := hrel
        by_cases hlt : k < 64
        · have hk1 : (k : Int) < 64 := by omega
          have hk0 : (0 : Int) ≤ k := by omega
          have e15 : IntKind.i64.wrap ((k : Int) - 15) = k - 15 := IntWalk.i64_in _ (by omega)
          have e2 : IntKind.i64.wrap ((k : Int) - 2) = k - 2 := IntWalk.i64_in _ (by omega)
          have e16 : IntKind.i64.wrap ((k : Int) - 16) = k - 16 := IntWalk.i64_in _ (by omega)
          have e7 : IntKind.i64.wrap ((k : Int) - 7) = k - 7 := IntWalk.i64_in _ (by omega)
          have t15 : ((k : Int) - 15).toNat = k - 15 := by omega
          have t2 : ((k : Int) - 2).toNat = k - 2 := by omega
          have t16 : ((k : Int) - 16).toNat = k - 16 := by omega
          have t7 : ((k : Int) - 7).toNat = k - 7 := by omega
          have i15 : (k : Int) - 15 < 64 := by omega
          have i2 : (k : Int) - 2 < 64 := by omega
          have i16 : (k : Int) - 16 < 64 := by omega
          have i7 : (k : Int) - 7 < 64 := by omega
          have j15 : 0 ≤ (k : Int) - 15 := by omega
          have j2 : 0 ≤ (k : Int) - 2 := by omega
          have j16 : 0 ≤ (k : Int) - 16 := by omega
          have j7 : 0 ≤ (k : Int) - 7 := by omega
          have q16 : (16 : Int) ≤ k := by omega
          have q7 : (7 : Int) ≤ k := by omega
          have q15 : (15 : Int) ≤ k := by omega
          have q2 : (2 : Int) ≤ k := by omega
          have c15 := wl_cell h1 (show k - 15 < k by omega)
          have c2 := wl_cell h1 (show k - 2 < k by omega)
          have c16 := wl_cell h1 (show k - 16 < k by omega)
          have c7 := wl_cell h1 (show k - 7 < k by omega)
          have EW := Lib.hid (wl_high l k hk16)
          generalize (wl l k).getD (k - 15) 0 = x15 at c15 EW
          generalize (wl l k).getD (k - 2) 0 = x2 at c2 EW
          generalize (wl l k).getD (k - 16) 0 = x16 at c16 EW
          generalize (wl l k).getD (k - 7) 0 = x7 at c7 EW
          have H0 := Lib.hid h0
          have H1 := Lib.hid h1
          clear h0 h1
          go_upto_region 10 with fail
          go_quiet (fail)
          have hb := below_drewN' hb nq
          have H0 : Hid ((wr.drewN nq).heap[g0]? = some (.cells (wv z64).toArray 73 (0, 0))) := H0
          have H1 : Hid ((wr.drewN nq).heap[g1]? = some (.cells (wv (wl l k ++ List.replicate (64 - k) 0)).toArray 73 (0, 0))) := H1
          have c16 : (wr.drewN nq).cell? ⟨g1, k - 16, none⟩ = some (.int .u32 (x16.toNat : Int)) := c16
          have c7 : (wr.drewN nq).cell? ⟨g1, k - 7, none⟩ = some (.int .u32 (x7.toNat : Int)) := c7
          generalize wr.drewN nq = w3 at *
          go_upto_region 11 with fail
          refine wp_region_still_tail 29 (by kernel_rfl) (by kernel_rfl) ?_
          simp only [List.take_succ_cons, List.take_zero, List.drop_succ_cons, List.drop_zero]
          repeat still_step
          still_call (right_st x15 7 7 rfl (by omega) (by omega) _)
          repeat still_step
          still_call (right_st x15 18 18 rfl (by omega) (by omega) _)
          repeat still_step
          still_call (right_st x2 17 17 rfl (by omega) (by omega) _)
          repeat still_step
          still_call (right_st x2 19 19 rfl (by omega) (by omega) _)
          repeat still_step
          refine wpStill_nil ?_
          change wpList _ _ _ _ _ w3.drew
          have hb := hb.drew
          have H0 : Hid (w3.drew.heap[g0]? = some (.cells (wv z64).toArray 73 (0, 0))) := H0
          have H1 : Hid (w3.drew.heap[g1]? = some (.cells (wv (wl l k ++ List.replicate (64 - k) 0)).toArray 73 (0, 0))) := H1
          generalize w3.drew = w4 at *
          have d1 : w4.cell? ⟨g1, k, none⟩ = some (.int .u32 (((wl l k ++ List.replicate (64 - k) 0).getD k 0).toNat : Int)) := wv_cell H1.out (by simp [length_wl]; omega)
          have f1 : w4.frozen? ⟨g1, k, none⟩ = false := free_of_block H1.out
          clear e15 e2 e16 e7 t15 t2 t16 t7 i15 i2 i16 i7 j15 j2 j16 j7 c15 c2 c16 c7
          have E1 := Lib.hid (next_code x16 x15 x7 x2)
          go_wp2_with fail
          go_roundw
          case rel =>
            refine ⟨k + 1, by omega, by omega, by go_num, hb.setCell hB1 _, by rw [Below.heap_setCell _ _ _ _ hne]; exact H0.out, ?_⟩
            rw [E1.out, wv_setCell H1.out, wl_set l k (by omega) _ (by simp) _ EW.out, List.tail_replicate, Nat.sub_sub]
          case measure => simp [intOf]; omega
        · obtain rfl : k = 64 := by omega
          have hsz : (wl l 64).length = 64 := length_wl l 64
          generalize hL : wl l 64 = L at h1 hsz
          have HE := Lib.hid hL
          clear hL
          have h1 : wr.heap[g1]? = some (.cells (wv L).toArray 73 (0, 0)) := by rw [h1]; simp
          have HI : Hid ((Try.prog.info? 73).map (·.size) = some (wv L).toArray.size) := by
            show _ = _
            rw [keysInfo, size_wv, hsz]
          have HZ : Hid ((wv z64).toArray.size = (wv L).toArray.size) := by
            show _ = _
            rw [size_wv, size_wv, hsz, length_z64]
          have H0 := Lib.hid h0
          have H1 := Lib.hid h1
          clear hsz h0 h1
          go_wp2_with (first
            | (refine wpList_load_row rfl 73 _ rfl g1 rfl 73 (wv L).toArray (0, 0) _ H1.out keysUnder rfl HI.out ?_)
            | (refine wpList_store_row rfl 73 _ _ rfl g0 (wv L).toArray rfl rfl 73 (wv z64).toArray H0.out HI.out HZ.out (wv_one _) ?_))
          exact bodyPost_ret (v := .agg (wv L).toArray) (results_cell_row (p := 2) (ty := 73) rfl _ _ g0 73 (wv L).toArray (0, 0) _ rfl (setRow_block H0.out) keysUnder rfl HI.out) rfl ⟨by rw [HE.out], below_setRow hb hB _⟩
end Go.Proofs.Ytkgenkkcgegcbaa
