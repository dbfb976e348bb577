/- Arrays in memory: laid zero, a table's literal, the whole of one read, written. A word turned to the right: the code's and the document's. -/
import Derived.Test.YtkncomkncfcecaaChecked
import Derived.Test.YtkncomkncfcecaaShaPlain
import Derived.Laws.Tables
import Derived.Laws.Rows
set_option linter.unusedVariables false
set_option linter.unusedSimpArgs false
namespace Go.Proofs.Ytkncomkncfcecaa
open Go.RowKit

def chkW : List W32 → List Value → Bool
  | [], [] => true
  | x :: xs, .int .u32 n :: vs => (n == (x.toNat : Int)) && chkW xs vs
  | _, _ => false
theorem chkW_eq : ∀ (l : List W32) (vs : List Value), chkW l vs = true → vs = wv l
  | [], [], _ => rfl
  | x :: xs, v :: vs, h => by
    unfold chkW at h
    split at h
    · cases ‹_ :: _ = []›
    · rename_i y ys n us h1 h2
      injection h1 with h1 h3
      injection h2 with h2 h4
      subst h1; subst h3; subst h2; subst h4
      simp only [Bool.and_eq_true, beq_iff_eq] at h
      rw [chkW_eq _ _ h.2, h.1]
      rfl
    · cases h
  | [], _ :: _, h => by simp [chkW] at h
  | _ :: _, [], h => by simp [chkW] at h
theorem chkW_arr (l : List W32) (a : Array Value) (h : chkW l a.toList = true) : a = (wv l).toArray := by
  rw [← chkW_eq l _ h]
def chkB : List UInt8 → List Value → Bool
  | [], [] => true
  | x :: xs, .int .u8 n :: vs => (n == (x.toNat : Int)) && chkB xs vs
  | _, _ => false
theorem chkB_eq : ∀ (l : List UInt8) (vs : List Value), chkB l vs = true → vs = bv l
  | [], [], _ => rfl
  | x :: xs, v :: vs, h => by
    unfold chkB at h
    split at h
    · cases ‹_ :: _ = []›
    · rename_i y ys n us h1 h2
      injection h1 with h1 h3
      injection h2 with h2 h4
      subst h1; subst h3; subst h2; subst h4
      simp only [Bool.and_eq_true, beq_iff_eq] at h
      rw [chkB_eq _ _ h.2, h.1]
      rfl
    · cases h
  | [], _ :: _, h => by simp [chkB] at h
  | _ :: _, [], h => by simp [chkB] at h
theorem chkB_arr (l : List UInt8) (a : Array Value) (h : chkB l a.toList = true) : a = (bv l).toArray := by
  rw [← chkB_eq l _ h]
theorem built_of {t : TypeId} {ps : List (Nat × Value)} (l : List W32) (h : ((Try.prog.built t ps).map fun a => chkW l a.toList) = some true) : Try.prog.built t ps = some (wv l).toArray := by
  cases hb : Try.prog.built t ps with
  | none => rw [hb] at h; cases h
  | some a =>
    rw [hb] at h
    simp only [Option.map_some, Option.some.injEq] at h
    rw [chkW_arr l a h]
/-- a table's literal -/
theorem wpList_table {ops : Array Oper} {rest : List Oper} {o : Oper} {a : Act} {w : World} {Q : Exit → Act → World → Prop} (hgd : o.guard = none) (t : TypeId) (parts : Array (Nat × Operand)) (l : List W32) (ho : o.op = .build t parts)
    (hb : ((Try.prog.built t (parts.map fun (i, x) => (i, a.eval x)).toList).map fun a => chkW l a.toList) = some true)
    (h : wpList Try.prog ops Q rest (a.put o.dst (.agg (wv l).toArray)) w) : wpList Try.prog ops Q (o :: rest) a w :=
  wpList_plain hgd fun _ hK => by
    have hb := built_of l hb
    refine wp_build t parts ho (by rw [hb]; rfl) ?_
    rw [hb]
    exact hK _ _ h
/-- a literal of whatever values, its cells said -/
theorem wpList_buildTo {P : Program} {ops : Array Oper} {rest : List Oper} {o : Oper} {a : Act} {w : World} {Q : Exit → Act → World → Prop} (hgd : o.guard = none) (t : TypeId) (parts : Array (Nat × Operand)) (ho : o.op = .build t parts) (cells : Array Value)
    (hb : P.built t (parts.map fun (i, x) => (i, a.eval x)).toList = some cells)
    (h : wpList P ops Q rest (a.put o.dst (.agg cells)) w) : wpList P ops Q (o :: rest) a w :=
  wpList_plain hgd fun _ hK => by
    refine wp_build t parts ho (by rw [hb]; rfl) ?_
    rw [hb]
    exact hK _ _ h
/-- a variable of an array's type is laid -/
theorem run_alloc_row {P : Program} {t : TypeId} {cs : Array Value} (h : (P.info? t).bind (·.zero) = some (.agg cs)) (old : Value) (w : World) :
    (Instr.alloc t true old).run P w = .ok (.pointer (some ⟨w.heap.size, 0, none⟩)) (w.alloc (.cells cs t)) := by
  cases hi : P.info? t with
  | none => rw [hi] at h; cases h
  | some i =>
    rw [hi] at h
    simp only [Option.bind_some] at h
    simp [Instr.alloc, zeroValue, typeInfo, hi, h, newVar, newRow, newObj, go_sem, Value.cells]
    rfl
theorem zero_of {t : TypeId} (l : List W32) (h : ((Try.prog.info? t).bind (·.zero)).map (fun v => match v with | .agg a => chkW l a.toList | _ => false) = some true) : (Try.prog.info? t).bind (·.zero) = some (.agg (wv l).toArray) := by
  cases hz : (Try.prog.info? t).bind (·.zero) with
  | none => rw [hz] at h; cases h
  | some v =>
    rw [hz] at h
    simp only [Option.map_some, Option.some.injEq] at h
    split at h
    · rw [chkW_arr l _ h]
    · cases h
theorem zeroB_of {t : TypeId} (l : List UInt8) (h : ((Try.prog.info? t).bind (·.zero)).map (fun v => match v with | .agg a => chkB l a.toList | _ => false) = some true) : (Try.prog.info? t).bind (·.zero) = some (.agg (bv l).toArray) := by
  cases hz : (Try.prog.info? t).bind (·.zero) with
  | none => rw [hz] at h; cases h
  | some v =>
    rw [hz] at h
    simp only [Option.map_some, Option.some.injEq] at h
    split at h
    · rw [chkB_arr l _ h]
    · cases h
theorem wpList_alloc_row {P : Program} {ops : Array Oper} {rest : List Oper} {o : Oper} {a : Act} {w : World} {Q : Exit → Act → World → Prop} (hgd : o.guard = none) (t : TypeId) (ho : o.op = .alloc t) {cs : Array Value}
    (hz : (P.info? t).bind (·.zero) = some (.agg cs))
    (h : wpList P ops Q rest (a.put o.dst (.pointer (some ⟨w.heap.size, 0, none⟩))) (w.alloc (.cells cs t))) : wpList P ops Q (o :: rest) a w :=
  wpList_plain hgd fun K hK => by
    unfold Oper.wp execOp
    simp only [ho, Sem.run_bind, run_alloc_row hz, Result.andThen_ok]
    exact hK _ _ h
/-- the whole of an array is loaded -/
theorem run_loadRowOp {P : Program} {o : Oper} {A : Act} {W : World} (ty : TypeId) (t : Tmp) (ho : o.op = .load ty (.tmp t)) {g : Nat} {t' : TypeId} {cs : Array Value} {fr : Nat × Nat} {d : TypeDesc} (hx : A.tmps[t]?.getD undef = .pointer (some ⟨g, 0, none⟩)) (hg : W.heap[g]? = some (.cells cs t' fr))
    (hu : P.underlying ty = some d) (hd : (match d with | .struct _ | .array _ _ => true | _ => false) = true) (hi : (P.info? ty).map (·.size) = some cs.size) :
    (execOp A.eval o).run P W = .ok (.value (.agg cs)) W := by
  have hx' : A.eval (.tmp t) = .pointer (some ⟨g, 0, none⟩) := by rw [← hx]; exact Array.getD_eq_getD_getElem? ..
  unfold execOp
  simp only [ho, hx', Instr.loadAt, Instr.sureAddr, Sem.run_bind, Sem.run_pure, Result.andThen_ok, run_loadVar_row W g t' ty cs fr d hg hu hd hi]
theorem wv_one (l : List W32) : (wv l).toArray.all (·.oneCell') = true := by
  rw [List.all_toArray, List.all_eq_true]
  intro v hv
  simp only [wv, List.mem_map] at hv
  obtain ⟨x, _, rfl⟩ := hv
  rfl
theorem bv_one' (l : List UInt8) : (bv l).toArray.all (·.oneCell') = true := by
  rw [List.all_toArray, List.all_eq_true]
  exact bv_one l
/-- a whole array written into a block that is known -/
theorem setRow_block {w : World} {g : Nat} {old cs : Array Value} {t : TypeId} {fr : Nat × Nat} (hg : w.heap[g]? = some (.cells old t fr)) : (w.setRow g cs).heap[g]? = some (.cells cs t fr) := setRow_heap w g old cs t fr hg
theorem below_setRow {B : Nat} {w w' : World} (hb : Below B w w') {g : Nat} (hg : B ≤ g) (cs : Array Value) : Below B w (w'.setRow g cs) :=
  ⟨hb.os, hb.tape, hb.output, by rw [setRow_size]; exact hb.size, fun i hi => by rw [setRow_other w' g i cs (by omega)]; exact hb.block i hi⟩
theorem wv_get (l : List W32) (i : Nat) (h : i < l.length) : (wv l)[i]? = some (.int .u32 ((l.getD i 0).toNat : Int)) := by
  simp [wv, h]
theorem wv_cell {w : World} {g : Nat} {l : List W32} {t : TypeId} {fr : Nat × Nat} (h : w.heap[g]? = some (.cells (wv l).toArray t fr)) {i : Nat} (hi : i < l.length) : w.cell? ⟨g, i, none⟩ = some (.int .u32 ((l.getD i 0).toNat : Int)) :=
  cell_of_block h (by rw [List.getElem?_toArray]; exact wv_get l i hi)
theorem wv_set (l : List W32) (i : Nat) (x : W32) : (wv l).toArray.setIfInBounds i (.int .u32 (x.toNat : Int)) = (wv (l.set i x)).toArray := by
  rw [List.setIfInBounds_toArray]; simp [wv, List.map_set]
theorem wv_setCell {w : World} {g : Nat} {l : List W32} {t : TypeId} {fr : Nat × Nat} (h : w.heap[g]? = some (.cells (wv l).toArray t fr)) (i : Nat) (x : W32) :
    (w.setCell ⟨g, i, none⟩ (.int .u32 (x.toNat : Int))).heap[g]? = some (.cells (wv (l.set i x)).toArray t fr) := by
  rw [← wv_set]; exact block_setCell _ h
end Go.Proofs.Ytkncomkncfcecaa
set_option linter.unusedVariables false
set_option linter.unusedSimpArgs false
namespace Go.Proofs.Ytkncomkncfcecaa
open Go.RowKit
theorem ror_code (x : W32) (n m : Nat) (hm : m + n = 32) : bits .or .u32 ((x.toNat : Int) / 2 ^ n) ((x.toNat : Int) * 2 ^ m % 4294967296) = ((ror x n).toNat : Int) := by
  have h1 : ((x.toNat : Int) / 2 ^ n) = ((x.toNat / 2 ^ n : Nat) : Int) := by simp
  have h2 : ((x.toNat : Int) * 2 ^ m % 4294967296) = ((x.toNat * 2 ^ m % 4294967296 : Nat) : Int) := by simp
  have hx := x.isLt
  rw [h1, h2, u32_or_nat _ _ (Nat.lt_of_le_of_lt (Nat.div_le_self _ _) hx) (Nat.mod_lt _ (by omega))]
  unfold ror
  rw [BitVec.toNat_or, BitVec.toNat_ushiftRight, BitVec.toNat_shiftLeft, Nat.shiftRight_eq_div_pow, Nat.shiftLeft_eq, show 32 - n = m by omega]
theorem ror_code2 (x : W32) (n m : Nat) (hm : m + n = 32) : bits .or .u32 ((x.toNat : Int) * 2 ^ m % 4294967296) ((x.toNat : Int) / 2 ^ n) = ((ror x n).toNat : Int) := by
  rw [← ror_code x n m hm]
  have h1 : ((x.toNat : Int) / 2 ^ n) = ((x.toNat / 2 ^ n : Nat) : Int) := by simp
  have h2 : ((x.toNat : Int) * 2 ^ m % 4294967296) = ((x.toNat * 2 ^ m % 4294967296 : Nat) : Int) := by simp
  have hx := x.isLt
  rw [h1, h2, u32_or_nat _ _ (Nat.lt_of_le_of_lt (Nat.div_le_self _ _) hx) (Nat.mod_lt _ (by omega)), u32_or_nat _ _ (Nat.mod_lt _ (by omega)) (Nat.lt_of_le_of_lt (Nat.div_le_self _ _) hx), Nat.or_comm]
theorem neg31 : ∀ n : Fin 32, 0 < n.1 → bits .and .u64 (IntKind.u64.wrap (-(n.1 : Int))) 31 = ((32 - n.1 : Nat) : Int) := by decide
theorem rotl_any (x : W32) (n m : Nat) (hn : 0 < n) (hn2 : n < 32) (hm : m + n = 32) (w : World) :
    Calls Try.prog 106 #[.int .u32 (x.toNat : Int), .int .i64 (-(n : Int))] w fun e w' => e = .returned (.int .u32 ((ror x n).toNat : Int)) ∧ w = w' := by
  have he := neg31 ⟨n, hn2⟩ hn
  dsimp only at he
  rw [show 32 - n = m by omega] at he
  have hf := ror_code2 x n m hm
  have HF := Lib.hid hf
  have hm2 : (m : Int) < 64 := by omega
  have hmn : (32 : Int) - m = n := by omega
  clear hf
  go_enter Try.func106, Try.ntmps106
  go_wp2_with fail
  go_ret
  rw [← HF.out]
  exact ⟨rfl, rfl⟩
theorem right_any (x : W32) (n : Nat) (hn : 0 < n) (hn2 : n < 32) (w : World) :
    Calls Try.prog 101 #[.int .u32 (x.toNat : Int), .int .i64 (n : Int)] w fun e w' => e = .returned (.int .u32 ((ror x n).toNat : Int)) ∧ w = w' := by
  go_enter Try.func101, Try.ntmps101
  go_wp2_with (go_at_call 106; refine Calls.mono (rotl_any x n (32 - n) hn hn2 (by omega) _) ?_; rintro e w1 ⟨rfl, rfl⟩)
  go_ret
  exact ⟨rfl, rfl⟩
theorem rot_any (x : W32) (n : Nat) (hn : 0 < n) (hn2 : n < 32) (w : World) :
    Calls Try.prog 42 #[.int .u32 (x.toNat : Int), .int .u64 (n : Int)] w fun e w' => e = .returned (.int .u32 ((ror x n).toNat : Int)) ∧ w = w' := by
  have hf := ror_code x n (32 - n) (by omega)
  have HF := Lib.hid hf
  clear hf
  go_enter Try.func42, Try.ntmps42
  go_wp2_with fail
  go_ret
  exact ⟨ret_int HF.out, rfl⟩
theorem right_st (x : W32) (N : Int) (n : Nat) (hN : N = n) (hn : 0 < n) (hn2 : n < 32) (w : World) :
    Calls Try.prog 101 #[.int .u32 (x.toNat : Int), .int .i64 N] w fun e w' => e = .returned (.int .u32 ((ror x n).toNat : Int)) ∧ w' = w := by
  subst hN
  exact (right_any x n hn hn2 w).mono fun _ _ h => ⟨h.1, h.2.symm⟩
theorem rot_st (x : W32) (N : Int) (n : Nat) (hN : N = n) (hn : 0 < n) (hn2 : n < 32) (w : World) :
    Calls Try.prog 42 #[.int .u32 (x.toNat : Int), .int .u64 N] w fun e w' => e = .returned (.int .u32 ((ror x n).toNat : Int)) ∧ w' = w := by
  subst hN
  exact (rot_any x n hn hn2 w).mono fun _ _ h => ⟨h.1, h.2.symm⟩
theorem keysInfo : (Try.prog.info? 81).map (·.size) = some 64 := by kernel_rfl
theorem keysUnder : Try.prog.underlying 81 = some (.array 64 80) := by kernel_rfl
def z64 : List W32 := List.replicate 64 0
theorem length_z64 : z64.length = 64 := List.length_replicate
theorem z64Zero : (Try.prog.info? 81).bind (·.zero) = some (.agg (wv z64).toArray) := zero_of z64 (by kernel_rfl)
theorem size_wv (l : List W32) : (wv l).toArray.size = l.length := by simp [wv]
theorem length_ks : ks.length = 64 := by kernel_rfl
theorem keys_any (w : World) : Calls Try.prog 100 #[] w fun e w' => e = .returned (.agg (wv ks).toArray) ∧ Below w.heap.size w w' := by
  go_enter Try.func100, Try.ntmps100
  go_wp2_with (first
    | (with_reducible refine wpList_alloc_row rfl 81 rfl z64Zero ?_)
    | (with_reducible refine wpList_table rfl 81 _ ks rfl (by kernel_rfl) ?_)
    | (refine wpList_store_row rfl 81 _ _ rfl w.heap.size (wv ks).toArray rfl rfl 81 (wv z64).toArray ?_ keysInfo ?_ (wv_one _) ?_))
  · exact heap_alloc_new _ _
  · kernel_rfl
  · exact bodyPost_ret (v := .agg (wv ks).toArray) (results_cell_row rfl _ _ w.heap.size 81 (wv ks).toArray (0, 0) _ rfl (setRow_block (heap_alloc_new _ _)) keysUnder rfl keysInfo) rfl ⟨rfl, below_setRow ((Below.refl _ _).alloc (Nat.le_refl _) _) (Nat.le_refl _) _⟩
theorem words_any (w : World) : Calls Try.prog 41 #[] w fun e w' => e = .returned (.agg (wv ks).toArray) ∧ Below w.heap.size w w' := by
  go_enter Try.func41, Try.ntmps41
  go_wp2_with (first
    | (with_reducible refine wpList_alloc_row rfl 81 rfl z64Zero ?_)
    | (with_reducible refine wpList_table rfl 81 _ ks rfl (by kernel_rfl) ?_)
    | (refine wpList_store_row rfl 81 _ _ rfl w.heap.size (wv ks).toArray rfl rfl 81 (wv z64).toArray ?_ keysInfo ?_ (wv_one _) ?_))
  · exact heap_alloc_new _ _
  · kernel_rfl
  · exact bodyPost_ret (v := .agg (wv ks).toArray) (results_cell_row rfl _ _ w.heap.size 81 (wv ks).toArray (0, 0) _ rfl (setRow_block (heap_alloc_new _ _)) keysUnder rfl keysInfo) rfl ⟨rfl, below_setRow ((Below.refl _ _).alloc (Nat.le_refl _) _) (Nat.le_refl _) _⟩
theorem stInfo : (Try.prog.info? 129).map (·.size) = some 8 := by kernel_rfl
theorem stUnder : Try.prog.underlying 129 = some (.array 8 80) := by kernel_rfl
def z8 : List W32 := List.replicate 8 0
theorem z8Zero : (Try.prog.info? 129).bind (·.zero) = some (.agg (wv z8).toArray) := zero_of z8 (by kernel_rfl)
theorem begun_any (w : World) : Calls Try.prog 86 #[] w fun e w' => e = .returned (.agg (wv st0.words).toArray) ∧ Below w.heap.size w w' := by
  go_enter Try.func86, Try.ntmps86
  go_wp2_with (first
    | (with_reducible refine wpList_alloc_row rfl 129 rfl z8Zero ?_)
    | (with_reducible refine wpList_table rfl 129 _ st0.words rfl (by kernel_rfl) ?_)
    | (refine wpList_store_row rfl 129 _ _ rfl w.heap.size (wv st0.words).toArray rfl rfl 129 (wv z8).toArray ?_ stInfo ?_ (wv_one _) ?_))
  · exact heap_alloc_new _ _
  · kernel_rfl
  · exact bodyPost_ret (v := .agg (wv st0.words).toArray) (results_cell_row rfl _ _ w.heap.size 129 (wv st0.words).toArray (0, 0) _ rfl (setRow_block (heap_alloc_new _ _)) stUnder rfl stInfo) rfl ⟨rfl, below_setRow ((Below.refl _ _).alloc (Nat.le_refl _) _) (Nat.le_refl _) _⟩
end Go.Proofs.Ytkncomkncfcecaa
