/- Arrays in memory: laid zero, a table's literal, the whole of one read, written. A word turned to the right: the code's and the document's. The words of a piece. -/
import Derived.Test.YtkncomkncfcecaaChecked
import Derived.Test.YtkncomkncfcecaaShaPlain
import Derived.Laws.Tables
import Derived.Laws.Rows
import Derived.Test.YtkncomkncfcecaaRegion
import Derived.StillTailTactics
import Derived.Deep.QuietTactic
import Derived.BigQuiet
import Derived.Deep.DeepCutAuto
import Derived.Deep.CutBlock
set_option linter.unusedVariables false
set_option linter.unusedSimpArgs false
namespace Go.Proofs.Ytkncomkncfcecaa
open Go.RowKit
def chkW : List W32 → List Value → Bool
  | [], [] => true
  | x :: xs, .int .u32 n :: vs => (n == (x.toNat : Int)) && chkW xs vs
  | _, _ => false
theorem chkW_eq : ∀ (l : List W32) (vs : List Value), chkW l vs = true → vs = wv l
  | [], [], _ => rfl
  | x :: xs, v :: vs, h => by
    unfold chkW at h
    split at h
    · cases ‹_ :: _ = []›
    · rename_i y ys n us h1 h2
      injection h1 with h1 h3
      injection h2 with h2 h4
      subst h1; subst h3; subst h2; subst h4
      simp only [Bool.and_eq_true, beq_iff_eq] at h
      rw [chkW_eq _ _ h.2, h.1]
      rfl
    · cases h
  | [], _ :: _, h => by simp [chkW] at h
  | _ :: _, [], h => by simp [chkW] at h
theorem chkW_arr (l : List W32) (a : Array Value) (h : chkW l a.toList = true) : a = (wv l).toArray := by
  rw [← chkW_eq l _ h]
def chkB : List UInt8 → List Value → Bool
  | [], [] => true
  | x :: xs, .int .u8 n :: vs => (n == (x.toNat : Int)) && chkB xs vs
  | _, _ => false
theorem chkB_eq : ∀ (l : List UInt8) (vs : List Value), chkB l vs = true → vs = bv l
  | [], [], _ => rfl
  | x :: xs, v :: vs, h => by
    unfold chkB at h
    split at h
    · cases ‹_ :: _ = []›
    · rename_i y ys n us h1 h2
      injection h1 with h1 h3
      injection h2 with h2 h4
      subst h1; subst h3; subst h2; subst h4
      simp only [Bool.and_eq_true, beq_iff_eq] at h
      rw [chkB_eq _ _ h.2, h.1]
      rfl
    · cases h
  | [], _ :: _, h => by simp [chkB] at h
  | _ :: _, [], h => by simp [chkB] at h
theorem chkB_arr (l : List UInt8) (a : Array Value) (h : chkB l a.toList = true) : a = (bv l).toArray := by
  rw [← chkB_eq l _ h]
theorem built_of {t : TypeId} {ps : List (Nat × Value)} (l : List W32) (h : ((Try.prog.built t ps).map fun a => chkW l a.toList) = some true) : Try.prog.built t ps = some (wv l).toArray := by
  cases hb : Try.prog.built t ps with
  | none => rw [hb] at h; cases h
  | some a =>
    rw [hb] at h
    simp only [Option.map_some, Option.some.injEq] at h
    rw [chkW_arr l a h]
theorem Wk {ops : Array Oper} {rest : List Oper} {o : Oper} {a : Act} {w : World} {Q : Exit → Act → World → Prop} (hgd : o.guard = none) (t : TypeId) (parts : Array (Nat × Operand)) (l : List W32) (ho : o.op = .build t parts)
    (hb : ((Try.prog.built t (parts.map fun (i, x) => (i, a.eval x)).toList).map fun a => chkW l a.toList) = some true)
    (h : wpList Try.prog ops Q rest (a.put o.dst (.agg (wv l).toArray)) w) : wpList Try.prog ops Q (o :: rest) a w :=
  wpList_plain hgd fun _ hK => by
    have hb := built_of l hb
    refine wp_build t parts ho (by rw [hb]; rfl) ?_
    rw [hb]
    exact hK _ _ h
theorem WF {P : Program} {ops : Array Oper} {rest : List Oper} {o : Oper} {a : Act} {w : World} {Q : Exit → Act → World → Prop} (hgd : o.guard = none) (t : TypeId) (parts : Array (Nat × Operand)) (ho : o.op = .build t parts) (cells : Array Value)
    (hb : P.built t (parts.map fun (i, x) => (i, a.eval x)).toList = some cells)
    (h : wpList P ops Q rest (a.put o.dst (.agg cells)) w) : wpList P ops Q (o :: rest) a w :=
  wpList_plain hgd fun _ hK => by
    refine wp_build t parts ho (by rw [hb]; rfl) ?_
    rw [hb]
    exact hK _ _ h
theorem run_alloc_row {P : Program} {t : TypeId} {cs : Array Value} (h : (P.info? t).bind (·.zero) = some (.agg cs)) (old : Value) (w : World) :
    (Instr.alloc t true old).run P w = .ok (.pointer (some ⟨w.heap.size, 0, none⟩)) (w.alloc (.cells cs t)) := by
  cases hi : P.info? t with
  | none => rw [hi] at h; cases h
  | some i =>
    rw [hi] at h
    simp only [Option.bind_some] at h
    simp [Instr.alloc, zeroValue, typeInfo, hi, h, newVar, newRow, newObj, go_sem, Value.cells]
    rfl
theorem zero_of {t : TypeId} (l : List W32) (h : ((Try.prog.info? t).bind (·.zero)).map (fun v => match v with | .agg a => chkW l a.toList | _ => false) = some true) : (Try.prog.info? t).bind (·.zero) = some (.agg (wv l).toArray) := by
  cases hz : (Try.prog.info? t).bind (·.zero) with
  | none => rw [hz] at h; cases h
  | some v =>
    rw [hz] at h
    simp only [Option.map_some, Option.some.injEq] at h
    split at h
    · rw [chkW_arr l _ h]
    · cases h
theorem zeroB_of {t : TypeId} (l : List UInt8) (h : ((Try.prog.info? t).bind (·.zero)).map (fun v => match v with | .agg a => chkB l a.toList | _ => false) = some true) : (Try.prog.info? t).bind (·.zero) = some (.agg (bv l).toArray) := by
  cases hz : (Try.prog.info? t).bind (·.zero) with
  | none => rw [hz] at h; cases h
  | some v =>
    rw [hz] at h
    simp only [Option.map_some, Option.some.injEq] at h
    split at h
    · rw [chkB_arr l _ h]
    · cases h
theorem Yg {P : Program} {ops : Array Oper} {rest : List Oper} {o : Oper} {a : Act} {w : World} {Q : Exit → Act → World → Prop} (hgd : o.guard = none) (t : TypeId) (ho : o.op = .alloc t) {cs : Array Value}
    (hz : (P.info? t).bind (·.zero) = some (.agg cs))
    (h : wpList P ops Q rest (a.put o.dst (.pointer (some ⟨w.heap.size, 0, none⟩))) (w.alloc (.cells cs t))) : wpList P ops Q (o :: rest) a w :=
  wpList_plain hgd fun K hK => by
    unfold Oper.wp execOp
    simp only [ho, Sem.run_bind, run_alloc_row hz, Result.andThen_ok]
    exact hK _ _ h
theorem run_loadRowOp {P : Program} {o : Oper} {A : Act} {W : World} (ty : TypeId) (t : Tmp) (ho : o.op = .load ty (.tmp t)) {g : Nat} {t' : TypeId} {cs : Array Value} {fr : Nat × Nat} {d : TypeDesc} (hx : A.tmps[t]?.getD undef = .pointer (some ⟨g, 0, none⟩)) (hg : W.heap[g]? = some (.cells cs t' fr))
    (hu : P.underlying ty = some d) (hd : (match d with | .struct _ | .array _ _ => true | _ => false) = true) (hi : (P.info? ty).map (·.size) = some cs.size) :
    (execOp A.eval o).run P W = .ok (.value (.agg cs)) W := by
  have hx' : A.eval (.tmp t) = .pointer (some ⟨g, 0, none⟩) := by rw [← hx]; exact Array.getD_eq_getD_getElem? ..
  unfold execOp
  simp only [ho, hx', Instr.loadAt, Instr.sureAddr, Sem.run_bind, Sem.run_pure, Result.andThen_ok, run_loadVar_row W g t' ty cs fr d hg hu hd hi]
theorem X6 (l : List W32) : (wv l).toArray.all (·.oneCell') = true := by
  rw [List.all_toArray, List.all_eq_true]
  intro v hv
  simp only [wv, List.mem_map] at hv
  obtain ⟨x, _, rfl⟩ := hv
  rfl
theorem bv_one' (l : List UInt8) : (bv l).toArray.all (·.oneCell') = true := by
  rw [List.all_toArray, List.all_eq_true]
  exact WH l
theorem ZQ {w : World} {g : Nat} {old cs : Array Value} {t : TypeId} {fr : Nat × Nat} (hg : w.heap[g]? = some (.cells old t fr)) : (w.setRow g cs).heap[g]? = some (.cells cs t fr) := setRow_heap w g old cs t fr hg
theorem ZY {B : Nat} {w w' : World} (hb : Below B w w') {g : Nat} (hg : B ≤ g) (cs : Array Value) : Below B w (w'.setRow g cs) :=
  ⟨hb.os, hb.tape, hb.output, by rw [setRow_size]; exact hb.size, fun i hi => by rw [setRow_other w' g i cs (by omega)]; exact hb.block i hi⟩
theorem wv_get (l : List W32) (i : Nat) (h : i < l.length) : (wv l)[i]? = some (.int .u32 ((l.getD i 0).toNat : Int)) := by
  simp [wv, h]
theorem YA {w : World} {g : Nat} {l : List W32} {t : TypeId} {fr : Nat × Nat} (h : w.heap[g]? = some (.cells (wv l).toArray t fr)) {i : Nat} (hi : i < l.length) : w.cell? ⟨g, i, none⟩ = some (.int .u32 ((l.getD i 0).toNat : Int)) :=
  Z4 h (by rw [List.getElem?_toArray]; exact wv_get l i hi)
theorem wv_set (l : List W32) (i : Nat) (x : W32) : (wv l).toArray.setIfInBounds i (.int .u32 (x.toNat : Int)) = (wv (l.set i x)).toArray := by
  rw [List.setIfInBounds_toArray]; simp [wv, List.map_set]
theorem XT {w : World} {g : Nat} {l : List W32} {t : TypeId} {fr : Nat × Nat} (h : w.heap[g]? = some (.cells (wv l).toArray t fr)) (i : Nat) (x : W32) :
    (w.setCell ⟨g, i, none⟩ (.int .u32 (x.toNat : Int))).heap[g]? = some (.cells (wv (l.set i x)).toArray t fr) := by
  rw [← wv_set]; exact ZB _ h
end Go.Proofs.Ytkncomkncfcecaa
set_option linter.unusedVariables false
set_option linter.unusedSimpArgs false
namespace Go.Proofs.Ytkncomkncfcecaa
open Go.RowKit
theorem ror_code (x : W32) (n m : Nat) (hm : m + n = 32) : bits .or .u32 ((x.toNat : Int) / 2 ^ n) ((x.toNat : Int) * 2 ^ m % 4294967296) = ((ror x n).toNat : Int) := by
  have h1 : ((x.toNat : Int) / 2 ^ n) = ((x.toNat / 2 ^ n : Nat) : Int) := by simp
  have h2 : ((x.toNat : Int) * 2 ^ m % 4294967296) = ((x.toNat * 2 ^ m % 4294967296 : Nat) : Int) := by simp
  have hx := x.isLt
  rw [h1, h2, u32_or_nat _ _ (Nat.lt_of_le_of_lt (Nat.div_le_self _ _) hx) (Nat.mod_lt _ (by omega))]
  unfold ror
  rw [BitVec.toNat_or, BitVec.toNat_ushiftRight, BitVec.toNat_shiftLeft, Nat.shiftRight_eq_div_pow, Nat.shiftLeft_eq, show 32 - n = m by omega]
theorem ror_code2 (x : W32) (n m : Nat) (hm : m + n = 32) : bits .or .u32 ((x.toNat : Int) * 2 ^ m % 4294967296) ((x.toNat : Int) / 2 ^ n) = ((ror x n).toNat : Int) := by
  rw [← ror_code x n m hm]
  have h1 : ((x.toNat : Int) / 2 ^ n) = ((x.toNat / 2 ^ n : Nat) : Int) := by simp
  have h2 : ((x.toNat : Int) * 2 ^ m % 4294967296) = ((x.toNat * 2 ^ m % 4294967296 : Nat) : Int) := by simp
  have hx := x.isLt
  rw [h1, h2, u32_or_nat _ _ (Nat.lt_of_le_of_lt (Nat.div_le_self _ _) hx) (Nat.mod_lt _ (by omega)), u32_or_nat _ _ (Nat.mod_lt _ (by omega)) (Nat.lt_of_le_of_lt (Nat.div_le_self _ _) hx), Nat.or_comm]
theorem neg31 : ∀ n : Fin 32, 0 < n.1 → bits .and .u64 (IntKind.u64.wrap (-(n.1 : Int))) 31 = ((32 - n.1 : Nat) : Int) := by decide
theorem rotl_any (x : W32) (n m : Nat) (hn : 0 < n) (hn2 : n < 32) (hm : m + n = 32) (w : World) :
    Calls Try.prog 106 #[.int .u32 (x.toNat : Int), .int .i64 (-(n : Int))] w fun e w' => e = .returned (.int .u32 ((ror x n).toNat : Int)) ∧ w = w' := by
  have he := neg31 ⟨n, hn2⟩ hn
  dsimp only at he
  rw [show 32 - n = m by omega] at he
  have hf := ror_code2 x n m hm
  have HF := Lib.hid hf
  have hm2 : (m : Int) < 64 := by omega
  have hmn : (32 : Int) - m = n := by omega
  clear hf
  go_enter Try.func106, Try.ntmps106
  go_wp2_with fail
  go_ret
  rw [← HF.out]
  exact ⟨rfl, rfl⟩
theorem right_any (x : W32) (n : Nat) (hn : 0 < n) (hn2 : n < 32) (w : World) :
    Calls Try.prog 101 #[.int .u32 (x.toNat : Int), .int .i64 (n : Int)] w fun e w' => e = .returned (.int .u32 ((ror x n).toNat : Int)) ∧ w = w' := by
  go_enter Try.func101, Try.ntmps101
  go_wp2_with (go_at_call 106; refine Calls.mono (rotl_any x n (32 - n) hn hn2 (by omega) _) ?_; rintro e w1 ⟨rfl, rfl⟩)
  go_ret
  exact ⟨rfl, rfl⟩
theorem rot_any (x : W32) (n : Nat) (hn : 0 < n) (hn2 : n < 32) (w : World) :
    Calls Try.prog 42 #[.int .u32 (x.toNat : Int), .int .u64 (n : Int)] w fun e w' => e = .returned (.int .u32 ((ror x n).toNat : Int)) ∧ w = w' := by
  have hf := ror_code x n (32 - n) (by omega)
  have HF := Lib.hid hf
  clear hf
  go_enter Try.func42, Try.ntmps42
  go_wp2_with fail
  go_ret
  exact ⟨Wb HF.out, rfl⟩
theorem Xn (x : W32) (N : Int) (n : Nat) (hN : N = n) (hn : 0 < n) (hn2 : n < 32) (w : World) :
    Calls Try.prog 101 #[.int .u32 (x.toNat : Int), .int .i64 N] w fun e w' => e = .returned (.int .u32 ((ror x n).toNat : Int)) ∧ w' = w := by
  subst hN
  exact (right_any x n hn hn2 w).mono fun _ _ h => ⟨h.1, h.2.symm⟩
theorem WI (x : W32) (N : Int) (n : Nat) (hN : N = n) (hn : 0 < n) (hn2 : n < 32) (w : World) :
    Calls Try.prog 42 #[.int .u32 (x.toNat : Int), .int .u64 N] w fun e w' => e = .returned (.int .u32 ((ror x n).toNat : Int)) ∧ w' = w := by
  subst hN
  exact (rot_any x n hn hn2 w).mono fun _ _ h => ⟨h.1, h.2.symm⟩
theorem keysInfo : (Try.prog.info? 81).map (·.size) = some 64 := by kernel_rfl
theorem keysUnder : Try.prog.underlying 81 = some (.array 64 80) := by kernel_rfl
def z64 : List W32 := List.replicate 64 0
theorem XR : z64.length = 64 := List.length_replicate
theorem z64Zero : (Try.prog.info? 81).bind (·.zero) = some (.agg (wv z64).toArray) := zero_of z64 (by kernel_rfl)
theorem XJ (l : List W32) : (wv l).toArray.size = l.length := by simp [wv]
theorem XN : ks.length = 64 := by kernel_rfl
theorem keys_any (w : World) : Calls Try.prog 100 #[] w fun e w' => e = .returned (.agg (wv ks).toArray) ∧ Below w.heap.size w w' := by
  go_enter Try.func100, Try.ntmps100
  go_wp2_with (first
    | (with_reducible refine Yg rfl 81 rfl z64Zero ?_)
    | (with_reducible refine Wk rfl 81 _ ks rfl (by kernel_rfl) ?_)
    | (refine wpList_store_row rfl 81 _ _ rfl w.heap.size (wv ks).toArray rfl rfl 81 (wv z64).toArray ?_ keysInfo ?_ (X6 _) ?_))
  · exact heap_alloc_new _ _
  · kernel_rfl
  · exact bodyPost_ret (v := .agg (wv ks).toArray) (results_cell_row rfl _ _ w.heap.size 81 (wv ks).toArray (0, 0) _ rfl (ZQ (heap_alloc_new _ _)) keysUnder rfl keysInfo) rfl ⟨rfl, ZY ((Below.refl _ _).alloc (Nat.le_refl _) _) (Nat.le_refl _) _⟩
theorem words_any (w : World) : Calls Try.prog 41 #[] w fun e w' => e = .returned (.agg (wv ks).toArray) ∧ Below w.heap.size w w' := by
  go_enter Try.func41, Try.ntmps41
  go_wp2_with (first
    | (with_reducible refine Yg rfl 81 rfl z64Zero ?_)
    | (with_reducible refine Wk rfl 81 _ ks rfl (by kernel_rfl) ?_)
    | (refine wpList_store_row rfl 81 _ _ rfl w.heap.size (wv ks).toArray rfl rfl 81 (wv z64).toArray ?_ keysInfo ?_ (X6 _) ?_))
  · exact heap_alloc_new _ _
  · kernel_rfl
  · exact bodyPost_ret (v := .agg (wv ks).toArray) (results_cell_row rfl _ _ w.heap.size 81 (wv ks).toArray (0, 0) _ rfl (ZQ (heap_alloc_new _ _)) keysUnder rfl keysInfo) rfl ⟨rfl, ZY ((Below.refl _ _).alloc (Nat.le_refl _) _) (Nat.le_refl _) _⟩
theorem stInfo : (Try.prog.info? 129).map (·.size) = some 8 := by kernel_rfl
theorem stUnder : Try.prog.underlying 129 = some (.array 8 80) := by kernel_rfl
def z8 : List W32 := List.replicate 8 0
theorem z8Zero : (Try.prog.info? 129).bind (·.zero) = some (.agg (wv z8).toArray) := zero_of z8 (by kernel_rfl)
theorem begun_any (w : World) : Calls Try.prog 86 #[] w fun e w' => e = .returned (.agg (wv st0.words).toArray) ∧ Below w.heap.size w w' := by
  go_enter Try.func86, Try.ntmps86
  go_wp2_with (first
    | (with_reducible refine Yg rfl 129 rfl z8Zero ?_)
    | (with_reducible refine Wk rfl 129 _ st0.words rfl (by kernel_rfl) ?_)
    | (refine wpList_store_row rfl 129 _ _ rfl w.heap.size (wv st0.words).toArray rfl rfl 129 (wv z8).toArray ?_ stInfo ?_ (X6 _) ?_))
  · exact heap_alloc_new _ _
  · kernel_rfl
  · exact bodyPost_ret (v := .agg (wv st0.words).toArray) (results_cell_row rfl _ _ w.heap.size 129 (wv st0.words).toArray (0, 0) _ rfl (ZQ (heap_alloc_new _ _)) stUnder rfl stInfo) rfl ⟨rfl, ZY ((Below.refl _ _).alloc (Nat.le_refl _) _) (Nat.le_refl _) _⟩
end Go.Proofs.Ytkncomkncfcecaa
set_option linter.unusedVariables false
set_option linter.unusedSimpArgs false
namespace Go.Proofs.Ytkncomkncfcecaa
open Go.RowKit
theorem Wo {w : World} {g : Nat} {l : List UInt8} {k : Nat} {rest : List W32} {t : TypeId} {fr : Nat × Nat} (h : w.heap[g]? = some (.cells (wv (wl l k ++ rest)).toArray t fr)) {i : Nat} (hi : i < k) : w.cell? ⟨g, i, none⟩ = some (.int .u32 (((wl l k).getD i 0).toNat : Int)) := by
  rw [YA h (i := i) (by simp [YJ]; omega), List.getD_eq_getElem?_getD, List.getElem?_append_left (by rw [YJ]; exact hi), List.getD_eq_getElem?_getD]
theorem Ws {w : World} {b o n : Nat} {l : List UInt8} (h : Bs w (some ⟨b, o, none⟩) n l) {k : Nat} (hk : k < n) : ∃ x, Hid (l.getD k 0 = x) ∧ w.cell? ⟨b, o + k, none⟩ = some (.int .u8 ((x : UInt8).toNat : Int)) := by
  have hl : k < l.length := by rw [h.len]; exact hk
  refine ⟨l.getD k 0, rfl, ?_⟩
  rw [List.getD_eq_getElem?_getD, List.getElem?_eq_getElem hl]
  exact h.cellAt hl
set_option maxRecDepth 100000 in
set_option maxHeartbeats 2000000 in
theorem spread_any (A : Option Addr) (n c : Nat) (l : List UInt8) (w : World) (hA : Bs w A n l) (hn : 64 ≤ n) (hn2 : n ≤ 140737488355328) :
    Calls Try.prog 99 #[.slice A n c] w fun e w' => e = .returned (.agg (wv (wl l 64)).toArray) ∧ Below w.heap.size w w' := by
  obtain ⟨b, o, rfl⟩ := hA.some_ (by omega)
  go_enter Try.func99, Try.ntmps99
  go_wp2_with (with_reducible refine Yg rfl 81 rfl z64Zero ?_)
  obtain ⟨w2, hw2⟩ : ∃ w2, w2 = (w.alloc (.cells (wv z64).toArray 81)).alloc (.cells (wv z64).toArray 81) := ⟨_, rfl⟩
  have hb2 : Below w.heap.size w w2 := by rw [hw2]; exact ((Below.refl _ _).alloc (Nat.le_refl _) _).alloc (by simp) _
  have hg0 : w2.heap[w.heap.size]? = some (.cells (wv z64).toArray 81 (0, 0)) := by rw [hw2]; exact (Wp _ _ _).1
  have hg1 : w2.heap[w.heap.size + 1]? = some (.cells (wv z64).toArray 81 (0, 0)) := by rw [hw2]; exact (Wp _ _ _).2
  rw [← hw2]
  clear hw2
  have hsz := hb2.size
  obtain ⟨g0, hg0e⟩ : ∃ g0, w.heap.size = g0 := ⟨_, rfl⟩
  obtain ⟨g1, hg1e⟩ : ∃ g1, w.heap.size + 1 = g1 := ⟨_, rfl⟩
  rw [hg1e] at hg1 ⊢
  rw [hg0e] at hg0 ⊢
  have hne : g0 ≠ g1 := by omega
  have hB : w.heap.size ≤ g0 := by omega
  have hB1 : w.heap.size ≤ g1 := by omega
  clear hg0e hg1e hsz
  go_loopw [8] (fun i wr => ∃ (k : Nat), k ≤ 16 ∧ i = .int .i64 k ∧ Below w.heap.size w wr ∧ wr.heap[g0]? = some (.cells (wv z64).toArray 81 (0, 0)) ∧ wr.heap[g1]? = some (.cells (wv (wl l k ++ List.replicate (64 - k) 0)).toArray 81 (0, 0))) (fun i _ => 16 - (intOf i).toNat)
  case atStart => exact ⟨0, by omega, rfl, hb2, hg0, hg1⟩
  case round =>
    clear hb2 hg0 hg1
    obtain ⟨k, hk, rfl, hb, h0, h1⟩ := hrel
    by_cases hlt : k < 16
    · have hk1 : (k : Int) < 16 := by omega
      have hk64 : (k : Int) < 64 := by omega
      have hk0 : (0 : Int) ≤ k := by omega
      have e0 : IntKind.i64.wrap (4 * (k : Int)) = 4 * k := IntWalk.i64_in _ (by omega)
      have e1 : IntKind.i64.wrap (4 * (k : Int) + 1) = 4 * k + 1 := IntWalk.i64_in _ (by omega)
      have e2 : IntKind.i64.wrap (4 * (k : Int) + 2) = 4 * k + 2 := IntWalk.i64_in _ (by omega)
      have e3 : IntKind.i64.wrap (4 * (k : Int) + 3) = 4 * k + 3 := IntWalk.i64_in _ (by omega)
      have t0 : (4 * (k : Int)).toNat = 4 * k := by omega
      have t1 : (4 * (k : Int) + 1).toNat = 4 * k + 1 := by omega
      have t2 : (4 * (k : Int) + 2).toNat = 4 * k + 2 := by omega
      have t3 : (4 * (k : Int) + 3).toNat = 4 * k + 3 := by omega
      have i0 : 4 * (k : Int) < n := by omega
      have i1 : 4 * (k : Int) + 1 < n := by omega
      have i2 : 4 * (k : Int) + 2 < n := by omega
      have i3 : 4 * (k : Int) + 3 < n := by omega
      have j0 : 0 ≤ 4 * (k : Int) := by omega
      have j1 : 0 ≤ 4 * (k : Int) + 1 := by omega
      have j2 : 0 ≤ 4 * (k : Int) + 2 := by omega
      have j3 : 0 ≤ 4 * (k : Int) + 3 := by omega
      have hl := hA.len
      obtain ⟨x0, hx0, c0⟩ := Ws hA (show 4 * k < n by omega)
      obtain ⟨x1, hx1, c1⟩ := Ws hA (show 4 * k + 1 < n by omega)
      obtain ⟨x2, hx2, c2⟩ := Ws hA (show 4 * k + 2 < n by omega)
      obtain ⟨x3, hx3, c3⟩ := Ws hA (show 4 * k + 3 < n by omega)
      replace c0 := Keeps.of_below hb _ _ c0
      replace c1 := Keeps.of_below hb _ _ c1
      replace c2 := Keeps.of_below hb _ _ c2
      replace c3 := Keeps.of_below hb _ _ c3
      have HL := Lib.hid hl
      clear hl
      go_upto_region 5 with fail
      go_still_tail 35, (by kernel_rfl)
      change wpList _ _ _ _ _ wr.drew
      have hb := hb.drew
      have h0 : wr.drew.heap[g0]? = some (.cells (wv z64).toArray 81 (0, 0)) := h0
      have h1 : wr.drew.heap[g1]? = some (.cells (wv (wl l k ++ List.replicate (64 - k) 0)).toArray 81 (0, 0)) := h1
      generalize wr.drew = w3 at *
      have d1 : w3.cell? ⟨g1, k, none⟩ = some (.int .u32 (((wl l k ++ List.replicate (64 - k) 0).getD k 0).toNat : Int)) := YA h1 (by simp [YJ]; omega)
      have f1 : w3.frozen? ⟨g1, k, none⟩ = false := Z6 h1
      have H0 := Lib.hid h0
      have H1 := Lib.hid h1
      have E1 : Hid _ := Lib.hid (be4_code x0 x1 x2 x3)
      have E2 : be4 x0 x1 x2 x3 = be32 l (4 * k) := by unfold be32; rw [hx0.out, hx1.out, hx2.out, hx3.out]
      have E2 := Lib.hid E2
      clear c0 c1 c2 c3 h0 h1 e0 e1 e2 e3 t0 t1 t2 t3 i0 i1 i2 i3 j0 j1 j2 j3 hx0 hx1 hx2 hx3
      go_wp2_with fail
      go_roundw
      case rel =>
        rw [E1.out, E2.out]
        refine ⟨k + 1, by omega, by go_num, hb.setCell hB1 _, ?_, ?_⟩
        · rw [Below.heap_setCell _ _ _ _ hne]; exact H0.out
        · rw [XT H1.out, wl_set l k (by omega) _ (by simp) _ (wl_low l k hlt), List.tail_replicate, Nat.sub_sub]
      case measure => simp [intOf]; omega
    · rw [show (k : Int) = 16 by omega]
      obtain rfl : k = 16 := by omega
      go_wp2_with fail
      go_loopw [5] (fun i wr => ∃ (k : Nat), 16 ≤ k ∧ k ≤ 64 ∧ i = .int .i64 k ∧ Below w.heap.size w wr ∧ wr.heap[g0]? = some (.cells (wv z64).toArray 81 (0, 0)) ∧ wr.heap[g1]? = some (.cells (wv (wl l k ++ List.replicate (64 - k) 0)).toArray 81 (0, 0))) (fun i _ => 64 - (intOf i).toNat)
      case atStart => exact ⟨16, by omega, by omega, rfl, hb, h0, h1⟩
      case round =>
        clear hb h0 h1
        obtain ⟨k, hk16, hk64, rfl, hb, h0, h1⟩ := hrel
        by_cases hlt : k < 64
        · have hk1 : (k : Int) < 64 := by omega
          have hk0 : (0 : Int) ≤ k := by omega
          have e15 : IntKind.i64.wrap ((k : Int) - 15) = k - 15 := IntWalk.i64_in _ (by omega)
          have e2 : IntKind.i64.wrap ((k : Int) - 2) = k - 2 := IntWalk.i64_in _ (by omega)
          have e16 : IntKind.i64.wrap ((k : Int) - 16) = k - 16 := IntWalk.i64_in _ (by omega)
          have e7 : IntKind.i64.wrap ((k : Int) - 7) = k - 7 := IntWalk.i64_in _ (by omega)
          have t15 : ((k : Int) - 15).toNat = k - 15 := by omega
          have t2 : ((k : Int) - 2).toNat = k - 2 := by omega
          have t16 : ((k : Int) - 16).toNat = k - 16 := by omega
          have t7 : ((k : Int) - 7).toNat = k - 7 := by omega
          have i15 : (k : Int) - 15 < 64 := by omega
          have i2 : (k : Int) - 2 < 64 := by omega
          have i16 : (k : Int) - 16 < 64 := by omega
          have i7 : (k : Int) - 7 < 64 := by omega
          have j15 : 0 ≤ (k : Int) - 15 := by omega
          have j2 : 0 ≤ (k : Int) - 2 := by omega
          have j16 : 0 ≤ (k : Int) - 16 := by omega
          have j7 : 0 ≤ (k : Int) - 7 := by omega
          have q16 : (16 : Int) ≤ k := by omega
          have q7 : (7 : Int) ≤ k := by omega
          have q15 : (15 : Int) ≤ k := by omega
          have q2 : (2 : Int) ≤ k := by omega
          have c15 := Wo h1 (show k - 15 < k by omega)
          have c2 := Wo h1 (show k - 2 < k by omega)
          have c16 := Wo h1 (show k - 16 < k by omega)
          have c7 := Wo h1 (show k - 7 < k by omega)
          have EW := Lib.hid (wl_high l k hk16)
          generalize (wl l k).getD (k - 15) 0 = x15 at c15 EW
          generalize (wl l k).getD (k - 2) 0 = x2 at c2 EW
          generalize (wl l k).getD (k - 16) 0 = x16 at c16 EW
          generalize (wl l k).getD (k - 7) 0 = x7 at c7 EW
          have H0 := Lib.hid h0
          have H1 := Lib.hid h1
          clear h0 h1
          go_upto_region 10 with fail
          go_quiet (fail)
          have hb := Yb hb nq
          have H0 : Hid ((wr.drewN nq).heap[g0]? = some (.cells (wv z64).toArray 81 (0, 0))) := H0
          have H1 : Hid ((wr.drewN nq).heap[g1]? = some (.cells (wv (wl l k ++ List.replicate (64 - k) 0)).toArray 81 (0, 0))) := H1
          have c16 : (wr.drewN nq).cell? ⟨g1, k - 16, none⟩ = some (.int .u32 (x16.toNat : Int)) := c16
          have c7 : (wr.drewN nq).cell? ⟨g1, k - 7, none⟩ = some (.int .u32 (x7.toNat : Int)) := c7
          generalize wr.drewN nq = w3 at *
          go_upto_region 11 with fail
          refine wp_region_still_tail 29 (by kernel_rfl) (by kernel_rfl) ?_
          simp only [List.take_succ_cons, List.take_zero, List.drop_succ_cons, List.drop_zero]
          repeat still_step
          still_call (Xn x15 7 7 rfl (by omega) (by omega) _)
          repeat still_step
          still_call (Xn x15 18 18 rfl (by omega) (by omega) _)
          repeat still_step
          still_call (Xn x2 17 17 rfl (by omega) (by omega) _)
          repeat still_step
          still_call (Xn x2 19 19 rfl (by omega) (by omega) _)
          repeat still_step
          refine wpStill_nil ?_
          change wpList _ _ _ _ _ w3.drew
          have hb := hb.drew
          have H0 : Hid (w3.drew.heap[g0]? = some (.cells (wv z64).toArray 81 (0, 0))) := H0
          have H1 : Hid (w3.drew.heap[g1]? = some (.cells (wv (wl l k ++ List.replicate (64 - k) 0)).toArray 81 (0, 0))) := H1
          generalize w3.drew = w4 at *
          have d1 : w4.cell? ⟨g1, k, none⟩ = some (.int .u32 (((wl l k ++ List.replicate (64 - k) 0).getD k 0).toNat : Int)) := YA H1.out (by simp [YJ]; omega)
          have f1 : w4.frozen? ⟨g1, k, none⟩ = false := Z6 H1.out
          clear e15 e2 e16 e7 t15 t2 t16 t7 i15 i2 i16 i7 j15 j2 j16 j7 c15 c2 c16 c7
          have E1 := Lib.hid (next_code x16 x15 x7 x2)
          go_wp2_with fail
          go_roundw
          case rel =>
            refine ⟨k + 1, by omega, by omega, by go_num, hb.setCell hB1 _, by rw [Below.heap_setCell _ _ _ _ hne]; exact H0.out, ?_⟩
            rw [E1.out, XT H1.out, wl_set l k (by omega) _ (by simp) _ EW.out, List.tail_replicate, Nat.sub_sub]
          case measure => simp [intOf]; omega
        · obtain rfl : k = 64 := by omega
          have hsz : (wl l 64).length = 64 := YJ l 64
          generalize hL : wl l 64 = L at h1 hsz
          have HE := Lib.hid hL
          clear hL
          have h1 : wr.heap[g1]? = some (.cells (wv L).toArray 81 (0, 0)) := by rw [h1]; simp
          have HI : Hid ((Try.prog.info? 81).map (·.size) = some (wv L).toArray.size) := by
            show _ = _
            rw [keysInfo, XJ, hsz]
          have HZ : Hid ((wv z64).toArray.size = (wv L).toArray.size) := by
            show _ = _
            rw [XJ, XJ, hsz, XR]
          have H0 := Lib.hid h0
          have H1 := Lib.hid h1
          clear hsz h0 h1
          go_wp2_with (first
            | (refine wpList_load_row rfl 81 _ rfl g1 rfl 81 (wv L).toArray (0, 0) _ H1.out keysUnder rfl HI.out ?_)
            | (refine wpList_store_row rfl 81 _ _ rfl g0 (wv L).toArray rfl rfl 81 (wv z64).toArray H0.out HI.out HZ.out (X6 _) ?_))
          exact bodyPost_ret (v := .agg (wv L).toArray) (results_cell_row (p := 2) (ty := 81) rfl _ _ g0 81 (wv L).toArray (0, 0) _ rfl (ZQ H0.out) keysUnder rfl HI.out) rfl ⟨by rw [HE.out], ZY hb hB _⟩
end Go.Proofs.Ytkncomkncfcecaa
