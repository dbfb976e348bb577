/- Arrays in memory: laid zero, a table's literal, the whole of one read, written. -/
import Derived.Test.YtblidiecahpekaaChecked
import Derived.Test.YtblidiecahpekaaShaPlain
import Derived.Laws.Tables
import Derived.Laws.Rows
set_option linter.unusedVariables false
set_option linter.unusedSimpArgs false
namespace Go.Proofs.Ytblidiecahpekaa
open Go.RowKit

def chkW : List W32 → List Value → Bool
  | [], [] => true
  | x :: xs, .int .u32 n :: vs => (n == (x.toNat : Int)) && chkW xs vs
  | _, _ => false
theorem chkW_eq : ∀ (l : List W32) (vs : List Value), chkW l vs = true → vs = wv l
  | [], [], _ => rfl
  | x :: xs, v :: vs, h => by
    unfold chkW at h
    split at h
    · cases ‹_ :: _ = []›
    · rename_i y ys n us h1 h2
      injection h1 with h1 h3
      injection h2 with h2 h4
      subst h1; subst h3; subst h2; subst h4
      simp only [Bool.and_eq_true, beq_iff_eq] at h
      rw [chkW_eq _ _ h.2, h.1]
      rfl
    · cases h
  | [], _ :: _, h => by simp [chkW] at h
  | _ :: _, [], h => by simp [chkW] at h
theorem chkW_arr (l : List W32) (a : Array Value) (h : chkW l a.toList = true) : a = (wv l).toArray := by
  rw [← chkW_eq l _ h]
def chkB : List UInt8 → List Value → Bool
  | [], [] => true
  | x :: xs, .int .u8 n :: vs => (n == (x.toNat : Int)) && chkB xs vs
  | _, _ => false
theorem chkB_eq : ∀ (l : List UInt8) (vs : List Value), chkB l vs = true → vs = bv l
  | [], [], _ => rfl
  | x :: xs, v :: vs, h => by
    unfold chkB at h
    split at h
    · cases ‹_ :: _ = []›
    · rename_i y ys n us h1 h2
      injection h1 with h1 h3
      injection h2 with h2 h4
      subst h1; subst h3; subst h2; subst h4
      simp only [Bool.and_eq_true, beq_iff_eq] at h
      rw [chkB_eq _ _ h.2, h.1]
      rfl
    · cases h
  | [], _ :: _, h => by simp [chkB] at h
  | _ :: _, [], h => by simp [chkB] at h
theorem chkB_arr (l : List UInt8) (a : Array Value) (h : chkB l a.toList = true) : a = (bv l).toArray := by
  rw [← chkB_eq l _ h]
theorem built_of {t : TypeId} {ps : List (Nat × Value)} (l : List W32) (h : ((Try.prog.built t ps).map fun a => chkW l a.toList) = some true) : Try.prog.built t ps = some (wv l).toArray := by
  cases hb : Try.prog.built t ps with
  | none => rw [hb] at h; cases h
  | some a =>
    rw [hb] at h
    simp only [Option.map_some, Option.some.injEq] at h
    rw [chkW_arr l a h]
/-- a table's literal -/
theorem wpList_table {ops : Array Oper} {rest : List Oper} {o : Oper} {a : Act} {w : World} {Q : Exit → Act → World → Prop} (hgd : o.guard = none) (t : TypeId) (parts : Array (Nat × Operand)) (l : List W32) (ho : o.op = .build t parts)
    (hb : ((Try.prog.built t (parts.map fun (i, x) => (i, a.eval x)).toList).map fun a => chkW l a.toList) = some true)
    (h : wpList Try.prog ops Q rest (a.put o.dst (.agg (wv l).toArray)) w) : wpList Try.prog ops Q (o :: rest) a w :=
  wpList_plain hgd fun _ hK => by
    have hb := built_of l hb
    refine wp_build t parts ho (by rw [hb]; rfl) ?_
    rw [hb]
    exact hK _ _ h
/-- a literal of whatever values, its cells said -/
theorem wpList_buildTo {P : Program} {ops : Array Oper} {rest : List Oper} {o : Oper} {a : Act} {w : World} {Q : Exit → Act → World → Prop} (hgd : o.guard = none) (t : TypeId) (parts : Array (Nat × Operand)) (ho : o.op = .build t parts) (cells : Array Value)
    (hb : P.built t (parts.map fun (i, x) => (i, a.eval x)).toList = some cells)
    (h : wpList P ops Q rest (a.put o.dst (.agg cells)) w) : wpList P ops Q (o :: rest) a w :=
  wpList_plain hgd fun _ hK => by
    refine wp_build t parts ho (by rw [hb]; rfl) ?_
    rw [hb]
    exact hK _ _ h
/-- a variable of an array's type is laid -/
theorem run_alloc_row {P : Program} {t : TypeId} {cs : Array Value} (h : (P.info? t).bind (·.zero) = some (.agg cs)) (old : Value) (w : World) :
    (Instr.alloc t true old).run P w = .ok (.pointer (some ⟨w.heap.size, 0, none⟩)) (w.alloc (.cells cs t)) := by
  cases hi : P.info? t with
  | none => rw [hi] at h; cases h
  | some i =>
    rw [hi] at h
    simp only [Option.bind_some] at h
    simp [Instr.alloc, zeroValue, typeInfo, hi, h, newVar, newRow, newObj, go_sem, Value.cells]
    rfl
theorem zero_of {t : TypeId} (l : List W32) (h : ((Try.prog.info? t).bind (·.zero)).map (fun v => match v with | .agg a => chkW l a.toList | _ => false) = some true) : (Try.prog.info? t).bind (·.zero) = some (.agg (wv l).toArray) := by
  cases hz : (Try.prog.info? t).bind (·.zero) with
  | none => rw [hz] at h; cases h
  | some v =>
    rw [hz] at h
    simp only [Option.map_some, Option.some.injEq] at h
    split at h
    · rw [chkW_arr l _ h]
    · cases h
theorem zeroB_of {t : TypeId} (l : List UInt8) (h : ((Try.prog.info? t).bind (·.zero)).map (fun v => match v with | .agg a => chkB l a.toList | _ => false) = some true) : (Try.prog.info? t).bind (·.zero) = some (.agg (bv l).toArray) := by
  cases hz : (Try.prog.info? t).bind (·.zero) with
  | none => rw [hz] at h; cases h
  | some v =>
    rw [hz] at h
    simp only [Option.map_some, Option.some.injEq] at h
    split at h
    · rw [chkB_arr l _ h]
    · cases h
theorem wpList_alloc_row {P : Program} {ops : Array Oper} {rest : List Oper} {o : Oper} {a : Act} {w : World} {Q : Exit → Act → World → Prop} (hgd : o.guard = none) (t : TypeId) (ho : o.op = .alloc t) {cs : Array Value}
    (hz : (P.info? t).bind (·.zero) = some (.agg cs))
    (h : wpList P ops Q rest (a.put o.dst (.pointer (some ⟨w.heap.size, 0, none⟩))) (w.alloc (.cells cs t))) : wpList P ops Q (o :: rest) a w :=
  wpList_plain hgd fun K hK => by
    unfold Oper.wp execOp
    simp only [ho, Sem.run_bind, run_alloc_row hz, Result.andThen_ok]
    exact hK _ _ h
/-- the whole of an array is loaded -/
theorem run_loadRowOp {P : Program} {o : Oper} {A : Act} {W : World} (ty : TypeId) (t : Tmp) (ho : o.op = .load ty (.tmp t)) {g : Nat} {t' : TypeId} {cs : Array Value} {fr : Nat × Nat} {d : TypeDesc} (hx : A.tmps[t]?.getD undef = .pointer (some ⟨g, 0, none⟩)) (hg : W.heap[g]? = some (.cells cs t' fr))
    (hu : P.underlying ty = some d) (hd : (match d with | .struct _ | .array _ _ => true | _ => false) = true) (hi : (P.info? ty).map (·.size) = some cs.size) :
    (execOp A.eval o).run P W = .ok (.value (.agg cs)) W := by
  have hx' : A.eval (.tmp t) = .pointer (some ⟨g, 0, none⟩) := by rw [← hx]; exact Array.getD_eq_getD_getElem? ..
  unfold execOp
  simp only [ho, hx', Instr.loadAt, Instr.sureAddr, Sem.run_bind, Sem.run_pure, Result.andThen_ok, run_loadVar_row W g t' ty cs fr d hg hu hd hi]
theorem wv_one (l : List W32) : (wv l).toArray.all (·.oneCell') = true := by
  rw [List.all_toArray, List.all_eq_true]
  intro v hv
  simp only [wv, List.mem_map] at hv
  obtain ⟨x, _, rfl⟩ := hv
  rfl
theorem bv_one' (l : List UInt8) : (bv l).toArray.all (·.oneCell') = true := by
  rw [List.all_toArray, List.all_eq_true]
  exact bv_one l
/-- a whole array written into a block that is known -/
theorem setRow_block {w : World} {g : Nat} {old cs : Array Value} {t : TypeId} {fr : Nat × Nat} (hg : w.heap[g]? = some (.cells old t fr)) : (w.setRow g cs).heap[g]? = some (.cells cs t fr) := setRow_heap w g old cs t fr hg
theorem below_setRow {B : Nat} {w w' : World} (hb : Below B w w') {g : Nat} (hg : B ≤ g) (cs : Array Value) : Below B w (w'.setRow g cs) :=
  ⟨hb.os, hb.tape, hb.output, by rw [setRow_size]; exact hb.size, fun i hi => by rw [setRow_other w' g i cs (by omega)]; exact hb.block i hi⟩
theorem wv_get (l : List W32) (i : Nat) (h : i < l.length) : (wv l)[i]? = some (.int .u32 ((l.getD i 0).toNat : Int)) := by
  simp [wv, h]
theorem wv_cell {w : World} {g : Nat} {l : List W32} {t : TypeId} {fr : Nat × Nat} (h : w.heap[g]? = some (.cells (wv l).toArray t fr)) {i : Nat} (hi : i < l.length) : w.cell? ⟨g, i, none⟩ = some (.int .u32 ((l.getD i 0).toNat : Int)) :=
  cell_of_block h (by rw [List.getElem?_toArray]; exact wv_get l i hi)
theorem wv_set (l : List W32) (i : Nat) (x : W32) : (wv l).toArray.setIfInBounds i (.int .u32 (x.toNat : Int)) = (wv (l.set i x)).toArray := by
  rw [List.setIfInBounds_toArray]; simp [wv, List.map_set]
theorem wv_setCell {w : World} {g : Nat} {l : List W32} {t : TypeId} {fr : Nat × Nat} (h : w.heap[g]? = some (.cells (wv l).toArray t fr)) (i : Nat) (x : W32) :
    (w.setCell ⟨g, i, none⟩ (.int .u32 (x.toNat : Int))).heap[g]? = some (.cells (wv (l.set i x)).toArray t fr) := by
  rw [← wv_set]; exact block_setCell _ h
end Go.Proofs.Ytblidiecahpekaa
