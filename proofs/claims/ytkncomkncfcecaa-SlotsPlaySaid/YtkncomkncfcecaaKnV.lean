/- The sparse walk's laws for arrays by value: laid, loaded, stored, built. No program in sight. Literals of structs and arrays with parts of whatever cells: laid part by part. Results of two kinds. No program in sight. Variables of structs' and arrays' types, each a block of its own. No program in sight. Entries of slots as memory: both packages' structs. The sparse walk's laws for a call of a function value, and for copy. -/
import Derived.Test.YtkncomkncfcecaaKn
import Derived.Test.YtkncomkncfcecaaShaSpread
import Derived.Test.YtkncomkncfcecaaFlashLaws
import Derived.Test.YtkncomkncfcecaaSlotP
import Derived.Test.YtkncomkncfcecaaKnF
import Derived.Test.YtkncomkncfcecaaFlashMem
set_option linter.unusedVariables false
set_option linter.unusedSimpArgs false
namespace Go.Proofs.Ytkncomkncfcecaa
open Go.RowKit
section
variable {P : Program} {Q : Exit → Act → World → Prop} {n : Nat} {L : Slots} {w : World} {ops : Array Oper} {rest : List Oper} {o : Oper}
theorem YH {d : Nat} (t : TypeId) {cs : Array Value} (hz : (P.info? t).bind (·.zero) = some (.agg cs)) (hd : o.dst = some d) (hg : o.guard = none) (ho : o.op = .alloc t) (hn : Nat.blt d n = true)
    (h : KL P ops Q rest n ((d, .pointer (some ⟨w.heap.size, 0, none⟩)) :: L) (w.alloc (.cells cs t))) : KL P ops Q (o :: rest) n L w :=
  ⟨fun a k => Yg hg t ho hz (XG k hd hn h)⟩
theorem X2 {d x : Nat} (ty : TypeId) (g : Nat) (t : TypeId) (cs : Array Value) (fr : Nat × Nat) (de : TypeDesc) (hg' : w.heap[g]? = some (.cells cs t fr)) (hu : P.underlying ty = some de) (hde : (match de with | .struct _ | .array _ _ => true | _ => false) = true) (hi : (P.info? ty).map (·.size) = some cs.size)
    (hd : o.dst = some d) (hg : o.guard = none) (ho : o.op = .load ty (.tmp x)) (hx : lk L x = some (.pointer (some ⟨g, 0, none⟩))) (hn : Nat.blt d n = true)
    (h : KL P ops Q rest n ((d, .agg cs) :: L) w) : KL P ops Q (o :: rest) n L w :=
  ⟨fun a k => wpList_load_row hg ty (.tmp x) ho g (k.ev hx) t cs fr de hg' hu hde hi (XG k hd hn h)⟩
theorem YR {x y : Nat} (ty : TypeId) (g : Nat) (cells : Array Value) (t : TypeId) (old : Array Value) (hg' : w.heap[g]? = some (.cells old t (0, 0))) (hi : (P.info? ty).map (·.size) = some cells.size) (hs : old.size = cells.size) (hwv : cells.all (·.oneCell') = true)
    (hd : o.dst = none) (hg : o.guard = none) (ho : o.op = .store ty (.tmp x) (.tmp y)) (hx : lk L x = some (.pointer (some ⟨g, 0, none⟩))) (hy : lk L y = some (.agg cells))
    (h : KL P ops Q rest n L (w.setRow g cells)) : KL P ops Q (o :: rest) n L w :=
  ⟨fun a k => wpList_store_row hg ty (.tmp x) (.tmp y) ho g cells (k.ev hx) (k.ev hy) t old hg' hi hs hwv (kl_back0 k hd h)⟩
theorem Yr {d : Nat} (t : TypeId) (parts : Array (Nat × Operand)) (cells : Array Value) (hd : o.dst = some d) (hg : o.guard = none) (ho : o.op = .build t parts) (hok : (parts.toList.all fun p => okx L p.2) = true) (hn : Nat.blt d n = true)
    (hb : P.built t (parts.toList.map fun p => (p.1, ev L p.2)) = some cells)
    (h : KL P ops Q rest n ((d, .agg cells) :: L) w) : KL P ops Q (o :: rest) n L w :=
  ⟨fun a k => WF hg t parts ho cells (by rw [map_eval2 k parts hok, Array.toList_map]; exact hb) (XG k hd hn h)⟩
end
end Go.Proofs.Ytkncomkncfcecaa
set_option linter.unusedVariables false
set_option linter.unusedSimpArgs false
namespace Go.Proofs.Ytkncomkncfcecaa
open Go.RowKit
theorem below_atK {w W : World} (hR : Below w.heap.size w W) {g : Nat} {x : Obj} (h : w.heap[g]? = some x) : W.heap[g]? = some x := by rw [hR.block _ (Array.getElem?_eq_some_iff.1 h).1]; exact h
theorem fold_part (off : Nat) (xs : List Value) : ∀ (k : Nat) (l : List Value), off + k + xs.length ≤ l.length →
    (xs.zipIdx k).foldl (fun (cs : Array Value) (p : Value × Nat) => cs.setIfInBounds (off + p.2) p.1) l.toArray = (l.take (off + k) ++ xs ++ l.drop (off + k + xs.length)).toArray := by
  induction xs with
  | nil => intro k l h; simp
  | cons x xs ih =>
    intro k l h
    simp only [List.length_cons] at h
    rw [List.zipIdx_cons, List.foldl_cons]
    simp only [List.setIfInBounds_toArray]
    rw [ih (k + 1) (l.set (off + k) x) (by rw [List.length_set]; omega)]
    congr 1
    rw [List.drop_set_of_lt (by omega), show off + (k + 1) = off + k + 1 by omega, List.take_succ_eq_append_getElem (by rw [List.length_set]; omega), List.getElem_set_self, List.take_set_of_le (by omega)]
    simp [Nat.add_assoc, Nat.add_comm 1 xs.length]
theorem YE (place : Nat → Option (Nat × Nat)) (pre rest : List Value) (i : Nat) (v : Value) (xs : List Value) (hv : v.cells = xs.toArray) (hp : place i = some (pre.length, xs.length)) (hl : xs.length ≤ rest.length) (ps : List (Nat × Value)) :
    Instr.fill place (pre ++ rest).toArray ((i, v) :: ps) = Instr.fill place ((pre ++ xs) ++ rest.drop xs.length).toArray ps := by
  rw [Instr.fill, hp]
  simp only [hv, List.size_toArray, List.length_append]
  rw [if_neg (by simp; omega)]
  congr 1
  rw [← Array.foldl_toList, Array.toList_zipIdx]
  have := fold_part pre.length xs 0 (pre ++ rest) (by rw [List.length_append]; omega)
  rw [this]
  simp [List.drop_append]
theorem Xm (place : Nat → Option (Nat × Nat)) (cs : Array Value) : Instr.fill place cs [] = some cs := rfl
theorem YD {P : Program} {t : TypeId} {fields : Array Field} {z : List Value} {places : List (Nat × Nat)} (hz : (P.info? t).bind (·.zero) = some (.agg z.toArray)) (hu : P.underlying t = some (.struct fields))
    (hp : fields.toList.mapM (fun f => (P.info? f.type).map fun i => (f.offset, i.size)) = some places) (parts : List (Nat × Value)) : P.built t parts = Instr.fill (places.toArray[·]?) z.toArray parts := by
  unfold Program.built
  cases hi : P.info? t with
  | none => rw [hi] at hz; simp at hz
  | some it =>
    rw [hi] at hz
    simp only [Option.bind_some] at hz
    simp only [hu, hz, hp]
    rfl
theorem ZW {P : Program} {fn : Func} {p t : Tmp} {ty : TypeId} (h : fn.results = #[.cell p ty, .tmp t]) (tmps : Array Value) (w : World) (g : Nat) (t' : TypeId) (cs : Array Value) (fr : Nat × Nat) (d : TypeDesc) (v : Value)
    (hp : tmps.getD p undef = .pointer (some ⟨g, 0, none⟩)) (hv : tmps.getD t undef = v) (hg : w.heap[g]? = some (.cells cs t' fr))
    (hu : P.underlying ty = some d) (hd : d.isRow = true) (hi : (P.info? ty).map (·.size) = some cs.size) :
    (results fn tmps).run P w = .ok (.tuple #[.agg cs, v]) w := by
  have hp' : tmps[p]?.getD undef = .pointer (some ⟨g, 0, none⟩) := by simpa using hp
  have hv' : tmps[t]?.getD undef = v := by simpa using hv
  have hr := run_loadVar_row w g t' ty cs fr d hg hu (by cases d <;> simp_all) hi
  simp [results, h, hp', hv', asAddr, hr]
theorem setRow_alloc (w : World) (old cs : Array Value) (t : TypeId) : (w.alloc (.cells old t)).setRow w.heap.size cs = w.alloc (.cells cs t) := by
  unfold World.setRow World.alloc
  congr 1
  apply Array.ext
  · simp
  · intro i h1 h2
    simp only [Array.getElem_modify, Array.getElem_push]
    by_cases hi : w.heap.size = i
    · simp [hi]
    · simp only [hi, if_false]
      split
      · rfl
      · rename_i h; simp at h1; omega
theorem kl_var_row {P : Program} {Q : Exit → Act → World → Prop} {N : Nat} {L : Slots} {w : World} {ops : Array Oper} {rest : List Oper} {o o' : Oper} {d y : Nat} {t : TypeId} {z cells : Array Value} (hz : (P.info? t).bind (·.zero) = some (.agg z)) (hi : (P.info? t).map (·.size) = some cells.size) (hs : z.size = cells.size) (hwv : cells.all (·.oneCell') = true)
    (hd : o.dst = some d) (hg : o.guard = none) (ho : o.op = .alloc t) (hd' : o'.dst = none) (hg' : o'.guard = none) (ho' : o'.op = .store t (.tmp d) (.tmp y)) (hy : lk L y = some (.agg cells)) (hne : (d == y) = false) (hn : Nat.blt d N = true)
    (h : KL P ops Q rest N ((d, .pointer (some ⟨w.heap.size, 0, none⟩)) :: L) (w.alloc (.cells cells t))) : KL P ops Q (o :: o' :: rest) N L w := by
  refine YH t hz hd hg ho hn ?_
  refine YR t w.heap.size cells t z (heap_alloc_new _ _) hi hs hwv hd' hg' ho' (Yy _ _ _) (by rw [Yo _ _ _ _ hne]; exact hy) ?_
  rw [setRow_alloc]
  exact h
theorem Vk {P : Program} {t e : TypeId} {z cs : List Value} {size : Nat} (ht : P.underlying t = some (.slice e)) (hz : (P.info? e).bind (·.zero) = some (.agg z.toArray)) (hs : (P.info? e).map (·.size) = some size) (hl : cs.length = size) (h0 : 0 < size) (hm : size ≤ 16777216) (w : World) :
    (Instr.buildSlice t 1 #[(0, .agg cs.toArray)]).run P w = .ok (.slice (some ⟨w.heap.size, 0, none⟩) 1 1) (w.alloc (.cells cs.toArray e)) := by
  cases hi : P.info? e with
  | none => rw [hi] at hs; simp at hs
  | some it =>
    rw [hi] at hs hz
    simp only [Option.map_some, Option.some.injEq, Option.bind_some] at hs hz
    have hsz : (sizeOf e).run P w = .ok size w := by simp [sizeOf, typeInfo, hi, hs]
    have hzz : (zeroValue e).run P w = .ok (.agg z.toArray) w := by simp [zeroValue, typeInfo, hi, hz]
    obtain ⟨l0, hl0, hl1⟩ : ∃ l0 : List Value, ((Array.range size).map ((Value.agg z.toArray).cells[· % (Value.agg z.toArray).cells.size]!)) = l0.toArray ∧ l0.length = size := ⟨_, (Array.toArray_toList).symm, by simp⟩
    have hf := YE (fun i => some (i * size, size)) [] l0 0 (.agg cs.toArray) cs rfl (by simp [hl]) (by omega) []
    rw [Xm, List.nil_append, List.nil_append, List.drop_of_length_le (by omega), List.append_nil] at hf
    have n1 : ¬ (16777216 < size) := by omega
    have n2 : ¬ (size = 0) := by omega
    simp only [Instr.buildSlice, Sem.run_bind, run_underlying ht, Result.andThen_ok, hsz, Nat.one_mul, gt_iff_lt, Nat.reducePow, n1, n2, if_false, Sem.run_pure, hzz, hl0, hf]
    simp [newRow]
theorem XO {P : Program} {Q : Exit → Act → World → Prop} {N : Nat} {L : Slots} {w : World} {ops : Array Oper} {rest : List Oper} {o : Oper} {d x : Nat} {t e : TypeId} {z cs : List Value} {size : Nat}
    (ht : P.underlying t = some (.slice e)) (hz : (P.info? e).bind (·.zero) = some (.agg z.toArray)) (hs : (P.info? e).map (·.size) = some size) (hl : cs.length = size) (h0 : 0 < size) (hm : size ≤ 16777216)
    (hd : o.dst = some d) (hg : o.guard = none) (ho : o.op = .buildSlice t 1 #[(0, .tmp x)]) (hx : lk L x = some (.agg cs.toArray)) (hn : Nat.blt d N = true)
    (h : KL P ops Q rest N ((d, .slice (some ⟨w.heap.size, 0, none⟩) 1 1) :: L) (w.alloc (.cells cs.toArray e))) : KL P ops Q (o :: rest) N L w := by
  refine kl_run hd hg ?_ ?_ h
  · simp [ho, okop, okx, hx, hn]
  · have he : ev L (.tmp x) = .agg cs.toArray := by simp [ev, hx]
    have hr := Vk ht hz hs hl h0 hm w
    simp [execOp, ho, he, hr, Sem.run_bind, Sem.run_pure]
end Go.Proofs.Ytkncomkncfcecaa
set_option linter.unusedVariables false
set_option linter.unusedSimpArgs false
namespace Go.Proofs.Ytkncomkncfcecaa
open Go.RowKit
abbrev Vars := List (Nat × Array Value × TypeId)
def LayV (w : World) (B : Nat) : Vars → Prop
  | [] => True
  | (g, cs, t) :: V => B ≤ g ∧ w.heap[g]? = some (.cells cs t (0, 0)) ∧ (∀ p ∈ V, p.1 < g) ∧ LayV w B V
structure Lay (w0 w : World) (V : Vars) : Prop where
  below : Below w0.heap.size w0 w
  vars : LayV w w0.heap.size V
theorem LayV.keep {w w' : World} {B : Nat} : ∀ {V : Vars}, LayV w B V → (∀ (g : Nat) (x : Obj), w.heap[g]? = some x → w'.heap[g]? = some x) → LayV w' B V
  | [], _, _ => trivial
  | (g, cs, t) :: V, h, k => ⟨h.1, k _ _ h.2.1, h.2.2.1, LayV.keep h.2.2.2 k⟩
theorem LayV.lt {w : World} {B : Nat} : ∀ {V : Vars}, LayV w B V → ∀ p ∈ V, p.1 < w.heap.size
  | [], _, p, hp => by simp at hp
  | (g, cs, t) :: V, h, p, hp => by
    rcases List.mem_cons.1 hp with rfl | hp
    · exact (Array.getElem?_eq_some_iff.1 h.2.1).1
    · exact LayV.lt h.2.2.2 p hp
theorem LayV.get {w : World} {B : Nat} : ∀ {V : Vars}, LayV w B V → ∀ (i : Nat) {g : Nat} {cs : Array Value} {t : TypeId}, V[i]? = some (g, cs, t) → B ≤ g ∧ w.heap[g]? = some (.cells cs t (0, 0))
  | [], _, i, _, _, _, hi => by simp at hi
  | (g', cs', t') :: V, h, i, g, cs, t, hi => by
    cases i with
    | zero => simp at hi; obtain ⟨rfl, rfl, rfl⟩ := hi; exact ⟨h.1, h.2.1⟩
    | succ i => exact LayV.get h.2.2.2 i (by simpa using hi)
theorem LayV.put {w w' : World} {B : Nat} : ∀ {V : Vars}, LayV w B V → ∀ (i : Nat) {g : Nat} {cs cs' : Array Value} {t : TypeId}, V[i]? = some (g, cs, t) → w'.heap[g]? = some (.cells cs' t (0, 0)) → (∀ (k : Nat) (x : Obj), k ≠ g → w.heap[k]? = some x → w'.heap[k]? = some x) →
    LayV w' B (V.set i (g, cs', t))
  | [], _, i, _, _, _, _, hi, _, _ => by simp at hi
  | (g', c0, t') :: V, h, i, g, cs, cs', t, hi, hg, hk => by
    cases i with
    | zero =>
      simp at hi; obtain ⟨rfl, rfl, rfl⟩ := hi
      refine ⟨h.1, hg, h.2.2.1, ?_⟩
      have key : ∀ {V : Vars}, LayV w B V → (∀ p ∈ V, p.1 < g') → LayV w' B V := by
        intro V
        induction V with
        | nil => intro _ _; trivial
        | cons p V ih =>
          intro hv hl
          obtain ⟨a, b, c⟩ := p
          exact ⟨hv.1, hk _ _ (Nat.ne_of_lt (hl (a, b, c) (by simp))) hv.2.1, hv.2.2.1, ih hv.2.2.2 fun q hq => hl q (by simp [hq])⟩
      exact key h.2.2.2 h.2.2.1
    | succ i =>
      have hi' : V[i]? = some (g, cs, t) := by simpa using hi
      have hlt : g < g' := h.2.2.1 (g, cs, t) (List.mem_of_getElem? hi')
      refine ⟨h.1, hk _ _ (by omega) h.2.1, ?_, LayV.put h.2.2.2 i hi' hg hk⟩
      intro p hp
      rcases List.mem_or_eq_of_mem_set hp with hp | rfl
      · exact h.2.2.1 p hp
      · exact hlt
section
variable {w0 w w' : World} {V : Vars}
theorem Lay.start (w0 : World) : Lay w0 w0 [] := ⟨Below.refl _ _, trivial⟩
theorem Lay.next (h : Lay w0 w V) (hb : Below w.heap.size w w') : Lay w0 w' V := ⟨Z1 h.below hb h.below.size, h.vars.keep fun g x hx => below_atK hb hx⟩
theorem Lay.alloc (h : Lay w0 w V) (cs : Array Value) (t : TypeId) : Lay w0 (w.alloc (.cells cs t)) ((w.heap.size, cs, t) :: V) :=
  ⟨h.below.alloc h.below.size _, h.below.size, heap_alloc_new _ _, h.vars.lt, h.vars.keep fun g x hx => by rw [Below.heap_alloc _ _ _ (Array.getElem?_eq_some_iff.1 hx).1]; exact hx⟩
theorem Lay.at_ (h : Lay w0 w V) (i : Nat) {g : Nat} {cs : Array Value} {t : TypeId} (hi : V[i]? = some (g, cs, t)) : w.heap[g]? = some (.cells cs t (0, 0)) := (h.vars.get i hi).2
theorem Lay.ge (h : Lay w0 w V) (i : Nat) {g : Nat} {cs : Array Value} {t : TypeId} (hi : V[i]? = some (g, cs, t)) : w0.heap.size ≤ g := (h.vars.get i hi).1
theorem Lay.lt (h : Lay w0 w V) (i : Nat) {g : Nat} {cs : Array Value} {t : TypeId} (hi : V[i]? = some (g, cs, t)) : g < w.heap.size := (Array.getElem?_eq_some_iff.1 (h.at_ i hi)).1
theorem Lay.row (h : Lay w0 w V) (i : Nat) {g : Nat} {cs : Array Value} {t : TypeId} (hi : V[i]? = some (g, cs, t)) (cs' : Array Value) : Lay w0 (w.setRow g cs') (V.set i (g, cs', t)) :=
  ⟨ZY h.below (h.ge i hi) _, h.vars.put i hi (ZQ (h.at_ i hi)) fun k x hk hx => by rw [setRow_other _ _ _ _ hk]; exact hx⟩
theorem Lay.cell (h : Lay w0 w V) (i : Nat) {g : Nat} {cs : List Value} {t : TypeId} (hi : V[i]? = some (g, cs.toArray, t)) (j : Nat) (u : Value) : Lay w0 (w.setCell ⟨g, j, none⟩ u) (V.set i (g, (cs.set j u).toArray, t)) :=
  ⟨h.below.setCell (h.ge i hi) _, h.vars.put i hi (by have := ZB (i := j) u (h.at_ i hi); rw [List.setIfInBounds_toArray] at this; exact this) fun k x hk hx => by rw [Below.heap_setCell _ _ _ _ hk]; exact hx⟩
theorem Lay.get (h : Lay w0 w V) (i : Nat) {g : Nat} {cs : List Value} {t : TypeId} (hi : V[i]? = some (g, cs.toArray, t)) {j : Nat} {u : Value} (hu : cs[j]? = some u) : w.cell? ⟨g, j, none⟩ = some u := Z4 (h.at_ i hi) (by rw [List.getElem?_toArray]; exact hu)
theorem Lay.free (h : Lay w0 w V) (i : Nat) {g : Nat} {cs : Array Value} {t : TypeId} (hi : V[i]? = some (g, cs, t)) (j : Nat) : w.frozen? ⟨g, j, none⟩ = false := Z6 (h.at_ i hi)
end
section
variable {P : Program} {Q : Exit → Act → World → Prop} {N : Nat} {L : Slots} {w0 w : World} {V : Vars} {ops : Array Oper} {rest : List Oper} {o o' : Oper}
theorem XH {d y : Nat} {t : TypeId} {z cells : Array Value} (hL : Lay w0 w V) (hz : (P.info? t).bind (·.zero) = some (.agg z)) (hi : (P.info? t).map (·.size) = some cells.size) (hs : z.size = cells.size) (hwv : cells.all (·.oneCell') = true)
    (hd : o.dst = some d) (hg : o.guard = none) (ho : o.op = .alloc t) (hd' : o'.dst = none) (hg' : o'.guard = none) (ho' : o'.op = .store t (.tmp d) (.tmp y)) (hy : lk L y = some (.agg cells)) (hne : (d == y) = false) (hn : Nat.blt d N = true)
    (h : ∀ g w', g = w.heap.size → Below w.heap.size w w' → Lay w0 w' ((g, cells, t) :: V) → KL P ops Q rest N ((d, .pointer (some ⟨g, 0, none⟩)) :: L) w') : KL P ops Q (o :: o' :: rest) N L w :=
  kl_var_row hz hi hs hwv hd hg ho hd' hg' ho' hy hne hn (h _ _ rfl ((Below.refl _ _).alloc (Nat.le_refl _) _) (hL.alloc _ _))
theorem Xx {d y : Nat} {t : TypeId} {cells : Array Value} (hL : Lay w0 w V) (hd : o.dst = some d) (hg : o.guard = none) (ho : o.op = .box t (.tmp y)) (hy : lk L y = some (.agg cells)) (hn : Nat.blt d N = true)
    (h : ∀ g w', g = w.heap.size → Below w.heap.size w w' → Lay w0 w' ((g, cells, t) :: V) → KL P ops Q rest N ((d, .pointer (some ⟨g, 0, none⟩)) :: L) w') : KL P ops Q (o :: rest) N L w :=
  Zn hd hg (by simp [ho, okop, okx, hy, hn]) fun K hK => by
    have he : ev L (.tmp y) = .agg cells := by simp [ev, hy]
    have hr : (execOp (ev L) o).run P w = .ok (.value (.pointer (some ⟨w.heap.size, 0, none⟩))) (w.alloc (.cells cells t)) := by
      simp [execOp, ho, he, Instr.box, Sem.run_bind, Sem.run_pure, newVar, newRow, Value.cells]
    rw [hr]
    exact hK _ _ (h _ _ rfl ((Below.refl _ _).alloc (Nat.le_refl _) _) (hL.alloc _ _))
theorem W6 {d : Nat} {t : TypeId} {z : Array Value} (hL : Lay w0 w V) (hz : (P.info? t).bind (·.zero) = some (.agg z)) (hd : o.dst = some d) (hg : o.guard = none) (ho : o.op = .alloc t) (hn : Nat.blt d N = true)
    (h : ∀ g w', g = w.heap.size → Below w.heap.size w w' → Lay w0 w' ((g, z, t) :: V) → KL P ops Q rest N ((d, .pointer (some ⟨g, 0, none⟩)) :: L) w') : KL P ops Q (o :: rest) N L w :=
  YH t hz hd hg ho hn (h _ _ rfl ((Below.refl _ _).alloc (Nat.le_refl _) _) (hL.alloc _ _))
theorem Wf {d x : Nat} {ty t : TypeId} {g : Nat} {cs : Array Value} {de : TypeDesc} (hL : Lay w0 w V) (i : Nat) (hV : V[i]? = some (g, cs, t)) (hu : P.underlying ty = some de) (hde : (match de with | .struct _ | .array _ _ => true | _ => false) = true) (hi : (P.info? ty).map (·.size) = some cs.size)
    (hd : o.dst = some d) (hg : o.guard = none) (ho : o.op = .load ty (.tmp x)) (hx : lk L x = some (.pointer (some ⟨g, 0, none⟩))) (hn : Nat.blt d N = true)
    (h : KL P ops Q rest N ((d, .agg cs) :: L) w) : KL P ops Q (o :: rest) N L w :=
  X2 ty g t cs (0, 0) de (hL.at_ i hV) hu (by cases de <;> simp_all) hi hd hg ho hx hn h
theorem YL {x y : Nat} {ty t : TypeId} {g : Nat} {cs cells : Array Value} (hL : Lay w0 w V) (i : Nat) (hV : V[i]? = some (g, cs, t)) (hi : (P.info? ty).map (·.size) = some cells.size) (hs : cs.size = cells.size) (hwv : cells.all (·.oneCell') = true)
    (hd : o.dst = none) (hg : o.guard = none) (ho : o.op = .store ty (.tmp x) (.tmp y)) (hx : lk L x = some (.pointer (some ⟨g, 0, none⟩))) (hy : lk L y = some (.agg cells))
    (h : Lay w0 (w.setRow g cells) (V.set i (g, cells, t)) → KL P ops Q rest N L (w.setRow g cells)) : KL P ops Q (o :: rest) N L w :=
  YR ty g cells t cs (hL.at_ i hV) hi hs hwv hd hg ho hx hy (h (hL.row i hV cells))
end
end Go.Proofs.Ytkncomkncfcecaa
set_option linter.unusedVariables false
set_option linter.unusedSimpArgs false
namespace Go.Proofs.Ytkncomkncfcecaa
open Go.RowKit
def I64 (x : Int) : Prop := -9223372036854775808 ≤ x ∧ x ≤ 9223372036854775807
theorem GoodE.i64 {e : EntS} (h : GoodE e) : I64 e.seq ∧ I64 e.slot := by have := h.seq; have := h.slot; unfold I64; omega
theorem ent_0 (e : EntS) : (entC e)[0]? = some (.int .i64 e.seq) := rfl
theorem ent_1 (e : EntS) : (entC e)[1]? = some (.int .i64 e.slot) := rfl
theorem ent_sum (e : EntS) (k : Nat) : (entC e)[2 + k]? = (bv e.sum)[k]? := by rw [Nat.add_comm]; rfl
theorem Yu (e : EntS) : (entC e).toArray.all (·.oneCell') = true := by
  rw [← Array.all_toList]
  simp only [entC, List.all_cons, Bool.and_eq_true]
  exact ⟨rfl, rfl, List.all_eq_true.2 (WH e.sum)⟩
theorem ent_one' (e : EntS) : ∀ u ∈ entC e, u.oneCell' = true := fun u hu => by
  have := Yu e
  rw [← Array.all_toList] at this
  exact List.all_eq_true.1 this u hu
theorem ent_set (q s : Int) (h : List UInt8) (k : Nat) (x : UInt8) : (entC ⟨q, s, h⟩).set (2 + k) (bval x) = entC ⟨q, s, h.set k x⟩ := by
  rw [Nat.add_comm]
  show .int .i64 q :: .int .i64 s :: (bv h).set k _ = _
  rw [bv_set']
  rfl
theorem ent_set1 (q s s' : Int) (h : List UInt8) : (entC ⟨q, s, h⟩).set 1 (.int .i64 s') = entC ⟨q, s', h⟩ := rfl
theorem YW (k : IntKind) (x : Int) : (Value.int k x).cells = [Value.int k x].toArray := rfl
theorem hash_row (hs : List UInt8) (k : Nat) (x : UInt8) (hl : hs.length = k) (hk : k < 32) : (hs ++ List.replicate (32 - k) 0).set k x = (hs ++ [x]) ++ List.replicate (32 - (k + 1)) 0 := by
  subst hl
  rw [List.set_append_right _ _ (Nat.le_refl _), Nat.sub_self, show 32 - hs.length = (32 - (hs.length + 1)) + 1 by omega, List.replicate_succ, List.set_cons_zero, List.append_assoc]
  rfl
theorem hash_cell (hs : List UInt8) (k : Nat) (hl : hs.length = k) (hk : k < 32) : (bv (hs ++ List.replicate (32 - k) 0))[k]? = some (bval 0) := by
  subst hl
  unfold bv
  rw [List.getElem?_map, List.getElem?_append_right (Nat.le_refl _), Nat.sub_self, show 32 - hs.length = (32 - (hs.length + 1)) + 1 by omega, List.replicate_succ]
  rfl
theorem hashSize (h : List UInt8) (hl : h.length = 32) : (Try.prog.info? 29).map (·.size) = some (bv h).length := by
  rw [Ye, hl]; kernel_rfl
theorem entZero : (Try.prog.info? 31).bind (·.zero) = some (.agg (entC entZ).toArray) := by kernel_rfl
theorem entSize : (Try.prog.info? 31).map (·.size) = some 34 := by kernel_rfl
theorem entInfo (e : EntS) (h : e.sum.length = 32) : (Try.prog.info? 31).map (·.size) = some (entC e).toArray.size := by rw [entSize]; simp [ZR e h]
theorem entInfoL (e : EntS) (h : e.sum.length = 32) : (Try.prog.info? 31).map (·.size) = some (entC e).length := by rw [entSize]; simp [ZR e h]
theorem entUnder : ∃ fs, Try.prog.underlying 31 = some (.struct fs) ∧ fs.toList.mapM (fun f => (Try.prog.info? f.type).map fun i => (f.offset, i.size)) = some [(0, 1), (1, 1), (2, 32)] := ⟨_, Try.underlying31, by kernel_rfl⟩
theorem entBuilt0 : Try.prog.built 31 [] = some (entC entZ).toArray := by
  obtain ⟨fs, hu, hp⟩ := entUnder
  rw [YD entZero hu hp, Xm]
theorem entBuiltF : Try.prog.built 31 [(1, .int .i64 2)] = some (entC entF).toArray := by
  obtain ⟨fs, hu, hp⟩ := entUnder
  rw [YD entZero hu hp]
  have hz : (entC entZ).length = 34 := ZR _ ZL
  have h1 := YE ([(0, 1), (1, 1), (2, 32)].toArray[·]?) [.int .i64 0] (.int .i64 0 :: bv z32) 1 _ _ (YW .i64 2) rfl (by simp) []
  rw [Xm] at h1
  exact h1
theorem entBuilt2 (q s : Int) : Try.prog.built 31 [(0, .int .i64 q), (1, .int .i64 s)] = some (entC ⟨q, s, z32⟩).toArray := by
  obtain ⟨fs, hu, hp⟩ := entUnder
  rw [YD entZero hu hp]
  have h1 := YE ([(0, 1), (1, 1), (2, 32)].toArray[·]?) [] (entC entZ) 0 _ _ (YW .i64 q) rfl (by simp [entC]) [(1, .int .i64 s)]
  have h2 := YE ([(0, 1), (1, 1), (2, 32)].toArray[·]?) [.int .i64 q] (.int .i64 0 :: bv z32) 1 _ _ (YW .i64 s) rfl (by simp) []
  rw [Xm] at h2
  exact h1.trans h2
theorem entBuilt3 (q s : Int) (h : List UInt8) (hl : h.length = 32) : Try.prog.built 31 [(0, .int .i64 q), (1, .int .i64 s), (2, .agg (bv h).toArray)] = some (entC ⟨q, s, h⟩).toArray := by
  obtain ⟨fs, hu, hp⟩ := entUnder
  rw [YD entZero hu hp]
  have hz : (bv z32).length = 32 := by rw [Ye, ZL]
  have hh : (bv h).length = 32 := by rw [Ye, hl]
  have h1 := YE ([(0, 1), (1, 1), (2, 32)].toArray[·]?) [] (entC entZ) 0 _ _ (YW .i64 q) rfl (by simp [entC]) [(1, .int .i64 s), (2, .agg (bv h).toArray)]
  have h2 := YE ([(0, 1), (1, 1), (2, 32)].toArray[·]?) [.int .i64 q] (.int .i64 0 :: bv z32) 1 _ _ (YW .i64 s) rfl (by simp) [(2, .agg (bv h).toArray)]
  have h3 := YE ([(0, 1), (1, 1), (2, 32)].toArray[·]?) [.int .i64 q, .int .i64 s] (bv z32) 2 (.agg (bv h).toArray) (bv h) rfl (by rw [hh]; rfl) (by rw [hh, hz]; exact Nat.le_refl _) []
  rw [Xm] at h3
  refine h1.trans (h2.trans (h3.trans ?_))
  rw [List.drop_of_length_le (by rw [hh, hz]; exact Nat.le_refl _), List.append_nil]
  rfl
theorem rentZero : (Try.prog.info? 59).bind (·.zero) = some (.agg (entC entZ).toArray) := by kernel_rfl
theorem rentSize : (Try.prog.info? 59).map (·.size) = some 34 := by kernel_rfl
theorem rentInfo (e : EntS) (h : e.sum.length = 32) : (Try.prog.info? 59).map (·.size) = some (entC e).toArray.size := by rw [rentSize]; simp [ZR e h]
theorem rentInfoL (e : EntS) (h : e.sum.length = 32) : (Try.prog.info? 59).map (·.size) = some (entC e).length := by rw [rentSize]; simp [ZR e h]
theorem rentUnder : ∃ fs, Try.prog.underlying 59 = some (.struct fs) ∧ fs.toList.mapM (fun f => (Try.prog.info? f.type).map fun i => (f.offset, i.size)) = some [(0, 1), (1, 1), (2, 32)] := ⟨_, Try.underlying59, by kernel_rfl⟩
theorem rentBuilt0 : Try.prog.built 59 [] = some (entC entZ).toArray := by
  obtain ⟨fs, hu, hp⟩ := rentUnder
  rw [YD rentZero hu hp, Xm]
theorem rentBuiltF : Try.prog.built 59 [(1, .int .i64 2)] = some (entC entF).toArray := by
  obtain ⟨fs, hu, hp⟩ := rentUnder
  rw [YD rentZero hu hp]
  have hz : (entC entZ).length = 34 := ZR _ ZL
  have h1 := YE ([(0, 1), (1, 1), (2, 32)].toArray[·]?) [.int .i64 0] (.int .i64 0 :: bv z32) 1 _ _ (YW .i64 2) rfl (by simp) []
  rw [Xm] at h1
  exact h1
theorem rentBuilt1 (q : Int) : Try.prog.built 59 [(0, .int .i64 q)] = some (entC ⟨q, 0, z32⟩).toArray := by
  obtain ⟨fs, hu, hp⟩ := rentUnder
  rw [YD rentZero hu hp]
  have h1 := YE ([(0, 1), (1, 1), (2, 32)].toArray[·]?) [] (entC entZ) 0 _ _ (YW .i64 q) rfl (by simp [entC]) []
  rw [Xm] at h1
  exact h1
theorem rentBuilt3 (q s : Int) (h : List UInt8) (hl : h.length = 32) : Try.prog.built 59 [(0, .int .i64 q), (1, .int .i64 s), (2, .agg (bv h).toArray)] = some (entC ⟨q, s, h⟩).toArray := by
  obtain ⟨fs, hu, hp⟩ := rentUnder
  rw [YD rentZero hu hp]
  have hz : (bv z32).length = 32 := by rw [Ye, ZL]
  have hh : (bv h).length = 32 := by rw [Ye, hl]
  have h1 := YE ([(0, 1), (1, 1), (2, 32)].toArray[·]?) [] (entC entZ) 0 _ _ (YW .i64 q) rfl (by simp [entC]) [(1, .int .i64 s), (2, .agg (bv h).toArray)]
  have h2 := YE ([(0, 1), (1, 1), (2, 32)].toArray[·]?) [.int .i64 q] (.int .i64 0 :: bv z32) 1 _ _ (YW .i64 s) rfl (by simp) [(2, .agg (bv h).toArray)]
  have h3 := YE ([(0, 1), (1, 1), (2, 32)].toArray[·]?) [.int .i64 q, .int .i64 s] (bv z32) 2 (.agg (bv h).toArray) (bv h) rfl (by rw [hh]; rfl) (by rw [hh, hz]; exact Nat.le_refl _) []
  rw [Xm] at h3
  refine h1.trans (h2.trans (h3.trans ?_))
  rw [List.drop_of_length_le (by rw [hh, hz]; exact Nat.le_refl _), List.append_nil]
  rfl
end Go.Proofs.Ytkncomkncfcecaa
set_option linter.unusedVariables false
set_option linter.unusedSimpArgs false
namespace Go.Proofs.Ytkncomkncfcecaa
open Go.RowKit
section
variable {P : Program} {Q : Exit → Act → World → Prop} {n : Nat} {L : Slots} {w : World} {ops : Array Oper} {rest : List Oper} {o : Oper}
theorem kl_callv {d t : Nat} {f : FuncId} {fn : Func} {c : Code} {xs : List Operand} {ts : Array TypeId} {lb : Array Value} (hd : o.dst = some d) (hg : o.guard = none) (ho : o.op = .call { callee := .value (.tmp t), args := xs.toArray, argTypes := ts })
    (ht : lk L t = some (.func (.func f) #[] lb)) (hf : P.funcs[f]? = some fn) (hb : fn.body = some c) (hn : (fn.name == "runtime.NumGoroutine") = false) (hk : (xs.all (okx L) && Nat.blt d n) = true)
    (h : Calls P f ((xs.map (ev L)).toArray ++ lb) w fun e w' => ∃ v, e = .returned v ∧ KL P ops Q rest n ((d, v) :: L) w') : KL P ops Q (o :: rest) n L w := by
  have hk' := hk
  simp only [Bool.and_eq_true] at hk'
  have hv : ev L (.tmp t) = .func (.func f) #[] lb := by simp [ev, ht]
  refine Zn hd hg ?_ fun K hK => ?_
  · simp only [ho, okop, Bool.and_eq_true]
    exact ⟨⟨hk'.1, by simp [okx, ht]⟩, hk'.2⟩
  · have he : execOp (ev L) o = callFunc f (#[] ++ xs.toArray.map (ev L) ++ lb) := by
      obtain ⟨dst, op, type, pos, after, guard⟩ := o
      subst ho
      simp only [execOp, resolve, hv]
      rfl
    rw [he, XC hf hb hn]
    simp only [Array.empty_append, List.map_toArray]
    refine Calls.mono h ?_
    rintro e w'' ⟨v, rfl, hv⟩
    exact ⟨v, rfl, hK _ _ hv⟩
end
section
variable {Q : Exit → Act → World → Prop} {n : Nat} {L : Slots} {w : World} {ops : Array Oper} {rest : List Oper} {o : Oper}
theorem kl_copy {d x y : Nat} (hd : o.dst = some d) (hg : o.guard = none) (ho : o.op = .call { callee := .builtin .copy, args := #[.tmp x, .tmp y], argTypes := #[32, 32] })
    (g off dLen dCap : Nat) (A : Option Addr) (m c : Nat) (k : List UInt8) (hx : lk L x = some (.slice (some ⟨g, off, none⟩) dLen dCap)) (hy : lk L y = some (.slice A m c)) (hA : Bs w A m k)
    (cur : List Value) (t : TypeId) (hcur : w.heap[g]? = some (.cells cur.toArray t (0, 0))) (hfit : off + min m dLen ≤ cur.length) (B : Nat) (w0 : World) (hb : Below B w0 w) (hBg : B ≤ g) (hn : Nat.blt d n = true)
    (h : ∀ w', Hid (w'.heap[g]? = some (.cells (splice cur off (bv (k.take (min m dLen)))).toArray t (0, 0))) → Below B w0 w' → KL Try.prog ops Q rest n ((d, .int .i64 (min m dLen : Nat)) :: L) w') : KL Try.prog ops Q (o :: rest) n L w :=
  ⟨fun a ka => copyB hg (.tmp x) (.tmp y) ho g off dLen dCap A m c k (ka.ev hx) (ka.ev hy) hA cur t hcur hfit B w0 hb hBg fun w' h1 h2 => XG ka hd hn (h w' h1 h2)⟩
end
end Go.Proofs.Ytkncomkncfcecaa
