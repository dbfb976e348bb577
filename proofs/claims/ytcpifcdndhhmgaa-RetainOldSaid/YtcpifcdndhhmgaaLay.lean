/- Variables of structs' and arrays' types, each a block of its own. No program in sight. -/
import Derived.Test.YtcpifcdndhhmgaaFill
set_option linter.unusedVariables false
set_option linter.unusedSimpArgs false
namespace Go.Proofs.Ytcpifcdndhhmgaa
open Go.RowKit
abbrev Vars := List (Nat × Array Value × TypeId)
def LayV (w : World) (B : Nat) : Vars → Prop
  | [] => True
  | (g, cs, t) :: V => B ≤ g ∧ w.heap[g]? = some (.cells cs t (0, 0)) ∧ (∀ p ∈ V, p.1 < g) ∧ LayV w B V
/-- the variables V, the youngest first, all made behind w0 -/
structure Lay (w0 w : World) (V : Vars) : Prop where
  below : Below w0.heap.size w0 w
  vars : LayV w w0.heap.size V
theorem LayV.keep {w w' : World} {B : Nat} : ∀ {V : Vars}, LayV w B V → (∀ (g : Nat) (x : Obj), w.heap[g]? = some x → w'.heap[g]? = some x) → LayV w' B V
  | [], _, _ => trivial
  | (g, cs, t) :: V, h, k => ⟨h.1, k _ _ h.2.1, h.2.2.1, LayV.keep h.2.2.2 k⟩
theorem LayV.lt {w : World} {B : Nat} : ∀ {V : Vars}, LayV w B V → ∀ p ∈ V, p.1 < w.heap.size
  | [], _, p, hp => by simp at hp
  | (g, cs, t) :: V, h, p, hp => by
    rcases List.mem_cons.1 hp with rfl | hp
    · exact (Array.getElem?_eq_some_iff.1 h.2.1).1
    · exact LayV.lt h.2.2.2 p hp
theorem LayV.get {w : World} {B : Nat} : ∀ {V : Vars}, LayV w B V → ∀ (i : Nat) {g : Nat} {cs : Array Value} {t : TypeId}, V[i]? = some (g, cs, t) → B ≤ g ∧ w.heap[g]? = some (.cells cs t (0, 0))
  | [], _, i, _, _, _, hi => by simp at hi
  | (g', cs', t') :: V, h, i, g, cs, t, hi => by
    cases i with
    | zero => simp at hi; obtain ⟨rfl, rfl, rfl⟩ := hi; exact ⟨h.1, h.2.1⟩
    | succ i => exact LayV.get h.2.2.2 i (by simpa using hi)
/-- the i-th variable is written -/
theorem LayV.put {w w' : World} {B : Nat} : ∀ {V : Vars}, LayV w B V → ∀ (i : Nat) {g : Nat} {cs cs' : Array Value} {t : TypeId}, V[i]? = some (g, cs, t) → w'.heap[g]? = some (.cells cs' t (0, 0)) → (∀ (k : Nat) (x : Obj), k ≠ g → w.heap[k]? = some x → w'.heap[k]? = some x) →
    LayV w' B (V.set i (g, cs', t))
  | [], _, i, _, _, _, _, hi, _, _ => by simp at hi
  | (g', c0, t') :: V, h, i, g, cs, cs', t, hi, hg, hk => by
    cases i with
    | zero =>
      simp at hi; obtain ⟨rfl, rfl, rfl⟩ := hi
      refine ⟨h.1, hg, h.2.2.1, ?_⟩
      have key : ∀ {V : Vars}, LayV w B V → (∀ p ∈ V, p.1 < g') → LayV w' B V := by
        intro V
        induction V with
        | nil => intro _ _; trivial
        | cons p V ih =>
          intro hv hl
          obtain ⟨a, b, c⟩ := p
          exact ⟨hv.1, hk _ _ (Nat.ne_of_lt (hl (a, b, c) (by simp))) hv.2.1, hv.2.2.1, ih hv.2.2.2 fun q hq => hl q (by simp [hq])⟩
      exact key h.2.2.2 h.2.2.1
    | succ i =>
      have hi' : V[i]? = some (g, cs, t) := by simpa using hi
      have hlt : g < g' := h.2.2.1 (g, cs, t) (List.mem_of_getElem? hi')
      refine ⟨h.1, hk _ _ (by omega) h.2.1, ?_, LayV.put h.2.2.2 i hi' hg hk⟩
      intro p hp
      rcases List.mem_or_eq_of_mem_set hp with hp | rfl
      · exact h.2.2.1 p hp
      · exact hlt
section
variable {w0 w w' : World} {V : Vars}
theorem Lay.start (w0 : World) : Lay w0 w0 [] := ⟨Below.refl _ _, trivial⟩
theorem Lay.next (h : Lay w0 w V) (hb : Below w.heap.size w w') : Lay w0 w' V := ⟨below_then h.below hb h.below.size, h.vars.keep fun g x hx => below_atK hb hx⟩
theorem Lay.alloc (h : Lay w0 w V) (cs : Array Value) (t : TypeId) : Lay w0 (w.alloc (.cells cs t)) ((w.heap.size, cs, t) :: V) :=
  ⟨h.below.alloc h.below.size _, h.below.size, heap_alloc_new _ _, h.vars.lt, h.vars.keep fun g x hx => by rw [Below.heap_alloc _ _ _ (Array.getElem?_eq_some_iff.1 hx).1]; exact hx⟩
theorem Lay.at_ (h : Lay w0 w V) (i : Nat) {g : Nat} {cs : Array Value} {t : TypeId} (hi : V[i]? = some (g, cs, t)) : w.heap[g]? = some (.cells cs t (0, 0)) := (h.vars.get i hi).2
theorem Lay.ge (h : Lay w0 w V) (i : Nat) {g : Nat} {cs : Array Value} {t : TypeId} (hi : V[i]? = some (g, cs, t)) : w0.heap.size ≤ g := (h.vars.get i hi).1
theorem Lay.lt (h : Lay w0 w V) (i : Nat) {g : Nat} {cs : Array Value} {t : TypeId} (hi : V[i]? = some (g, cs, t)) : g < w.heap.size := (Array.getElem?_eq_some_iff.1 (h.at_ i hi)).1
theorem Lay.row (h : Lay w0 w V) (i : Nat) {g : Nat} {cs : Array Value} {t : TypeId} (hi : V[i]? = some (g, cs, t)) (cs' : Array Value) : Lay w0 (w.setRow g cs') (V.set i (g, cs', t)) :=
  ⟨below_setRow h.below (h.ge i hi) _, h.vars.put i hi (setRow_block (h.at_ i hi)) fun k x hk hx => by rw [setRow_other _ _ _ _ hk]; exact hx⟩
theorem Lay.cell (h : Lay w0 w V) (i : Nat) {g : Nat} {cs : List Value} {t : TypeId} (hi : V[i]? = some (g, cs.toArray, t)) (j : Nat) (u : Value) : Lay w0 (w.setCell ⟨g, j, none⟩ u) (V.set i (g, (cs.set j u).toArray, t)) :=
  ⟨h.below.setCell (h.ge i hi) _, h.vars.put i hi (by have := block_setCell (i := j) u (h.at_ i hi); rw [List.setIfInBounds_toArray] at this; exact this) fun k x hk hx => by rw [Below.heap_setCell _ _ _ _ hk]; exact hx⟩
theorem Lay.get (h : Lay w0 w V) (i : Nat) {g : Nat} {cs : List Value} {t : TypeId} (hi : V[i]? = some (g, cs.toArray, t)) {j : Nat} {u : Value} (hu : cs[j]? = some u) : w.cell? ⟨g, j, none⟩ = some u := cell_of_block (h.at_ i hi) (by rw [List.getElem?_toArray]; exact hu)
theorem Lay.free (h : Lay w0 w V) (i : Nat) {g : Nat} {cs : Array Value} {t : TypeId} (hi : V[i]? = some (g, cs, t)) (j : Nat) : w.frozen? ⟨g, j, none⟩ = false := free_of_block (h.at_ i hi)
end
section
variable {P : Program} {Q : Exit → Act → World → Prop} {N : Nat} {L : Slots} {w0 w : World} {V : Vars} {ops : Array Oper} {rest : List Oper} {o o' : Oper}
/-- a new variable, with a value -/
theorem kl_varL {d y : Nat} {t : TypeId} {z cells : Array Value} (hL : Lay w0 w V) (hz : (P.info? t).bind (·.zero) = some (.agg z)) (hi : (P.info? t).map (·.size) = some cells.size) (hs : z.size = cells.size) (hwv : cells.all (·.oneCell') = true)
    (hd : o.dst = some d) (hg : o.guard = none) (ho : o.op = .alloc t) (hd' : o'.dst = none) (hg' : o'.guard = none) (ho' : o'.op = .store t (.tmp d) (.tmp y)) (hy : lk L y = some (.agg cells)) (hne : (d == y) = false) (hn : Nat.blt d N = true)
    (h : ∀ g w', g = w.heap.size → Below w.heap.size w w' → Lay w0 w' ((g, cells, t) :: V) → KL P ops Q rest N ((d, .pointer (some ⟨g, 0, none⟩)) :: L) w') : KL P ops Q (o :: o' :: rest) N L w :=
  kl_var_row hz hi hs hwv hd hg ho hd' hg' ho' hy hne hn (h _ _ rfl ((Below.refl _ _).alloc (Nat.le_refl _) _) (hL.alloc _ _))
/-- the box of an argument by value -/
theorem kl_boxL {d y : Nat} {t : TypeId} {cells : Array Value} (hL : Lay w0 w V) (hd : o.dst = some d) (hg : o.guard = none) (ho : o.op = .box t (.tmp y)) (hy : lk L y = some (.agg cells)) (hn : Nat.blt d N = true)
    (h : ∀ g w', g = w.heap.size → Below w.heap.size w w' → Lay w0 w' ((g, cells, t) :: V) → KL P ops Q rest N ((d, .pointer (some ⟨g, 0, none⟩)) :: L) w') : KL P ops Q (o :: rest) N L w :=
  kl_step hd hg (by simp [ho, okop, okx, hy, hn]) fun K hK => by
    have he : ev L (.tmp y) = .agg cells := by simp [ev, hy]
    have hr : (execOp (ev L) o).run P w = .ok (.value (.pointer (some ⟨w.heap.size, 0, none⟩))) (w.alloc (.cells cells t)) := by
      simp [execOp, ho, he, Instr.box, Sem.run_bind, Sem.run_pure, newVar, newRow, Value.cells]
    rw [hr]
    exact hK _ _ (h _ _ rfl ((Below.refl _ _).alloc (Nat.le_refl _) _) (hL.alloc _ _))
/-- the zero variable -/
theorem kl_zeroL {d : Nat} {t : TypeId} {z : Array Value} (hL : Lay w0 w V) (hz : (P.info? t).bind (·.zero) = some (.agg z)) (hd : o.dst = some d) (hg : o.guard = none) (ho : o.op = .alloc t) (hn : Nat.blt d N = true)
    (h : ∀ g w', g = w.heap.size → Below w.heap.size w w' → Lay w0 w' ((g, z, t) :: V) → KL P ops Q rest N ((d, .pointer (some ⟨g, 0, none⟩)) :: L) w') : KL P ops Q (o :: rest) N L w :=
  kl_alloc_row t hz hd hg ho hn (h _ _ rfl ((Below.refl _ _).alloc (Nat.le_refl _) _) (hL.alloc _ _))
/-- the whole of a variable is read -/
theorem kl_getL {d x : Nat} {ty t : TypeId} {g : Nat} {cs : Array Value} {de : TypeDesc} (hL : Lay w0 w V) (i : Nat) (hV : V[i]? = some (g, cs, t)) (hu : P.underlying ty = some de) (hde : (match de with | .struct _ | .array _ _ => true | _ => false) = true) (hi : (P.info? ty).map (·.size) = some cs.size)
    (hd : o.dst = some d) (hg : o.guard = none) (ho : o.op = .load ty (.tmp x)) (hx : lk L x = some (.pointer (some ⟨g, 0, none⟩))) (hn : Nat.blt d N = true)
    (h : KL P ops Q rest N ((d, .agg cs) :: L) w) : KL P ops Q (o :: rest) N L w :=
  kl_load_row ty g t cs (0, 0) de (hL.at_ i hV) hu (by cases de <;> simp_all) hi hd hg ho hx hn h
/-- the whole of a variable is written -/
theorem kl_putL {x y : Nat} {ty t : TypeId} {g : Nat} {cs cells : Array Value} (hL : Lay w0 w V) (i : Nat) (hV : V[i]? = some (g, cs, t)) (hi : (P.info? ty).map (·.size) = some cells.size) (hs : cs.size = cells.size) (hwv : cells.all (·.oneCell') = true)
    (hd : o.dst = none) (hg : o.guard = none) (ho : o.op = .store ty (.tmp x) (.tmp y)) (hx : lk L x = some (.pointer (some ⟨g, 0, none⟩))) (hy : lk L y = some (.agg cells))
    (h : Lay w0 (w.setRow g cells) (V.set i (g, cells, t)) → KL P ops Q rest N L (w.setRow g cells)) : KL P ops Q (o :: rest) N L w :=
  kl_store_row ty g cells t cs (hL.at_ i hV) hi hs hwv hd hg ho hx hy (h (hL.row i hV cells))
end
end Go.Proofs.Ytcpifcdndhhmgaa
