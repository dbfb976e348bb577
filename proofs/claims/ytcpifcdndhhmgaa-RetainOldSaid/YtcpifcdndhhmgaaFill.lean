/- The sparse walk: appends of whatever elements, slices of bytes in a row of the call's own, arrays in memory. Literals of structs and arrays with parts of whatever cells: laid part by part. Results of two kinds. No program in sight. -/
import Derived.Test.YtcpifcdndhhmgaaKnApp
import Derived.Deep.MidRow
set_option linter.unusedVariables false
set_option linter.unusedSimpArgs false
namespace Go.Proofs.Ytcpifcdndhhmgaa
open Go.RowKit

/-- the values xs are slices that read as ls -/
def PsX (w : World) (xs : List Value) (ls : List (List UInt8)) : Prop :=
  xs.length = ls.length ∧ ∀ i (h : i < ls.length), ∃ B m c, xs[i]? = some (.slice B m c) ∧ Bs w B m ls[i] ∧ m ≤ c ∧ c ≤ 9223372036854775807
theorem PsX.nil (w : World) : PsX w [] [] := ⟨rfl, fun i h => by simp at h⟩
theorem PsX.keep {w w' : World} {xs : List Value} {ls : List (List UInt8)} (h : PsX w xs ls) (hk : Keeps w w') : PsX w' xs ls :=
  ⟨h.1, fun i hi => by obtain ⟨B, m, c, e, hb, r⟩ := h.2 i hi; exact ⟨B, m, c, e, hb.keep hk, r⟩⟩
theorem PsX.snoc {w : World} {xs : List Value} {ls : List (List UInt8)} (h : PsX w xs ls) {B : Option Addr} {m c : Nat} {l : List UInt8} (hb : Bs w B m l) (hm : m ≤ c) (hc : c ≤ 9223372036854775807) : PsX w (xs ++ [.slice B m c]) (ls ++ [l]) := by
  refine ⟨by simp [h.1], fun i hi => ?_⟩
  rw [List.length_append, List.length_singleton] at hi
  rcases Nat.lt_or_ge i ls.length with hlt | hge
  · obtain ⟨B', m', c', e, hb', r⟩ := h.2 i hlt
    refine ⟨B', m', c', by rw [List.getElem?_append_left (by rw [h.1]; exact hlt)]; exact e, ?_, r⟩
    rw [List.getElem_append_left hlt]; exact hb'
  · obtain rfl : i = ls.length := by omega
    refine ⟨B, m, c, by rw [List.getElem?_append_right (by rw [h.1]; exact Nat.le_refl _), h.1]; simp, ?_, hm, hc⟩
    rw [List.getElem_append_right (Nat.le_refl _)]
    simpa using hb
theorem PsX.ps {w : World} {A : Option Addr} {n : Nat} {xs : List Value} {ls : List (List UInt8)} (h : PsX w xs ls) (hv : Vs w A n xs) : Ps w A n ls := ⟨by rw [← h.1]; exact hv.1, xs, hv, h.2⟩

section
variable {P : Program} {Q : Exit → Act → World → Prop} {N : Nat} {L : Slots} {w : World} {ops : Array Oper} {rest : List Oper} {o : Oper}
/-- append of elements of one cell onto a row of the call's own -/
theorem kl_appendV {d x y : Nat} (t e : TypeId) (z : Value) (bytes : Nat) (ht : P.underlying t = some (.slice e)) (hinfo : (P.info? e).map (fun i => (i.zero, i.size, i.bytes)) = some (some z, 1, bytes)) (hzs : z.cells.size = 1)
    (base : Nat) (v : Value) (n : Nat) (xs : List Value) (hown : w.ownsRow base e 1 v n xs) (A : Option Addr) (m c : Nat) (news : List Value) (hr : Vs w A m news) (h1 : ∀ u ∈ news, u.oneCell' = true)
    (hbytes : (n + m) * bytes ≤ 140737488355328) (h63 : n + m ≤ 9223372036854775807) (hbase : base ≤ w.heap.size)
    (hd : o.dst = some d) (hg : o.guard = none) (ho : o.op = .call { callee := .builtin .append, args := #[.tmp x, .tmp y], argTypes := #[t, t] })
    (hs : lk L x = some v) (hx : lk L y = some (.slice A m c)) (hn : Nat.blt d N = true)
    (h : ∀ v' w', w'.ownsRow base e 1 v' (n + m) (xs ++ news) → w.grownBy w' v.ownBlock → (v'.ownBlock = v.ownBlock ∨ v'.ownBlock = some w.heap.size) → KL P ops Q rest N ((d, v') :: L) w') : KL P ops Q (o :: rest) N L w := by
  obtain ⟨i0, hi0, hz0, hz1, hz2⟩ := info_parts hinfo
  exact ⟨fun a ka => wpList_append_V w hg (.tmp x) (.tmp y) t ho base e i0 z bytes ht hi0 hz0 hz1 hz2 hzs v n xs (ka.ev hs) hown A m c news (ka.ev hx) hr h1 hbytes (by simpa [maxLen] using h63) hbase
    fun v' w' a1 a2 a3 => kl_back ka hd hn (h v' w' a1 a2 a3)⟩
/-- append of elements of some cells -/
theorem kl_appendN {d x y : Nat} (t e : TypeId) (z : Value) (size bytes : Nat) (ht : P.underlying t = some (.slice e)) (hinfo : (P.info? e).map (fun i => (i.zero, i.size, i.bytes)) = some (some z, size, bytes)) (hzs : z.cells.size = size) (hsz : 0 < size)
    (base : Nat) (v : Value) (n : Nat) (xs : List Value) (hown : w.ownsRow base e size v n xs) (g p m c : Nat) (news : List Value) (hl : news.length = m * size) (hr : w.rangeAt g p news) (h1 : ∀ u ∈ news, u.oneCell' = true)
    (hbytes : (n + m) * bytes ≤ 140737488355328) (h63 : n + m ≤ 9223372036854775807) (hbase : base ≤ w.heap.size)
    (hd : o.dst = some d) (hg : o.guard = none) (ho : o.op = .call { callee := .builtin .append, args := #[.tmp x, .tmp y], argTypes := #[t, t] })
    (hs : lk L x = some v) (hx : lk L y = some (.slice (some ⟨g, p, none⟩) m c)) (hn : Nat.blt d N = true)
    (h : ∀ v' w', w'.ownsRow base e size v' (n + m) (xs ++ news) → w.grownBy w' v.ownBlock → (v'.ownBlock = v.ownBlock ∨ v'.ownBlock = some w.heap.size) → KL P ops Q rest N ((d, v') :: L) w') : KL P ops Q (o :: rest) N L w := by
  obtain ⟨i0, hi0, hz0, hz1, hz2⟩ := info_parts hinfo
  exact ⟨fun a ka => wpList_append_own_at w hg (.tmp x) (.tmp y) t ho base e i0 z size bytes ht hi0 hz0 hz1 hz2 hzs hsz v n xs (ka.ev hs) hown ⟨g, p, none⟩ m c news (ka.ev hx) hl (fun j u hu => by rw [Addr.add_mid]; exact hr j u hu) h1
    (by simpa [maxLen] using h63) hbytes hbase fun v' w' a1 a2 _ a3 => kl_back ka hd hn (h v' w' a1 a2 a3)⟩
end
theorem Vs.one {w : World} {b o : Nat} {u : Value} (h : w.cell? ⟨b, o, none⟩ = some u) : Vs w (some ⟨b, o, none⟩) 1 [u] := by
  refine ⟨rfl, fun _ => ⟨b, o, rfl, fun i x hx => ?_⟩⟩
  match i, hx with
  | 0, hx => simp at hx; subst hx; exact h
theorem run_loadMid {P : Program} {W : World} {o : Oper} {ρ : Operand → Value} {b off : Nat} (ty : TypeId) (x : Operand) (ho : o.op = .load ty x) (hx : ρ x = .pointer (some ⟨b, off, none⟩)) (cs : List Value) (d : TypeDesc) (hc : W.rangeAt b off cs)
    (hu : P.underlying ty = some d) (hd : d.isRow = true) (hi : (P.info? ty).map (·.size) = some cs.length) : (execOp ρ o).run P W = .ok (.value (.agg cs.toArray)) W := by
  unfold execOp
  simp only [ho, hx, Sem.run_bind, run_loadAt_mid W b off ty cs d hc hu hd hi, Result.andThen_ok, Sem.run_pure]
theorem below_appendN {w0 w w' : World} {v : Value} {B : Nat} {e : TypeId} {size n : Nat} {xs : List Value} (hb : Below B w0 w) (hg : w.grownBy w' v.ownBlock) (hown : w.ownsRow B e size v n xs) (hB : B ≤ w.heap.size) : Below B w0 w' :=
  hb.grown hg hB fun k hk => (hown.lt k hk).1
/-- an array out of the midst of a block -/
theorem kl_load_mid {P : Program} {Q : Exit → Act → World → Prop} {N : Nat} {L : Slots} {w : World} {ops : Array Oper} {rest : List Oper} {o : Oper} {d x : Nat} (ty : TypeId) (b off : Nat) (cs : List Value) (de : TypeDesc) (hc : w.rangeAt b off cs)
    (hu : P.underlying ty = some de) (hde : de.isRow = true) (hi : (P.info? ty).map (·.size) = some cs.length) (hd : o.dst = some d) (hg : o.guard = none) (ho : o.op = .load ty (.tmp x)) (hx : lk L x = some (.pointer (some ⟨b, off, none⟩))) (hn : Nat.blt d N = true)
    (h : KL P ops Q rest N ((d, .agg cs.toArray) :: L) w) : KL P ops Q (o :: rest) N L w :=
  kl_run hd hg (by simp [ho, okop, okx, hx, hn]) (run_loadMid (ρ := ev L) ty (.tmp x) ho (by simp [ev, hx]) cs de hc hu hde hi) h
theorem sliceInfo : (Try.prog.info? 27).map (fun i => (i.zero, i.size, i.bytes)) = some (some (.slice none 0 0), 1, 24) := by kernel_rfl
theorem own_mid {w : World} {base : Nat} {e : TypeId} {size n c g : Nat} {xs : List Value} (h : w.ownsRow base e size (.slice (some ⟨g, 0, none⟩) n c) n xs) (k : Nat) (cs : List Value) (hcs : ∀ j u, cs[j]? = some u → xs[k * size + j]? = some u) : w.rangeAt g (k * size) cs := by
  intro j u hu
  rcases h.2 with ⟨h1, _⟩ | ⟨g', cap, cur, hv, _, hh, _, _, _, ht⟩
  · cases h1
  · injection hv with e1 e2 e3
    injection e1 with e1
    injection e1 with e1
    subst e1
    have hx := hcs j u hu
    rw [← ht, List.getElem?_take] at hx
    split at hx
    · refine cell_of_block hh ?_
      simpa using hx
    · cases hx
theorem rangeAt_below {w w' : World} {b o : Nat} {cs : List Value} (h : w.rangeAt b o cs) (hb : Below w.heap.size w w') : w'.rangeAt b o cs := fun j v hv => Keeps.of_below hb _ _ (h j v hv)
theorem rangeAt_new (w : World) (cs : Array Value) (t : TypeId) (g : Nat) (hg : g = w.heap.size) : (w.alloc (.cells cs t)).rangeAt g 0 cs.toList := by
  subst hg
  intro j v hv
  rw [Nat.zero_add]
  refine cell_new w cs t j ?_
  simpa using hv
end Go.Proofs.Ytcpifcdndhhmgaa
set_option linter.unusedVariables false
set_option linter.unusedSimpArgs false
namespace Go.Proofs.Ytcpifcdndhhmgaa
open Go.RowKit

theorem below_atK {w W : World} (hR : Below w.heap.size w W) {g : Nat} {x : Obj} (h : w.heap[g]? = some x) : W.heap[g]? = some x := by rw [hR.block _ (Array.getElem?_eq_some_iff.1 h).1]; exact h
theorem fold_part (off : Nat) (xs : List Value) : ∀ (k : Nat) (l : List Value), off + k + xs.length ≤ l.length →
    (xs.zipIdx k).foldl (fun (cs : Array Value) (p : Value × Nat) => cs.setIfInBounds (off + p.2) p.1) l.toArray = (l.take (off + k) ++ xs ++ l.drop (off + k + xs.length)).toArray := by
  induction xs with
  | nil => intro k l h; simp
  | cons x xs ih =>
    intro k l h
    simp only [List.length_cons] at h
    rw [List.zipIdx_cons, List.foldl_cons]
    simp only [List.setIfInBounds_toArray]
    rw [ih (k + 1) (l.set (off + k) x) (by rw [List.length_set]; omega)]
    congr 1
    rw [List.drop_set_of_lt (by omega), show off + (k + 1) = off + k + 1 by omega, List.take_succ_eq_append_getElem (by rw [List.length_set]; omega), List.getElem_set_self, List.take_set_of_le (by omega)]
    simp [Nat.add_assoc, Nat.add_comm 1 xs.length]
/-- one part behind those that are laid -/
theorem fill_step (place : Nat → Option (Nat × Nat)) (pre rest : List Value) (i : Nat) (v : Value) (xs : List Value) (hv : v.cells = xs.toArray) (hp : place i = some (pre.length, xs.length)) (hl : xs.length ≤ rest.length) (ps : List (Nat × Value)) :
    Instr.fill place (pre ++ rest).toArray ((i, v) :: ps) = Instr.fill place ((pre ++ xs) ++ rest.drop xs.length).toArray ps := by
  rw [Instr.fill, hp]
  simp only [hv, List.size_toArray, List.length_append]
  rw [if_neg (by simp; omega)]
  congr 1
  rw [← Array.foldl_toList, Array.toList_zipIdx]
  have := fold_part pre.length xs 0 (pre ++ rest) (by rw [List.length_append]; omega)
  rw [this]
  simp [List.drop_append]
theorem fill_nil (place : Nat → Option (Nat × Nat)) (cs : Array Value) : Instr.fill place cs [] = some cs := rfl
theorem built_struct {P : Program} {t : TypeId} {fields : Array Field} {z : List Value} {places : List (Nat × Nat)} (hz : (P.info? t).bind (·.zero) = some (.agg z.toArray)) (hu : P.underlying t = some (.struct fields))
    (hp : fields.toList.mapM (fun f => (P.info? f.type).map fun i => (f.offset, i.size)) = some places) (parts : List (Nat × Value)) : P.built t parts = Instr.fill (places.toArray[·]?) z.toArray parts := by
  unfold Program.built
  cases hi : P.info? t with
  | none => rw [hi] at hz; simp at hz
  | some it =>
    rw [hi] at hz
    simp only [Option.bind_some] at hz
    simp only [hu, hz, hp]
    rfl
theorem setRow_alloc (w : World) (old cs : Array Value) (t : TypeId) : (w.alloc (.cells old t)).setRow w.heap.size cs = w.alloc (.cells cs t) := by
  unfold World.setRow World.alloc
  congr 1
  apply Array.ext
  · simp
  · intro i h1 h2
    simp only [Array.getElem_modify, Array.getElem_push]
    by_cases hi : w.heap.size = i
    · simp [hi]
    · simp only [hi, if_false]
      split
      · rfl
      · rename_i h; simp at h1; omega
/-- a variable of a struct's or an array's type, with a value -/
theorem kl_var_row {P : Program} {Q : Exit → Act → World → Prop} {N : Nat} {L : Slots} {w : World} {ops : Array Oper} {rest : List Oper} {o o' : Oper} {d y : Nat} {t : TypeId} {z cells : Array Value} (hz : (P.info? t).bind (·.zero) = some (.agg z)) (hi : (P.info? t).map (·.size) = some cells.size) (hs : z.size = cells.size) (hwv : cells.all (·.oneCell') = true)
    (hd : o.dst = some d) (hg : o.guard = none) (ho : o.op = .alloc t) (hd' : o'.dst = none) (hg' : o'.guard = none) (ho' : o'.op = .store t (.tmp d) (.tmp y)) (hy : lk L y = some (.agg cells)) (hne : (d == y) = false) (hn : Nat.blt d N = true)
    (h : KL P ops Q rest N ((d, .pointer (some ⟨w.heap.size, 0, none⟩)) :: L) (w.alloc (.cells cells t))) : KL P ops Q (o :: o' :: rest) N L w := by
  refine kl_alloc_row t hz hd hg ho hn ?_
  refine kl_store_row t w.heap.size cells t z (heap_alloc_new _ _) hi hs hwv hd' hg' ho' (lk_hit _ _ _) (by rw [lk_miss _ _ _ _ hne]; exact hy) ?_
  rw [setRow_alloc]
  exact h
/-- a slice of one element of whatever cells -/
theorem run_buildSlice_row {P : Program} {t e : TypeId} {z cs : List Value} {size : Nat} (ht : P.underlying t = some (.slice e)) (hz : (P.info? e).bind (·.zero) = some (.agg z.toArray)) (hs : (P.info? e).map (·.size) = some size) (hl : cs.length = size) (h0 : 0 < size) (hm : size ≤ 16777216) (w : World) :
    (Instr.buildSlice t 1 #[(0, .agg cs.toArray)]).run P w = .ok (.slice (some ⟨w.heap.size, 0, none⟩) 1 1) (w.alloc (.cells cs.toArray e)) := by
  cases hi : P.info? e with
  | none => rw [hi] at hs; simp at hs
  | some it =>
    rw [hi] at hs hz
    simp only [Option.map_some, Option.some.injEq, Option.bind_some] at hs hz
    have hsz : (sizeOf e).run P w = .ok size w := by simp [sizeOf, typeInfo, hi, hs]
    have hzz : (zeroValue e).run P w = .ok (.agg z.toArray) w := by simp [zeroValue, typeInfo, hi, hz]
    obtain ⟨l0, hl0, hl1⟩ : ∃ l0 : List Value, ((Array.range size).map ((Value.agg z.toArray).cells[· % (Value.agg z.toArray).cells.size]!)) = l0.toArray ∧ l0.length = size := ⟨_, (Array.toArray_toList).symm, by simp⟩
    have hf := fill_step (fun i => some (i * size, size)) [] l0 0 (.agg cs.toArray) cs rfl (by simp [hl]) (by omega) []
    rw [fill_nil, List.nil_append, List.nil_append, List.drop_of_length_le (by omega), List.append_nil] at hf
    have n1 : ¬ (16777216 < size) := by omega
    have n2 : ¬ (size = 0) := by omega
    simp only [Instr.buildSlice, Sem.run_bind, run_underlying ht, Result.andThen_ok, hsz, Nat.one_mul, gt_iff_lt, Nat.reducePow, n1, n2, if_false, Sem.run_pure, hzz, hl0, hf]
    simp [newRow]
theorem kl_buildSlice_row {P : Program} {Q : Exit → Act → World → Prop} {N : Nat} {L : Slots} {w : World} {ops : Array Oper} {rest : List Oper} {o : Oper} {d x : Nat} {t e : TypeId} {z cs : List Value} {size : Nat}
    (ht : P.underlying t = some (.slice e)) (hz : (P.info? e).bind (·.zero) = some (.agg z.toArray)) (hs : (P.info? e).map (·.size) = some size) (hl : cs.length = size) (h0 : 0 < size) (hm : size ≤ 16777216)
    (hd : o.dst = some d) (hg : o.guard = none) (ho : o.op = .buildSlice t 1 #[(0, .tmp x)]) (hx : lk L x = some (.agg cs.toArray)) (hn : Nat.blt d N = true)
    (h : KL P ops Q rest N ((d, .slice (some ⟨w.heap.size, 0, none⟩) 1 1) :: L) (w.alloc (.cells cs.toArray e))) : KL P ops Q (o :: rest) N L w := by
  refine kl_run hd hg ?_ ?_ h
  · simp [ho, okop, okx, hx, hn]
  · have he : ev L (.tmp x) = .agg cs.toArray := by simp [ev, hx]
    have hr := run_buildSlice_row ht hz hs hl h0 hm w
    simp [execOp, ho, he, hr, Sem.run_bind, Sem.run_pure]
end Go.Proofs.Ytcpifcdndhhmgaa
