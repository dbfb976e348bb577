/- A cut behind a piece of code that no way leaves: what would stand behind such a way does not count. No program in sight. Variables that are given. -/
import Derived.Test.YtcpifcdndhhmgaaRetRd
import Derived.Test.YtcpifcdndhhmgaaKnJ2
import Derived.Test.YtcpifcdndhhmgaaTakGive
set_option linter.unusedVariables false
set_option linter.unusedSimpArgs false
namespace Go.Proofs.Ytcpifcdndhhmgaa
open Go.RowKit
theorem kw_cutf {P : Program} {Q : Exit → Act → World → Prop} {n : Nat} {L : Slots} {w : World} {x y : Code} (I : Slots → World → Prop) (hx : ∀ Q', KW P x (Exit.then (MidK I n) Q') n L w) (h : ∀ L w, I L w → KW P y Q n L w) : KW P x (Exit.then (y.wp P Q) Q) n L w :=
  kw_cutq I (hx Q) h
end Go.Proofs.Ytcpifcdndhhmgaa
set_option linter.unusedVariables false
set_option linter.unusedSimpArgs false
namespace Go.Proofs.Ytcpifcdndhhmgaa
open Go.RowKit
attribute [local go_sem] ev_tmp ev_const ev_func ev_global lk_hit lk_miss uponK_value uponK_skip look_tmp look_const look_global look_func valP_value
theorem kl_makeIL {Q : Exit → Act → World → Prop} {n : Nat} {L : Slots} {w : World} {ops : Array Oper} {rest : List Oper} {o : Oper} {d y k : Nat} (hd : o.dst = some d) (hg : o.guard = none) (ho : o.op = .makeSlice 56 (.tmp y) (.tmp y)) (hy : lk L y = some (.int .i64 (k : Int))) (hk : k ≤ 1048576) (hn : Nat.blt d n = true)
    (h : KL Try.prog ops Q rest n ((d, .slice (some ⟨w.heap.size, 0, none⟩) k k) :: L) (w.alloc (.cells (List.replicate k (Value.int .i64 0)).toArray 3))) : KL Try.prog ops Q (o :: rest) n L w :=
  kl_step hd hg (by simp [ho, okop, okx, hy, hn]) fun K hK => by
    have he : ev L (.tmp y) = .int .i64 (k : Int) := by simp [ev, hy]
    have hr : (execOp (ev L) o).run Try.prog w = .ok (.value (.slice (some ⟨w.heap.size, 0, none⟩) k k)) (w.alloc (.cells (List.replicate k (Value.int .i64 0)).toArray 3)) := by
      simp [execOp, ho, he, makeInts k hk, Sem.run_bind, Result.andThen]
    rw [hr]
    exact hK _ _ h
/-- a variable with its values' block -/
def symOf (nm : List UInt8) (k e n : Int) (r : Bool) (zs : List Int) (g : Nat) : SymA := A0 nm ⟨k, e, n, []⟩ r zs none 0 0 (some ⟨g, 0, none⟩) zs.length
/-- the given variables: nb elements; the first one's retain, the fourth one's kind and value -/
def symL (nb : Nat) (r0 : Bool) (k3 z3 : Int) (g0 g1 g2 g3 g4 g5 g6 : Nat) : List SymA :=
  [symOf [110] 5 0 0 r0 [0] g0, symOf [98] 1 0 0 false [1] g1, symOf [119] 3 0 0 false [5] g2, symOf [105] k3 0 0 true [z3] g3, symOf [97] 7 5 nb false (List.replicate nb 0) g4, symOf [116] 9 0 0 false [0, 50, 0, 0, 0, 0] g5, symOf [99] 10 0 0 false [0, 0, 3, 0, 0, 0] g6]
def intO (zs : List Int) : Array Value := (zs.map (Value.int .i64)).toArray
def symV (nb : Nat) (r0 : Bool) (k3 z3 : Int) (gY g0 g1 g2 g3 g4 g5 g6 : Nat) : Vars :=
  [(gY, (flatR symE (symL nb r0 k3 z3 g0 g1 g2 g3 g4 g5 g6)).toArray, 73), (g6, intO [0, 0, 3, 0, 0, 0], 3), (g5, intO [0, 50, 0, 0, 0, 0], 3), (g4, intO (List.replicate nb 0), 3), (g3, intO [z3], 3), (g2, intO [5], 3), (g1, intO [1], 3), (g0, intO [0], 3)]
theorem fill_rows {α : Type} (E : Enc α) : ∀ (l : List α) (k : Nat) (pre rest : List Value), pre.length = k * E.size → rest.length = l.length * E.size →
    Instr.fill (fun i => some (i * E.size, E.size)) (pre ++ rest).toArray (l.mapIdx fun i a => (k + i, Value.agg (E.cells a).toArray)) = some (pre ++ flatR E l).toArray
  | [], k, pre, rest, hp, hr => by
    have : rest = [] := List.eq_nil_of_length_eq_zero (by simpa using hr)
    subst this
    simp [fill_nil, flatR]
  | a :: l, k, pre, rest, hp, hr => by
    have hlen := E.len a
    have hr' : rest.length = l.length * E.size + E.size := by rw [hr, List.length_cons, Nat.add_mul, Nat.one_mul]
    have h1 := fill_step (fun i => some (i * E.size, E.size)) pre rest k (.agg (E.cells a).toArray) (E.cells a) rfl (by simp [hlen, hp]) (by omega) (l.mapIdx fun i a => (k + 1 + i, Value.agg (E.cells a).toArray))
    have h2 := fill_rows E l (k + 1) (pre ++ E.cells a) (rest.drop (E.cells a).length) (by rw [List.length_append, hp, hlen, Nat.add_mul, Nat.one_mul]) (by rw [List.length_drop, hlen]; omega)
    rw [h2, List.append_assoc, ← flatR_cons] at h1
    rw [← h1, List.mapIdx_cons]
    congr 1
    simp only [Nat.add_zero, List.cons.injEq, true_and]
    congr 1
    funext i b
    rw [show k + (i + 1) = k + 1 + i by omega]
theorem run_buildSlice_rows {α : Type} (E : Enc α) {P : Program} {t e : TypeId} {z : List Value} (l : List α) (parts : Array (Nat × Value)) (ht : P.underlying t = some (.slice e)) (hz : (P.info? e).bind (·.zero) = some (.agg z.toArray)) (hs : (P.info? e).map (·.size) = some E.size) (h0 : 0 < l.length) (hm : l.length * E.size ≤ 16777216)
    (hp : parts.toList = l.mapIdx fun i a => (i, Value.agg (E.cells a).toArray)) (w : World) :
    (Instr.buildSlice t l.length parts).run P w = .ok (.slice (some ⟨w.heap.size, 0, none⟩) l.length l.length) (w.alloc (.cells (flatR E l).toArray e)) := by
  have hpos := E.pos
  cases hi : P.info? e with
  | none => rw [hi] at hs; simp at hs
  | some it =>
    rw [hi] at hs hz
    simp only [Option.map_some, Option.some.injEq, Option.bind_some] at hs hz
    have hsz : (sizeOf e).run P w = .ok E.size w := by simp [sizeOf, typeInfo, hi, hs]
    have hzz : (zeroValue e).run P w = .ok (.agg z.toArray) w := by simp [zeroValue, typeInfo, hi, hz]
    obtain ⟨l0, hl0, hl1⟩ : ∃ l0 : List Value, ((Array.range (l.length * E.size)).map ((Value.agg z.toArray).cells[· % (Value.agg z.toArray).cells.size]!)) = l0.toArray ∧ l0.length = l.length * E.size := ⟨_, (Array.toArray_toList).symm, by simp⟩
    have hf := fill_rows E l 0 [] l0 (by simp) hl1
    simp only [Nat.zero_add, List.nil_append] at hf
    have n1 : ¬ (16777216 < l.length * E.size) := by omega
    have n2 : ¬ (l.length * E.size = 0) := by
      have := Nat.mul_pos h0 hpos
      omega
    simp only [Instr.buildSlice, Sem.run_bind, run_underlying ht, Result.andThen_ok, hsz, gt_iff_lt, Nat.reducePow, n1, n2, if_false, Sem.run_pure, hzz, hl0, hp, hf]
    simp [newRow]
theorem kl_buildSlice_rows {α : Type} (E : Enc α) {P : Program} {Q : Exit → Act → World → Prop} {N : Nat} {L : Slots} {w : World} {ops : Array Oper} {rest : List Oper} {o : Oper} {d : Nat} {t e : TypeId} {z : List Value} (l : List α) (k : Nat) (parts : Array (Nat × Operand)) (hk : k = l.length)
    (ht : P.underlying t = some (.slice e)) (hz : (P.info? e).bind (·.zero) = some (.agg z.toArray)) (hs : (P.info? e).map (·.size) = some E.size) (h0 : 0 < l.length) (hm : l.length * E.size ≤ 16777216)
    (hd : o.dst = some d) (hg : o.guard = none) (ho : o.op = .buildSlice t k parts) (hok : (parts.toList.all fun p => okx L p.2) = true) (hp : (parts.toList.map fun p => (p.1, ev L p.2)) = l.mapIdx fun i a => (i, Value.agg (E.cells a).toArray)) (hn : Nat.blt d N = true)
    (h : KL P ops Q rest N ((d, .slice (some ⟨w.heap.size, 0, none⟩) k k) :: L) (w.alloc (.cells (flatR E l).toArray e))) : KL P ops Q (o :: rest) N L w := by
  subst hk
  refine kl_run hd hg (by simp only [ho, okop, Bool.and_eq_true]; exact ⟨hok, hn⟩) ?_ h
  have hr := run_buildSlice_rows E l (parts.map fun (i, x) => (i, ev L x)) ht hz hs h0 hm (by rw [Array.toList_map]; exact hp) w
  simp [execOp, ho, hr, Sem.run_bind, Sem.run_pure]
theorem typBuilt3 (k e n : Int) : Try.prog.built 71 [(0, .int .i64 k), (1, .int .i64 e), (2, .int .i64 n)] = some (typC ⟨k, e, n, []⟩ none 0 0).toArray := by
  obtain ⟨fs, hu, hp⟩ := typUnder
  rw [built_struct typZero hu hp]
  refine (fill_step _ [] (typC typZ none 0 0) 0 (.int .i64 k) [.int .i64 k] rfl rfl (by simp [typC]) [(1, .int .i64 e), (2, .int .i64 n)]).trans ?_
  refine (fill_step _ [.int .i64 k] ((typC typZ none 0 0).drop 1) 1 (.int .i64 e) [.int .i64 e] rfl rfl (by simp [typC]) [(2, .int .i64 n)]).trans ?_
  refine (fill_step _ [.int .i64 k, .int .i64 e] ((typC typZ none 0 0).drop 2) 2 (.int .i64 n) [.int .i64 n] rfl rfl (by simp [typC]) []).trans ?_
  rw [fill_nil]; rfl
theorem symBuilt4 (nm : List UInt8) (x : TypV) (r : Bool) (A : Option Addr) (m c : Nat) (zs : List Int) (hm : m = c) : Try.prog.built 73 [(0, .string ⟨nm.toArray⟩), (1, .agg (typC x none 0 0).toArray), (2, .bool r), (3, .slice A m c)] = some (symC (A0 nm x r zs none 0 0 A m)).toArray := by
  subst hm
  obtain ⟨fs, hu, hp⟩ := symUnder
  rw [built_struct symZero hu hp]
  refine (fill_step _ [] (symC symZ) 0 (.string ⟨nm.toArray⟩) [.string ⟨nm.toArray⟩] rfl rfl (by simp [symC]) [(1, .agg (typC x none 0 0).toArray), (2, .bool r), (3, .slice A m m)]).trans ?_
  refine (fill_step _ [.string ⟨nm.toArray⟩] ((symC symZ).drop 1) 1 (.agg (typC x none 0 0).toArray) (typC x none 0 0) rfl rfl (by simp [symC, typC]) [(2, .bool r), (3, .slice A m m)]).trans ?_
  refine (fill_step _ (.string ⟨nm.toArray⟩ :: typC x none 0 0) ((symC symZ).drop 5) 2 (.bool r) [.bool r] rfl rfl (by simp [symC, typC]) [(3, .slice A m m)]).trans ?_
  refine (fill_step _ [.string ⟨nm.toArray⟩, .int .i64 x.kind, .int .i64 x.elem, .int .i64 x.n, .slice none 0 0, .bool r] ((symC symZ).drop 6) 3 (.slice A m m) [.slice A m m] rfl rfl (by simp [symC, typC]) []).trans ?_
  rw [fill_nil]; rfl
theorem symBuilt013 (nm : List UInt8) (x : TypV) (A : Option Addr) (m c : Nat) (zs : List Int) (hm : m = c) : Try.prog.built 73 [(0, .string ⟨nm.toArray⟩), (1, .agg (typC x none 0 0).toArray), (3, .slice A m c)] = some (symC (A0 nm x false zs none 0 0 A m)).toArray := by
  subst hm
  obtain ⟨fs, hu, hp⟩ := symUnder
  rw [built_struct symZero hu hp]
  refine (fill_step _ [] (symC symZ) 0 (.string ⟨nm.toArray⟩) [.string ⟨nm.toArray⟩] rfl rfl (by simp [symC]) [(1, .agg (typC x none 0 0).toArray), (3, .slice A m m)]).trans ?_
  refine (fill_step _ [.string ⟨nm.toArray⟩] ((symC symZ).drop 1) 1 (.agg (typC x none 0 0).toArray) (typC x none 0 0) rfl rfl (by simp [symC, typC]) [(3, .slice A m m)]).trans ?_
  refine (fill_step _ [.string ⟨nm.toArray⟩, .int .i64 x.kind, .int .i64 x.elem, .int .i64 x.n, .slice none 0 0, .bool false] ((symC symZ).drop 6) 3 (.slice A m m) [.slice A m m] rfl rfl (by simp [symC, typC]) []).trans ?_
  rw [fill_nil]; rfl
set_option maxRecDepth 100000 in
set_option maxHeartbeats 4000000 in
theorem syms12_any (b : Bool) (w : World) :
    Calls Try.prog 35 #[.bool b] w fun e w' => ∃ gY g0 g1 g2 g3 g4 g5 g6, e = .returned (.slice (some ⟨gY, 0, none⟩) 7 7) ∧ Lay w w' (symV (if b then 5 else 3) true 4 (-3) gY g0 g1 g2 g3 g4 g5 g6) := by
  refine calls_kw Try.func35 rfl Try.ntmps35 rfl [(0, .bool b)] rfl ?_
  repeat (first | refine kw_seq ?_ | refine kw_region ?_ | refine kl_nil ?_ | refine kq_then ?_ | (first | refine kl_move rfl rfl (.inl rfl) rfl rfl ?_ | refine kl_move rfl rfl (.inr rfl) rfl rfl ?_ | refine kl_const rfl rfl (.inl rfl) rfl ?_ | refine kl_const rfl rfl (.inr rfl) rfl ?_))
  obtain ⟨nb, hnb⟩ : ∃ nb : Nat, (if b = true then 5 else 3) = nb := ⟨_, rfl⟩
  rw [hnb]
  have hn8 : nb ≤ 8 := by rw [← hnb]; split <;> omega
  refine KW.less [0, 3, 4] ?_
  simp only [nrm, lk, Nat.reduceBEq, cond_true, cond_false]
  refine kw_cutf (fun L W => w = W ∧ L = [(3, .int .i64 (nb : Int))]) ?_ ?_
  · intro Q'
    cases b
    case false =>
      obtain rfl : nb = 3 := by simpa using hnb.symm
      refine kw_iff rfl ?_
      refine kw_skip ?_
      refine kq_cut [3] ?_
      exact ⟨rfl, rfl⟩
    obtain rfl : nb = 5 := by simpa using hnb.symm
    refine kw_ift rfl ?_
    repeat (first | refine kw_seq ?_ | refine kw_region ?_ | refine kl_nil ?_ | refine kq_then ?_ | refine kw_ift rfl ?_ | refine kw_iff rfl ?_ | refine kw_skip ?_ | (first | refine kl_move rfl rfl (.inl rfl) rfl rfl ?_ | refine kl_move rfl rfl (.inr rfl) rfl rfl ?_ | refine kl_const rfl rfl (.inl rfl) rfl ?_ | refine kl_const rfl rfl (.inr rfl) rfl ?_) | ((first | refine kl_step rfl rfl rfl fun K hK => ?_ | refine kl_step0 rfl rfl rfl fun K hK => ?_); go_simp; (try go_bits); (first | refine hK _ _ ?_ | refine hK _ ?_); clear hK K))
    refine kq_cut [3] ?_
    exact ⟨rfl, rfl⟩
  rintro L W ⟨rfl, rfl⟩
  have hL0 : Lay w w [] := Lay.start w
  refine kw_seq ?_
  refine kw_region ?_
  refine kl_build 71 _ _ rfl rfl rfl (by rfl) (by rfl) (typBuilt1 _) ?_
  (first | ((first | refine kl_step rfl rfl rfl fun K hK => ?_ | refine kl_step0 rfl rfl rfl fun K hK => ?_); go_simp; (try go_bits); (first | refine hK _ _ ?_ | refine hK _ ?_); clear hK K))
  have hL1 := hL0.alloc (intO [0]) 3
  refine (show KL _ _ _ _ _ _ (w.alloc (.cells (intO [0]) 3)) from ?_)
  clear hL0
  generalize w.heap.size = g0 at hL1 ⊢
  generalize w.alloc (.cells (intO [0]) 3) = w1 at hL1 ⊢
  refine kl_build 73 _ _ rfl rfl rfl (by rfl) (by rfl) (symBuilt4 _ _ _ _ _ _ [0] rfl) ?_
  refine kl_build 71 _ _ rfl rfl rfl (by rfl) (by rfl) (typBuilt1 _) ?_
  (first | ((first | refine kl_step rfl rfl rfl fun K hK => ?_ | refine kl_step0 rfl rfl rfl fun K hK => ?_); go_simp; (try go_bits); (first | refine hK _ _ ?_ | refine hK _ ?_); clear hK K))
  have hL2 := hL1.alloc (intO [1]) 3
  refine (show KL _ _ _ _ _ _ (w1.alloc (.cells (intO [1]) 3)) from ?_)
  clear hL1
  generalize w1.heap.size = g1 at hL2 ⊢
  generalize w1.alloc (.cells (intO [1]) 3) = w2 at hL2 ⊢
  refine kl_build 73 _ _ rfl rfl rfl (by rfl) (by rfl) (symBuilt013 _ _ _ _ _ [1] rfl) ?_
  refine kl_build 71 _ _ rfl rfl rfl (by rfl) (by rfl) (typBuilt1 _) ?_
  (first | ((first | refine kl_step rfl rfl rfl fun K hK => ?_ | refine kl_step0 rfl rfl rfl fun K hK => ?_); go_simp; (try go_bits); (first | refine hK _ _ ?_ | refine hK _ ?_); clear hK K))
  have hL3 := hL2.alloc (intO [5]) 3
  refine (show KL _ _ _ _ _ _ (w2.alloc (.cells (intO [5]) 3)) from ?_)
  clear hL2
  generalize w2.heap.size = g2 at hL3 ⊢
  generalize w2.alloc (.cells (intO [5]) 3) = w3 at hL3 ⊢
  refine kl_build 73 _ _ rfl rfl rfl (by rfl) (by rfl) (symBuilt013 _ _ _ _ _ [5] rfl) ?_
  refine kl_build 71 _ _ rfl rfl rfl (by rfl) (by rfl) (typBuilt1 _) ?_
  (first | ((first | refine kl_step rfl rfl rfl fun K hK => ?_ | refine kl_step0 rfl rfl rfl fun K hK => ?_); go_simp; (try go_bits); (first | refine hK _ _ ?_ | refine hK _ ?_); clear hK K))
  have hL4 := hL3.alloc (intO [-3]) 3
  refine (show KL _ _ _ _ _ _ (w3.alloc (.cells (intO [-3]) 3)) from ?_)
  clear hL3
  generalize w3.heap.size = g3 at hL4 ⊢
  generalize w3.alloc (.cells (intO [-3]) 3) = w4 at hL4 ⊢
  refine kl_build 73 _ _ rfl rfl rfl (by rfl) (by rfl) (symBuilt4 _ _ _ _ _ _ [-3] rfl) ?_
  repeat (first | (first | refine kl_move rfl rfl (.inl rfl) rfl rfl ?_ | refine kl_move rfl rfl (.inr rfl) rfl rfl ?_ | refine kl_const rfl rfl (.inl rfl) rfl ?_ | refine kl_const rfl rfl (.inr rfl) rfl ?_))
  refine kl_build 71 _ _ rfl rfl rfl (by rfl) (by rfl) (typBuilt3 _ _ _) ?_
  repeat (first | (first | refine kl_move rfl rfl (.inl rfl) rfl rfl ?_ | refine kl_move rfl rfl (.inr rfl) rfl rfl ?_ | refine kl_const rfl rfl (.inl rfl) rfl ?_ | refine kl_const rfl rfl (.inr rfl) rfl ?_))
  refine kl_makeIL rfl rfl rfl rfl (by omega) rfl ?_
  have hL5 := hL4.alloc (intO (List.replicate nb 0)) 3
  rw [show (intO (List.replicate nb 0)) = (List.replicate nb (Value.int .i64 0)).toArray by unfold intO; rw [List.map_replicate]] at hL5
  clear hL4
  generalize w4.heap.size = g4 at hL5 ⊢
  generalize w4.alloc (.cells (List.replicate nb (Value.int .i64 0)).toArray 3) = w5 at hL5 ⊢
  rw [show (List.replicate nb (Value.int .i64 0)).toArray = intO (List.replicate nb 0) by unfold intO; rw [List.map_replicate]] at hL5
  refine kl_build 73 _ _ rfl rfl rfl (by rfl) (by rfl) (symBuilt013 _ _ _ _ _ (List.replicate nb 0) rfl) ?_
  refine kl_build 71 _ _ rfl rfl rfl (by rfl) (by rfl) (typBuilt1 _) ?_
  (first | ((first | refine kl_step rfl rfl rfl fun K hK => ?_ | refine kl_step0 rfl rfl rfl fun K hK => ?_); go_simp; (try go_bits); (first | refine hK _ _ ?_ | refine hK _ ?_); clear hK K))
  have hL6 := hL5.alloc (intO [0, 50, 0, 0, 0, 0]) 3
  refine (show KL _ _ _ _ _ _ (w5.alloc (.cells (intO [0, 50, 0, 0, 0, 0]) 3)) from ?_)
  clear hL5
  generalize w5.heap.size = g5 at hL6 ⊢
  generalize w5.alloc (.cells (intO [0, 50, 0, 0, 0, 0]) 3) = w6 at hL6 ⊢
  refine kl_build 73 _ _ rfl rfl rfl (by rfl) (by rfl) (symBuilt013 _ _ _ _ _ [0, 50, 0, 0, 0, 0] rfl) ?_
  refine kl_build 71 _ _ rfl rfl rfl (by rfl) (by rfl) (typBuilt1 _) ?_
  (first | ((first | refine kl_step rfl rfl rfl fun K hK => ?_ | refine kl_step0 rfl rfl rfl fun K hK => ?_); go_simp; (try go_bits); (first | refine hK _ _ ?_ | refine hK _ ?_); clear hK K))
  have hL7 := hL6.alloc (intO [0, 0, 3, 0, 0, 0]) 3
  refine (show KL _ _ _ _ _ _ (w6.alloc (.cells (intO [0, 0, 3, 0, 0, 0]) 3)) from ?_)
  clear hL6
  generalize w6.heap.size = g6 at hL7 ⊢
  generalize w6.alloc (.cells (intO [0, 0, 3, 0, 0, 0]) 3) = w7 at hL7 ⊢
  refine kl_build 73 _ _ rfl rfl rfl (by rfl) (by rfl) (symBuilt013 _ _ _ _ _ [0, 0, 3, 0, 0, 0] rfl) ?_
  have hrep : symOf [97] 7 5 nb false (List.replicate nb 0) g4 = A0 [97] ⟨7, 5, nb, []⟩ false (List.replicate nb 0) none 0 0 (some ⟨g4, 0, none⟩) nb := by unfold symOf; rw [List.length_replicate]
  refine kl_buildSlice_rows symE (symL nb true 4 (-3) g0 g1 g2 g3 g4 g5 g6) 7 _ rfl Try.underlying55 symZero symSize (by show 0 < 7; omega) (by show 7 * 7 ≤ _; omega) rfl rfl rfl (by rfl) (by unfold symL; rw [hrep]; rfl) rfl ?_
  have hL8 := hL7.alloc (flatR symE (symL nb true 4 (-3) g0 g1 g2 g3 g4 g5 g6)).toArray 73
  clear hL7
  generalize w7.heap.size = gY at hL8 ⊢
  generalize w7.alloc (.cells (flatR symE (symL nb true 4 (-3) g0 g1 g2 g3 g4 g5 g6)).toArray 73) = w8 at hL8 ⊢
  repeat (first | refine kw_seq ?_ | refine kw_block ?_ | refine kw_skip ?_ | refine kw_region ?_ | refine kl_nil ?_ | refine kq_then ?_ | refine kq_block ?_ | refine kw_exit ?_ | refine kq_then_exit ?_ | refine kq_block_here rfl ?_ | refine kq_block_far rfl ?_ | refine kq_again_exit ?_ | refine kw_ret ?_ | refine kq_then_ret ?_ | refine kq_block_ret ?_ | refine kq_again_ret ?_ | refine kw_ift rfl ?_ | refine kw_iff rfl ?_ | refine kl_ung rfl rfl ?_ | refine kl_skipg rfl rfl rfl rfl ?_ | refine kl_skipg0 rfl rfl rfl ?_ | (first | refine kl_move rfl rfl (.inl rfl) rfl rfl ?_ | refine kl_move rfl rfl (.inr rfl) rfl rfl ?_ | refine kl_const rfl rfl (.inl rfl) rfl ?_ | refine kl_const rfl rfl (.inr rfl) rfl ?_) | ((first | refine kl_step rfl rfl rfl fun K hK => ?_ | refine kl_step0 rfl rfl rfl fun K hK => ?_); go_simp; (try go_bits); (first | refine hK _ _ ?_ | refine hK _ ?_); clear hK K))
  exact kq_ret1 rfl rfl ⟨gY, g0, g1, g2, g3, g4, g5, g6, rfl, hL8⟩
end Go.Proofs.Ytcpifcdndhhmgaa
