/- What is given to cells: the code's. -/
import Derived.Test.YtcpifcdndhhmgaaTakBack
import Derived.Test.YtcpifcdndhhmgaaKnJ3
import Derived.Test.YtcpifcdndhhmgaaKnR
import Derived.Test.YtcpifcdndhhmgaaKnD
import Derived.Test.YtcpifcdndhhmgaaClone
import Derived.Shelf.Abstract
set_option linter.unusedVariables false
set_option linter.unusedSimpArgs false
namespace Go.Proofs.Ytcpifcdndhhmgaa
open Go.RowKit
attribute [local go_sem] ev_tmp ev_const ev_func ev_global lk_hit lk_miss uponK_value uponK_skip look_tmp look_const look_global look_func valP_value
theorem hit_kv (c : CellV) : hitK c = hitV c.path c.kind := rfl
theorem keyZero : (Try.prog.info? 99).bind (·.zero) = some (.agg [Value.string ⟨#[]⟩, .int .i64 0].toArray) := by kernel_rfl
theorem keyUnder : ∃ fs, Try.prog.underlying 99 = some (.struct fs) ∧ fs.toList.mapM (fun f => (Try.prog.info? f.type).map fun i => (f.offset, i.size)) = some [(0, 1), (1, 1)] := ⟨_, Try.underlying99, by kernel_rfl⟩
theorem keyBuilt2 (s : List UInt8) (q : Int) : Try.prog.built 99 [(0, .string ⟨s.toArray⟩), (1, .int .i64 q)] = some #[.string ⟨s.toArray⟩, .int .i64 q] := by
  obtain ⟨fs, hu, hp⟩ := keyUnder
  rw [built_struct keyZero hu hp]
  refine (fill_step _ [] [Value.string ⟨#[]⟩, .int .i64 0] 0 (.string ⟨s.toArray⟩) [.string ⟨s.toArray⟩] rfl rfl (by simp) [(1, .int .i64 q)]).trans ?_
  refine (fill_step _ [.string ⟨s.toArray⟩] ([Value.string ⟨#[]⟩, .int .i64 0].drop 1) 1 (.int .i64 q) [.int .i64 q] rfl rfl (by simp) []).trans ?_
  rw [fill_nil]; rfl
set_option maxRecDepth 100000 in
theorem makeInts (n : Nat) (hn : n ≤ 1048576) (W : World) :
    (Instr.makeSlice 56 (.int .i64 (n : Int)) (.int .i64 (n : Int))).run Try.prog W = .ok (.slice (some ⟨W.heap.size, 0, none⟩) n n) (W.alloc (.cells (List.replicate n (Value.int .i64 0)).toArray 3)) := by
  obtain ⟨i0, hi0, hz0, hz1, hz2⟩ := info_parts intInfo3
  have hr := run_make (P := Try.prog) W 56 3 i0 (.int .i64 0) Try.underlying56 hi0 hz0 .i64 .i64 n n (by omega) (by omega) (by rw [hz2]; omega) (by omega)
  simp only [Int.toNat_natCast, hz1, Nat.mul_one, Value.cells] at hr
  rw [hr]
  congr 3
  apply Array.toList_inj.1
  rw [toList_madeCells_one]
theorem kl_makeI {Q : Exit → Act → World → Prop} {n : Nat} {L : Slots} {w : World} {ops : Array Oper} {rest : List Oper} {o : Oper} {d y k : Nat} (hd : o.dst = some d) (hg : o.guard = none) (ho : o.op = .makeSlice 56 (.tmp y) (.tmp y)) (hy : lk L y = some (.int .i64 (k : Int))) (hk : k ≤ 1048576) (hn : Nat.blt d n = true)
    (h : ∀ g w', Hid (g = w.heap.size) → Below w.heap.size w w' → w'.ownsRow w.heap.size 3 1 (.slice (some ⟨g, 0, none⟩) k k) k (List.replicate k (Value.int .i64 0)) → KL Try.prog ops Q rest n ((d, .slice (some ⟨g, 0, none⟩) k k) :: L) w') : KL Try.prog ops Q (o :: rest) n L w :=
  kl_step hd hg (by simp [ho, okop, okx, hy, hn]) fun K hK => by
    have he : ev L (.tmp y) = .int .i64 (k : Int) := by simp [ev, hy]
    have hr : (execOp (ev L) o).run Try.prog w = .ok (.value (.slice (some ⟨w.heap.size, 0, none⟩) k k)) (w.alloc (.cells (List.replicate k (Value.int .i64 0)).toArray 3)) := by
      simp [execOp, ho, he, makeInts k hk, Sem.run_bind, Result.andThen]
    rw [hr]
    exact hK _ _ (h _ _ (by show _ = _; rfl) ((Below.refl _ _).alloc (Nat.le_refl _) _) ⟨by simp, .inr ⟨w.heap.size, k, _, rfl, Nat.le_refl _, heap_alloc_new w _, Nat.le_refl _, by simp [maxLen]; omega, by simp, by simp⟩⟩)
def ordB {m : Nat} (ks : List KepS) (pre : List (Fin m)) : List KepS := (pre.map fun i => ks.getD (m - 1 - i.1) kepZ).reverse
theorem ordB_snoc {m : Nat} (ks : List KepS) (pre : List (Fin m)) (x : Fin m) : ordB ks (pre ++ [x]) = ks.getD (m - 1 - x.1) kepZ :: ordB ks pre := by simp [ordB]
theorem ordB_all {m : Nat} (ks : List KepS) (h : ks.length = m) : ordB ks (List.finRange m) = ks := by
  apply List.ext_getElem
  · simp [ordB, h]
  · intro i h1 h2
    simp [ordB] at h1
    simp only [ordB, List.getElem_reverse, List.getElem_map, List.getElem_finRange, List.length_map, List.length_finRange]
    rw [List.getD_eq_getElem?_getD, List.getElem?_eq_getElem (by simp; omega)]
    simp
    congr 1
    omega
def fillG (ks : List KepS) (l : List CellV) (n k : Nat) : List Value := ((l.take k).map fun c => Value.int .i64 (giveOne ks c)) ++ List.replicate (n - k) (Value.int .i64 0)
theorem fillG_0 (ks : List KepS) (l : List CellV) (n : Nat) : fillG ks l n 0 = List.replicate n (Value.int .i64 0) := by simp [fillG]
theorem fillG_n (ks : List KepS) (l : List CellV) (n : Nat) (h : l.length = n) : fillG ks l n n = (giveP l ks).map (Value.int .i64) := by
  subst h; simp [fillG, giveP]
theorem fillG_at (ks : List KepS) (l : List CellV) (n k : Nat) (h : l.length = n) (hk : k < n) : (fillG ks l n k)[k]? = some (Value.int .i64 0) := by
  unfold fillG
  have h1 : ((l.take k).map fun c => Value.int .i64 (giveOne ks c)).length = k := by simp; omega
  rw [List.getElem?_append_right (by rw [h1]; exact Nat.le_refl _), h1, Nat.sub_self, List.getElem?_replicate, if_pos (by omega)]
theorem fillG_next (ks : List KepS) (l : List CellV) (n k : Nat) (p : CellV) (h : l.length = n) (hk : k < n) (ht : l.take (k + 1) = l.take k ++ [p]) : (fillG ks l n k).set k (Value.int .i64 (giveOne ks p)) = fillG ks l n (k + 1) := by
  unfold fillG
  have hl : ((l.take k).map fun c => Value.int .i64 (giveOne ks c)).length = k := by simp; omega
  rw [List.set_append_right _ _ (by rw [hl]; exact Nat.le_refl _), hl, Nat.sub_self, ht]
  obtain ⟨r, hr⟩ : ∃ r, n - k = r + 1 := ⟨n - k - 1, by omega⟩
  rw [hr, show n - (k + 1) = r by omega, List.replicate_succ, List.set_cons_zero]
  simp
theorem give_yes (ks : List KepS) (p : CellV) (hr : p.retain = true) (hf : (ks.find? (hitV p.path p.kind)).isSome = true) : giveOne ks p = ((ks.find? (hitV p.path p.kind)).map (·.value)).getD 0 := by
  unfold giveOne foundK
  rw [if_pos hr, hit_kv]
  cases h : ks.find? (hitV p.path p.kind) with
  | none => rw [h] at hf; cases hf
  | some k => rfl
theorem give_no (ks : List KepS) (p : CellV) (h : (ks.find? (hitV p.path p.kind)).isSome = false ∨ p.retain = false) : giveOne ks p = p.init := by
  unfold giveOne foundK
  rcases h with h | h
  · rw [hit_kv]
    cases h2 : ks.find? (hitV p.path p.kind) with
    | none => simp
    | some k => rw [h2] at h; cases h
  · rw [h]; rfl
theorem own_at1 {w : World} {base : Nat} {e : TypeId} {n c g : Nat} {xs : List Value} (h : w.ownsRow base e 1 (.slice (some ⟨g, 0, none⟩) n c) n xs) {j : Nat} {u : Value} (hu : xs[j]? = some u) : w.cell? ⟨g, j, none⟩ = some u := by
  have := (Vs.of_own h).cellAt hu
  rwa [Nat.zero_add] at this
theorem own_free1 {w : World} {base : Nat} {e : TypeId} {n c g j size : Nat} {xs : List Value} (h : w.ownsRow base e size (.slice (some ⟨g, 0, none⟩) n c) n xs) : w.frozen? ⟨g, j, none⟩ = false := by
  rcases h.2 with ⟨h1, _⟩ | ⟨g', cap, cur, hv, _, hh, _⟩
  · cases h1
  · injection hv with hv _ _
    injection hv with hv
    injection hv with hv
    subst hv
    exact free_of_block hh
theorem own_low {w : World} {B B' : Nat} {e : TypeId} {size n : Nat} {v : Value} {xs : List Value} (h : w.ownsRow B e size v n xs) (hb : B' ≤ B) : w.ownsRow B' e size v n xs := by
  refine ⟨h.1, ?_⟩
  rcases h.2 with h2 | ⟨g, cap, cur, h1, h2, h3⟩
  · exact .inl h2
  · exact .inr ⟨g, cap, cur, h1, Nat.le_trans hb h2, h3⟩
theorem boxed_far {W W' : World} {k j : Nat} {t : TypeId} {v : Value} (h : Boxed W k t v) (hg : W.grownBy W' (some j)) (hne : k ≠ j) : Boxed W' k t v := h.kept hg (fun e => hne (by injection e))
theorem MapK.below {W W' : World} {b n : Nat} {S : List KepS} (h : MapK W b n S) (hb : Below W.heap.size W W') : MapK W' b n S := h.kept (grown_below hb none) (by simp)
theorem below_own {B : Nat} {w0 W W' : World} {row : Option Nat} (hb : Below B w0 W) (hg : W.grownBy W' row) (hB : B ≤ W.heap.size) (hr : ∀ r, row = some r → B ≤ r) : Below B w0 W' := hb.grown hg hB fun k hk => hr k hk
set_option maxRecDepth 100000 in
set_option maxHeartbeats 4000000 in
theorem give_any (A : Option Addr) (n c : Nat) (l : List CellV) (K : Option Addr) (m d : Nat) (ks : List KepS) (w : World) (hA : Rw cellE w A n l) (hn : n ≤ 1048576) (hK : KeS w K m ks) (hm : m ≤ 1048576) (hmd : m ≤ d) (hd : d ≤ 9223372036854775807)
    (hks : ∀ k ∈ ks, k.path.length ≤ 9223372036854775807 ∧ I64 k.kind ∧ I64 k.value) (hlp : ∀ c ∈ l, c.path.length ≤ 9223372036854775807 ∧ I64 c.kind) :
    Calls Try.prog 33 #[.slice A n c, .slice K m d] w fun e w' => ∃ v, e = .returned v ∧ w'.ownsRow w.heap.size 3 1 v n ((giveP l ks).map (Value.int .i64)) ∧ Below w.heap.size w w' := by
  have HL := Lib.hid hA.len
  have HKL := Lib.hid hK.len
  have HKS := Lib.hid hks
  have HLP := Lib.hid hlp
  have HN := Lib.hid (And.intro hn (And.intro hm (And.intro hmd hd)))
  refine calls_kwm (args := [.slice A n c, .slice K m d]) Try.func33 rfl Try.ntmps33 rfl [(0, .slice A n c), (1, .slice K m d)] rfl ?_
  repeat (first | refine kw_seq ?_ | refine kw_region ?_ | refine kl_nil ?_ | refine kq_then ?_ | (first | refine kl_move rfl rfl (.inl rfl) rfl rfl ?_ | refine kl_move rfl rfl (.inr rfl) rfl rfl ?_ | refine kl_const rfl rfl (.inl rfl) rfl ?_ | refine kl_const rfl rfl (.inr rfl) rfl ?_))
  refine kl_makeMap rfl rfl rfl rfl fun b0 w1 he1 hw1 => ?_
  have hb1 : Below w.heap.size w w1 := by rw [hw1]; exact (Below.refl _ _).alloc (Nat.le_refl _) _
  have hM1 : MapK w1 b0 0 [] := by rw [hw1, he1]; exact MapK.made w
  have hO1 : w.heap.size ≤ b0 ∧ b0 < w1.heap.size := ⟨by rw [he1]; exact Nat.le_refl _, hM1.lt⟩
  clear hw1 he1
  refine kl_alloc1 (v := .map none) rfl rfl rfl (by kernel_rfl) rfl rfl fun bm w2 he2 hs2 hb2 hx2 => ?_
  have hM2 := hM1.below hb2
  have hb12 := below_then hb1 hb2 hb1.size
  have HO2 : Hid (w.heap.size ≤ b0 ∧ b0 < bm ∧ bm < w2.heap.size) := by show _ ∧ _ ∧ _; refine ⟨hO1.1, ?_, hx2.lt⟩; rw [he2]; exact hO1.2
  have cbm := hx2.cell
  have fbm := hx2.frozen
  obtain ⟨w3, hw3⟩ : ∃ w3, w3 = w2.setCell ⟨bm, 0, none⟩ (.map (some b0)) := ⟨_, rfl⟩
  have hg3 : w2.grownBy w3 (some bm) := by rw [hw3]; exact grownBy_setCell' _ _ _
  have HX3 : Hid (Boxed w3 bm 94 (.map (some b0))) := by rw [hw3]; exact hx2.set _
  have HM3 : Hid (MapK w3 b0 0 []) := hM2.kept hg3 (by intro e; injection e with e; have := HO2.out; omega)
  have HB3 : Hid (Below w.heap.size w w3) := below_grown hb12 hg3 hb12.size (by have := HO2.out; omega)
  have HK3 : Hid (KeS w3 K m ks) := (hK.rw_.below HB3.out).kes
  have HO3 : Hid (w.heap.size ≤ b0 ∧ b0 < bm ∧ bm < w3.heap.size) := by show _ ∧ _ ∧ _; have := HO2.out; have := hg3.size; omega
  clear hb1 hM1 hO1 hM2 hb12 hb2 he2 hs2 hx2 hg3 HO2
  repeat (first | refine kl_nil ?_ | (first | refine kl_move rfl rfl (.inl rfl) rfl rfl ?_ | refine kl_move rfl rfl (.inr rfl) rfl rfl ?_ | refine kl_const rfl rfl (.inl rfl) rfl ?_ | refine kl_const rfl rfl (.inr rfl) rfl ?_) | ((first | refine kl_step rfl rfl rfl fun K hK => ?_ | refine kl_step0 rfl rfl rfl fun K hK => ?_); go_simp; (try go_bits); (first | refine hK _ _ ?_ | refine hK _ ?_); clear hK K))
  rw [← hw3]
  clear hw3 cbm fbm
  refine kq_then ?_
  repeat (first | refine kw_seq ?_ | refine kw_region ?_ | (first | refine kl_move rfl rfl (.inl rfl) rfl rfl ?_ | refine kl_move rfl rfl (.inr rfl) rfl rfl ?_ | refine kl_const rfl rfl (.inl rfl) rfl ?_ | refine kl_const rfl rfl (.inr rfl) rfl ?_))
  refine kl_call rfl rfl rfl Try.func54 rfl (by kernel_rfl) rfl ?_
  refine Calls.mono (back_any K m d w3) ?_
  rintro e w4 ⟨b2, rfl, hb4, hi4, hX4⟩
  refine ⟨_, rfl, ?_⟩
  have HM4 := Lib.hid (HM3.out.below hb4)
  have HX4 := Lib.hid (boxed_below HX3.out hb4)
  have HB4 := Lib.hid (below_then HB3.out hb4 HB3.out.size)
  have hK4 := (HK3.out.rw_.below hb4).kes
  have HO4 : Hid (w.heap.size ≤ b0 ∧ b0 < bm ∧ bm < b2 ∧ b2 < w4.heap.size) := by show _ ∧ _; have := HO3.out; have := hX4.lt; omega
  have hgk : ∃ gK oK, (0 < m → K = some ⟨gK, oK, none⟩) ∧ gK < w4.heap.size ∧ gK ≠ b0 ∧ ∀ i p, ks[i]? = some p → w4.rangeAt gK (oK + i * 3) (kepC p) := by
    rcases Nat.eq_zero_or_pos m with h0 | h0
    · refine ⟨b2, 0, fun h => absurd h (by omega), hX4.lt, by have := HO4.out; omega, fun i p hp => ?_⟩
      have := (List.getElem?_eq_some_iff.1 hp).1
      rw [HKL.out] at this; omega
    · obtain ⟨gK, oK, e, hc⟩ := hK4.at_ h0
      obtain ⟨gK', oK', e', hc'⟩ := hK.at_ h0
      rw [e] at e'
      injection e' with e'
      injection e' with e1 e2
      have hl0 : 0 < ks.length := by rw [HKL.out]; exact h0
      have hlt : gK < w.heap.size := by rw [e1]; exact World.block_lt_of_cell? w _ (hc' 0 _ (List.getElem?_eq_getElem hl0) 0 _ rfl)
      exact ⟨gK, oK, fun _ => e, Nat.lt_of_lt_of_le hlt HB4.out.size, by have := HO4.out; omega, hc⟩
  obtain ⟨gK, oK, hK0, hgk1, hgk2, hrow⟩ := hgk
  have HGK := Lib.hid (And.intro hgk1 hgk2)
  clear HK3 HM3 HX3 HB3 HO3 hb4 hi4 hK4
  repeat (first | refine kw_seq ?_ | refine kl_nil ?_ | refine kq_then ?_ | (first | refine kl_move rfl rfl (.inl rfl) rfl rfl ?_ | refine kl_move rfl rfl (.inr rfl) rfl rfl ?_ | refine kl_const rfl rfl (.inl rfl) rfl ?_ | refine kl_const rfl rfl (.inr rfl) rfl ?_))
  refine KW.less [0, 5, 15] ?_
  simp only [nrm, lk, Nat.reduceBEq, cond_true, cond_false]
  refine kw_block ?_
  refine kw_range3 (α := Fin m) (enc := fun i : Fin m => Value.int .i64 ((m - 1 - i.1 : Nat) : Int)) (enc2 := fun i : Fin m => Value.agg (kepC (ks.getD (m - 1 - i.1) kepZ)).toArray)
    (fun _ gx => [(0, .slice A n c), (5, .pointer (some ⟨bm, 0, none⟩)), (7, .pointer (some ⟨gx, 0, none⟩))])
    rfl (enters_of Try.func77 (by kernel_rfl) rfl) (back_stops b2 gK oK m d 2 K ks hK0 hmd hd HKL.out hm w4 hX4 hgk1 hrow) KpC.t (KpC.b hX4.lt hgk1) rfl rfl
    (fun pre W => Hid (Below w.heap.size w W) ∧ Hid (MapK W b0 pre.length (ordB ks pre)) ∧ Hid (Boxed W bm 94 (.map (some b0))) ∧ Hid (w4.heap.size ≤ W.heap.size))
    (fun _ _ _ => False)
    (fun i gx W => W.heap[gx]? = some (.cells (kepC (ks.getD (m - 1 - i.1) kepZ)).toArray 29 (0, 0)))
    ?_ ?_ ?_ ⟨HB4, HM4, HX4, Nat.le_refl _⟩ ?_ ?_ ?_ ?_
  · rintro pre W W' row ⟨h1, h2, h3, h4⟩ hg hr
    have hr' : ∀ r, row = some r → ∃ o : Obj, W.heap[r]? = some o ∧ o.isCells = false := fun r e => (hr r e).2
    refine ⟨below_own h1.out hg h1.out.size (fun r e => by have := (hr r e).1; have := HB4.out.size; omega), h2.out.kept hg (fun e => ?_), boxed_own h3.out hg hr', Nat.le_trans h4.out hg.size⟩
    have := (hr b0 e.symm).1
    have := HO4.out
    omega
  · intro c pre W W' row h _ _
    exact h
  · intro i gx W W' row h hg hr
    refine (hg.block gx (Array.getElem?_eq_some_iff.1 h).1 (fun e => ?_)).trans h
    obtain ⟨_, o, ho, hc⟩ := hr gx e.symm
    rw [h] at ho; cases ho; cases hc
  · intro l9 pre x W K9 ⟨h1, h2, h3, h4⟩ hK9
    refine kr_region (fun ⟨_, _, hx⟩ => hx) rfl ?_
    refine kl_var_row (cells := (kepC (ks.getD (m - 1 - x.1) kepZ)).toArray) kepZero (by rw [kepSize]; rfl) rfl (kepC_one _) rfl rfl rfl rfl rfl rfl rfl rfl rfl ?_
    refine kl_nil ?_
    have hb := (Below.refl W.heap.size W).alloc (Nat.le_refl _) (.cells (kepC (ks.getD (m - 1 - x.1) kepZ)).toArray 29)
    refine ⟨fun a k => hK9 W.heap.size a _ (KeepsFrom.of_grownBy (grown_below hb none) (fun j e => by cases e)) ⟨hb.block b2 (by have := HO4.out; have := h4.out; omega), hb.block gK (by have := HGK.out; have := h4.out; omega)⟩ ⟨below_then h1.out hb h1.out.size, h2.out.below hb, boxed_below h3.out hb, Nat.le_trans h4.out hb.size⟩ (heap_alloc_new W _) (k.less [0, 5, 7])⟩
  · rintro l9 pre x gx W hl ⟨h1, h2, h3, h4⟩ hgx hlen
    obtain ⟨p, hp⟩ : ∃ p, ks.getD (m - 1 - x.1) kepZ = p := ⟨_, rfl⟩
    have hpm : p ∈ ks := by
      have hx := x.2
      have hlt : m - 1 - x.1 < ks.length := by rw [HKL.out]; omega
      rw [← hp, List.getD_eq_getElem?_getD, List.getElem?_eq_getElem hlt]
      exact List.getElem_mem hlt
    have hq := HKS.out p hpm
    rw [hp] at hgx
    obtain ⟨W2, hrun, hM2, hg2⟩ := h2.out.update (by simp only [maxLen]; omega) p hq.1 hq.2.1 hq.2.2
    have hg0 := fun (j : Nat) (u : Value) (hu : (kepC p)[j]? = some u) => cell_of_block hgx (by rw [List.getElem?_toArray]; exact hu)
    have c0 : W.cell? ⟨gx, 0, none⟩ = some (.string ⟨p.path.toArray⟩) := hg0 0 _ rfl
    have c1 : W.cell? ⟨gx, 1, none⟩ = some (.int .i64 p.kind) := hg0 1 _ rfl
    have c2 : W.cell? ⟨gx, 2, none⟩ = some (.int .i64 p.value) := hg0 2 _ rfl
    have cm := h3.out.cell
    have HP := Lib.hid (And.intro hp hrun)
    clear hg0 hgx hp hrun hpm hq hrow hK0 hX4
    refine kr_block ?_
    refine kr_region (outs_block outs_own) rfl ?_
    repeat (first | refine kl_build 99 _ _ rfl rfl rfl (by rfl) (by rfl) (keyBuilt2 _ _) ?_ | (first | refine kl_move rfl rfl (.inl rfl) rfl rfl ?_ | refine kl_move rfl rfl (.inr rfl) rfl rfl ?_ | refine kl_const rfl rfl (.inl rfl) rfl ?_ | refine kl_const rfl rfl (.inr rfl) rfl ?_) | ((first | refine kl_step rfl rfl rfl fun K hK => ?_ | refine kl_step0 rfl rfl rfl fun K hK => ?_); go_simp; (try go_bits); (first | refine hK _ _ ?_ | refine hK _ ?_); clear hK K))
    refine kl_mapUpdate rfl rfl rfl rfl rfl rfl HP.out.2 ?_
    refine kl_nil ?_
    refine kq_block ?_
    refine ⟨fun a k => ⟨KeepsFrom.of_grownBy hg2 (fun j e => by injection e with e; have := HO4.out; omega), ⟨hg2.block b2 (by have := HO4.out; have := h4.out; omega) (fun e => by injection e with e; have := HO4.out; omega), hg2.block gK (by have := HGK.out; have := h4.out; omega) (fun e => by injection e with e; exact HGK.out.2 e)⟩,
      below_grown h1.out hg2 h1.out.size (by have := HO4.out; omega), ?_, boxed_far h3.out hg2 (by have := HO4.out; omega), Nat.le_trans h4.out hg2.size⟩⟩
    show MapK _ _ _ _
    rw [ordB_snoc, HP.out.1, List.length_append, List.length_singleton]
    exact hM2
  · rintro D xs W hD rfl ⟨h1, h2, h3, h4⟩ hdd a ka
    rw [ordB_all ks HKL.out] at h2
    obtain ⟨mq, hmq⟩ : ∃ mq, (List.finRange m).length = mq := ⟨_, rfl⟩
    rw [hmq] at h2
    have HD := Lib.hid hD
    have HDD := Lib.hid hdd
    clear hmq hD hdd hrow hK0 hX4 HM4 HX4
    refine kd_of (n := 61) ?_ a ka
    repeat (first | refine kdw_seq ?_ | refine kdw_region ?_ | refine kl_nil ?_ | refine kq_d ?_ | refine kdq_then ?_ | refine kl_makeI (k := n) rfl rfl rfl rfl HN.out.1 rfl ?_ | (first | refine kl_move rfl rfl (.inl rfl) rfl rfl ?_ | refine kl_move rfl rfl (.inr rfl) rfl rfl ?_ | refine kl_const rfl rfl (.inl rfl) rfl ?_ | refine kl_const rfl rfl (.inr rfl) rfl ?_) | ((first | refine kl_step rfl rfl rfl fun K hK => ?_ | refine kl_step0 rfl rfl rfl fun K hK => ?_); go_simp; (try go_bits); (first | refine hK _ _ ?_ | refine hK _ ?_); clear hK K))
    intro go w5 hgo hb5 ho5
    have HB5 := Lib.hid (below_then h1.out hb5 h1.out.size)
    have HM5 := Lib.hid (h2.out.below hb5)
    have HX5 := Lib.hid (boxed_below h3.out hb5)
    have HD5 : Hid (w5.heap[D]? = some (.deferred (some []))) := below_atK hb5 HDD.out
    have HNE : Hid (w.heap.size ≤ go ∧ b0 ≠ go ∧ bm ≠ go ∧ D ≠ go ∧ w.heap.size ≤ D) := by
      show _ ∧ _
      have e0 := h2.out.lt
      have e1 := h3.out.lt
      have e2 := (Array.getElem?_eq_some_iff.1 HDD.out).1
      have e3 := hgo.out
      have e4 := HD.out
      have e5 := HB4.out.size
      have e6 := h1.out.size
      exact ⟨by omega, by omega, by omega, by omega, by omega⟩
    rw [← fillG_0 ks l] at ho5
    have HO5 : Hid (w5.ownsRow w.heap.size 3 1 (.slice (some ⟨go, 0, none⟩) n n) n (fillG ks l n 0)) := own_low ho5 h1.out.size
    clear h1 h2 h3 h4 hgo hb5 ho5
    repeat (first | refine kdw_seq ?_ | refine kdw_region ?_ | refine kl_nil ?_ | refine kq_d ?_ | refine kdq_then ?_ | (first | refine kl_move rfl rfl (.inl rfl) rfl rfl ?_ | refine kl_move rfl rfl (.inr rfl) rfl rfl ?_ | refine kl_const rfl rfl (.inl rfl) rfl ?_ | refine kl_const rfl rfl (.inr rfl) rfl ?_) | ((first | refine kl_step rfl rfl rfl fun K hK => ?_ | refine kl_step0 rfl rfl rfl fun K hK => ?_); go_simp; (try go_bits); (first | refine hK _ _ ?_ | refine hK _ ?_); clear hK K))
    refine kdw_less [0, 5, 8, 29, 30, 31] ?_
    simp only [nrm, lk, Nat.reduceBEq, cond_true, cond_false]
    refine kdw_block ?_
    refine kdw_loop (fun mm L W => ∃ k, k ≤ n ∧ mm = n - k ∧ Hid (Below w.heap.size w W) ∧ Hid (W.ownsRow w.heap.size 3 1 (.slice (some ⟨go, 0, none⟩) n n) n (fillG ks l n k)) ∧ Hid (MapK W b0 mq ks) ∧ Hid (Boxed W bm 94 (.map (some b0))) ∧ Hid (W.heap[D]? = some (.deferred (some []))) ∧ L = [(0, .slice A n c), (5, .pointer (some ⟨bm, 0, none⟩)), (8, .slice (some ⟨go, 0, none⟩) n n), (29, .slice A n c), (30, .int .i64 (n : Int)), (31, .int .i64 (k : Int))]) ⟨0, by omega, rfl, HB5, HO5, HM5, HX5, HD5, rfl⟩ ?_
    clear HB5 HO5 HM5 HX5 HD5
    rintro mm L W ⟨k, hk, rfl, hb, ho, hMk, hX, hDk, rfl⟩
    by_cases hlt : k < n
    case neg =>
      obtain rfl : n = k := by omega
      have t1 : decide ((n : Int) < (n : Int)) = false := by simp
      have t1n : decide (n < n) = false := by simp
      rw [fillG_n ks l n HL.out] at ho
      clear hlt
      repeat (first | refine kdw_seq ?_ | refine kdw_region ?_ | refine kl_nil ?_ | refine kq_d ?_ | refine kdq_then ?_ | refine kdq_block ?_ | refine kdw_ift rfl ?_ | refine kdw_iff rfl ?_ | refine kdw_exit ?_ | refine kdq_then_exit ?_ | refine kdq_again_exit ?_ | refine kdq_block_here rfl ?_ | refine kdw_skip ?_ | refine kl_ung rfl rfl ?_ | refine kl_skipg rfl rfl rfl rfl ?_ | (first | refine kl_move rfl rfl (.inl rfl) rfl rfl ?_ | refine kl_move rfl rfl (.inr rfl) rfl rfl ?_ | refine kl_const rfl rfl (.inl rfl) rfl ?_ | refine kl_const rfl rfl (.inr rfl) rfl ?_) | ((first | refine kl_step rfl rfl rfl fun K hK => ?_ | refine kl_step0 rfl rfl rfl fun K hK => ?_); go_simp; (try go_bits); (first | refine hK _ _ ?_ | refine hK _ ?_); clear hK K))
      refine kdw_ret ?_
      have hg := grownBy_putObj' W D (.deferred none)
      exact kdq_ret1 rfl rfl hDk.out ⟨_, rfl, ho.out.kept hg (.inr (by intro e; simp [Value.ownBlock] at e; have := HNE.out; omega)), below_own hb.out hg hb.out.size (fun r e => by injection e with e; have := HNE.out; omega)⟩
    have t1 : decide ((k : Int) < (n : Int)) = true := by rw [decide_eq_true_eq]; omega
    have t1n : decide (k < n) = true := decide_eq_true hlt
    have u0 : (0 : Int) ≤ k := by omega
    have u1 : (k : Int) < n := by omega
    have hkm : k ≤ 1048575 := by omega
    obtain ⟨g, o, p, rfl, hr, ht, hx⟩ := hA.next hlt
    have hr2 : Hid (W.rangeAt g (o + k * 6) (cellC p)) := fun q u hu => Keeps.of_below hb.out _ _ (hr q u hu)
    have hpl := Lib.hid (HLP.out p (List.mem_of_getElem? hx.out))
    have HFN := Lib.hid (fillG_next ks l n k p HL.out hlt ht.out)
    have HFA := Lib.hid (fillG_at ks l n k HL.out hlt)
    obtain ⟨nk, hnk⟩ : ∃ nk, k + 1 = nk := ⟨_, rfl⟩
    rw [hnk] at HFN
    have k1 : (k : Int) + 1 = (nk : Int) := by omega
    have k2 : (0 : Int) ≤ nk := by omega
    have k3 : (nk : Int) ≤ 1048576 := by omega
    have HK := Lib.hid (And.intro hnk hlt)
    clear hr hlt hk hnk ht hx hkm
    repeat (first | refine kdw_seq ?_ | refine kdw_block ?_ | refine kdw_region ?_ | refine kl_nil ?_ | refine kq_d ?_ | refine kdq_then ?_ | refine kdw_ift rfl ?_ | refine kdw_skip ?_ | refine kl_load_mid 63 g _ _ _ hr2.out Try.underlying63 rfl (cellInfoL p) rfl rfl rfl rfl rfl ?_ | (first | refine kl_move rfl rfl (.inl rfl) rfl rfl ?_ | refine kl_move rfl rfl (.inr rfl) rfl rfl ?_ | refine kl_const rfl rfl (.inl rfl) rfl ?_ | refine kl_const rfl rfl (.inr rfl) rfl ?_) | ((first | refine kl_step rfl rfl rfl fun K hK => ?_ | refine kl_step0 rfl rfl rfl fun K hK => ?_); go_simp; (try go_bits); (first | refine hK _ _ ?_ | refine hK _ ?_); clear hK K))
    refine kl_zeroL (Lay.start W) cellZero rfl rfl rfl rfl ?_
    intro g7 w2 hg7 hb3 hL2
    clear hg7 hb3
    repeat (first | (first | refine kl_move rfl rfl (.inl rfl) rfl rfl ?_ | refine kl_move rfl rfl (.inr rfl) rfl rfl ?_ | refine kl_const rfl rfl (.inl rfl) rfl ?_ | refine kl_const rfl rfl (.inr rfl) rfl ?_) | ((first | refine kl_step rfl rfl rfl fun K hK => ?_ | refine kl_step0 rfl rfl rfl fun K hK => ?_); go_simp; (try go_bits); (first | refine hK _ _ ?_ | refine hK _ ?_); clear hK K))
    refine kl_putL (cells := (cellC p).toArray) hL2 0 rfl (cellInfo p) rfl (cellC_agg p) rfl rfl rfl rfl rfl (fun hL3 => ?_)
    generalize w2.setRow g7 (cellC p).toArray = w3 at hL3 ⊢
    have hL3 : Lay W w3 [(g7, (cellC p).toArray, 63)] := hL3
    have hb3 := hL3.below
    have HB6 := Lib.hid (below_then hb.out hb3 hb.out.size)
    have HO6 := Lib.hid (own_below ho.out hb3)
    have HM6 := Lib.hid (hMk.out.below hb3)
    have HX6 := Lib.hid (boxed_below hX.out hb3)
    have HD6 : Hid (w3.heap[D]? = some (.deferred (some []))) := below_atK hb3 hDk.out
    have c0 : w3.cell? ⟨g7, 0, none⟩ = some (.string ⟨p.path.toArray⟩) := hL3.get (j := 0) 0 rfl rfl
    have c1 : w3.cell? ⟨g7, 1, none⟩ = some (.int .i64 p.kind) := hL3.get (j := 1) 0 rfl rfl
    have c2 : w3.cell? ⟨g7, 2, none⟩ = some (.bool p.retain) := hL3.get (j := 2) 0 rfl rfl
    have c3 : w3.cell? ⟨g7, 3, none⟩ = some (.int .i64 p.init) := hL3.get (j := 3) 0 rfl rfl
    have cm := HX6.out.cell
    have cg := own_at1 HO6.out HFA.out
    have fg : w3.frozen? ⟨go, k, none⟩ = false := own_free1 HO6.out
    have HLK := Lib.hid (HM6.out.look p.path p.kind hpl.out.1 hpl.out.2)
    have HG1 := Lib.hid (give_yes ks p)
    have HG2 := Lib.hid (give_no ks p)
    obtain ⟨fv, hfv⟩ : ∃ fv, ((ks.find? (hitV p.path p.kind)).map (·.value)).getD 0 = fv := ⟨_, rfl⟩
    obtain ⟨fb, hfb⟩ : ∃ fb, (ks.find? (hitV p.path p.kind)).isSome = fb := ⟨_, rfl⟩
    rw [hfv, hfb] at HLK
    rw [hfv, hfb] at HG1
    rw [hfb] at HG2
    have HRT : Hid (p.retain = p.retain) := rfl
    clear hL2 hL3 hb3 hb ho hMk hX hDk hr2 hpl hfv hfb HRT t1 t1n
    obtain ⟨rt, hrt⟩ : ∃ rt, p.retain = rt := ⟨_, rfl⟩
    rw [hrt] at c2
    have HR := Lib.hid hrt
    rw [hrt] at HG1
    rw [hrt] at HG2
    clear hrt
    repeat (first | refine kl_nil ?_ | refine kq_d ?_ | refine kdq_then ?_ | refine kdw_seq ?_ | refine kdw_region ?_ | refine kl_build 99 _ _ rfl rfl rfl (by rfl) (by rfl) (keyBuilt2 _ _) ?_ | refine kl_lookup rfl rfl rfl rfl rfl rfl HLK.out ?_ | (first | refine kl_move rfl rfl (.inl rfl) rfl rfl ?_ | refine kl_move rfl rfl (.inr rfl) rfl rfl ?_ | refine kl_const rfl rfl (.inl rfl) rfl ?_ | refine kl_const rfl rfl (.inr rfl) rfl ?_) | ((first | refine kl_step rfl rfl rfl fun K hK => ?_ | refine kl_step0 rfl rfl rfl fun K hK => ?_); go_simp; (try go_bits); (first | refine hK _ _ ?_ | refine hK _ ?_); clear hK K))
    have hfin : ∀ gv, gv = giveOne ks p → Hid (w3.setCell ⟨go, k, none⟩ (.int .i64 gv) = w3.setCell ⟨go, k, none⟩ (.int .i64 (giveOne ks p))) := fun gv e => by show _ = _; rw [e]
    have HFIN := Lib.hid hfin
    clear hfin
    cases fb <;> cases rt
    · have HE : Hid (p.init = giveOne ks p) := (HG2.out (.inl rfl)).symm
      clear HG1 HG2
      have hgs := (HO6.out.stored k (.int .i64 (p.init))).2
      have hst := (HO6.out.stored k (.int .i64 (p.init))).1
      rw [← HE.out] at HFN
      rw [HFN.out] at hst
      have HST := Lib.hid hst
      have HGS := Lib.hid hgs
      clear hst hgs
      repeat (first | refine kdw_seq ?_ | refine kdw_block ?_ | refine kdw_region ?_ | refine kl_nil ?_ | refine kq_d ?_ | refine kdq_then ?_ | refine kdq_block ?_ | refine kdw_ift rfl ?_ | refine kdw_iff rfl ?_ | refine kdw_exit ?_ | refine kdq_then_exit ?_ | refine kdq_again_exit ?_ | refine kdq_block_here rfl ?_ | refine kdw_skip ?_ | refine kl_ung rfl rfl ?_ | refine kl_skipg rfl rfl rfl rfl ?_ | (first | refine kl_move rfl rfl (.inl rfl) rfl rfl ?_ | refine kl_move rfl rfl (.inr rfl) rfl rfl ?_ | refine kl_const rfl rfl (.inl rfl) rfl ?_ | refine kl_const rfl rfl (.inr rfl) rfl ?_) | ((first | refine kl_step rfl rfl rfl fun K hK => ?_ | refine kl_step0 rfl rfl rfl fun K hK => ?_); go_simp; (try go_bits); (first | refine hK _ _ ?_ | refine hK _ ?_); clear hK K))
      refine kdq_again (n - nk) [0, 5, 8, 29, 30, 31] (by have := HK.out; omega) ?_
      exact ⟨nk, by have := HK.out; omega, rfl, below_grown HB6.out HGS.out HB6.out.size HNE.out.1, HST, HM6.out.kept HGS.out (by intro e; injection e with e; exact HNE.out.2.1 e), boxed_far HX6.out HGS.out HNE.out.2.2.1, (HGS.out.block D (Array.getElem?_eq_some_iff.1 HD6.out).1 (fun e => by injection e with e; exact HNE.out.2.2.2.1 e)).trans HD6.out, rfl⟩
    · have HE : Hid (p.init = giveOne ks p) := (HG2.out (.inl rfl)).symm
      clear HG1 HG2
      have hgs := (HO6.out.stored k (.int .i64 (p.init))).2
      have hst := (HO6.out.stored k (.int .i64 (p.init))).1
      rw [← HE.out] at HFN
      rw [HFN.out] at hst
      have HST := Lib.hid hst
      have HGS := Lib.hid hgs
      clear hst hgs
      repeat (first | refine kdw_seq ?_ | refine kdw_block ?_ | refine kdw_region ?_ | refine kl_nil ?_ | refine kq_d ?_ | refine kdq_then ?_ | refine kdq_block ?_ | refine kdw_ift rfl ?_ | refine kdw_iff rfl ?_ | refine kdw_exit ?_ | refine kdq_then_exit ?_ | refine kdq_again_exit ?_ | refine kdq_block_here rfl ?_ | refine kdw_skip ?_ | refine kl_ung rfl rfl ?_ | refine kl_skipg rfl rfl rfl rfl ?_ | (first | refine kl_move rfl rfl (.inl rfl) rfl rfl ?_ | refine kl_move rfl rfl (.inr rfl) rfl rfl ?_ | refine kl_const rfl rfl (.inl rfl) rfl ?_ | refine kl_const rfl rfl (.inr rfl) rfl ?_) | ((first | refine kl_step rfl rfl rfl fun K hK => ?_ | refine kl_step0 rfl rfl rfl fun K hK => ?_); go_simp; (try go_bits); (first | refine hK _ _ ?_ | refine hK _ ?_); clear hK K))
      refine kdq_again (n - nk) [0, 5, 8, 29, 30, 31] (by have := HK.out; omega) ?_
      exact ⟨nk, by have := HK.out; omega, rfl, below_grown HB6.out HGS.out HB6.out.size HNE.out.1, HST, HM6.out.kept HGS.out (by intro e; injection e with e; exact HNE.out.2.1 e), boxed_far HX6.out HGS.out HNE.out.2.2.1, (HGS.out.block D (Array.getElem?_eq_some_iff.1 HD6.out).1 (fun e => by injection e with e; exact HNE.out.2.2.2.1 e)).trans HD6.out, rfl⟩
    · have HE : Hid (p.init = giveOne ks p) := (HG2.out (.inr rfl)).symm
      clear HG1 HG2
      have hgs := (HO6.out.stored k (.int .i64 (p.init))).2
      have hst := (HO6.out.stored k (.int .i64 (p.init))).1
      rw [← HE.out] at HFN
      rw [HFN.out] at hst
      have HST := Lib.hid hst
      have HGS := Lib.hid hgs
      clear hst hgs
      repeat (first | refine kdw_seq ?_ | refine kdw_block ?_ | refine kdw_region ?_ | refine kl_nil ?_ | refine kq_d ?_ | refine kdq_then ?_ | refine kdq_block ?_ | refine kdw_ift rfl ?_ | refine kdw_iff rfl ?_ | refine kdw_exit ?_ | refine kdq_then_exit ?_ | refine kdq_again_exit ?_ | refine kdq_block_here rfl ?_ | refine kdw_skip ?_ | refine kl_ung rfl rfl ?_ | refine kl_skipg rfl rfl rfl rfl ?_ | (first | refine kl_move rfl rfl (.inl rfl) rfl rfl ?_ | refine kl_move rfl rfl (.inr rfl) rfl rfl ?_ | refine kl_const rfl rfl (.inl rfl) rfl ?_ | refine kl_const rfl rfl (.inr rfl) rfl ?_) | ((first | refine kl_step rfl rfl rfl fun K hK => ?_ | refine kl_step0 rfl rfl rfl fun K hK => ?_); go_simp; (try go_bits); (first | refine hK _ _ ?_ | refine hK _ ?_); clear hK K))
      refine kdq_again (n - nk) [0, 5, 8, 29, 30, 31] (by have := HK.out; omega) ?_
      exact ⟨nk, by have := HK.out; omega, rfl, below_grown HB6.out HGS.out HB6.out.size HNE.out.1, HST, HM6.out.kept HGS.out (by intro e; injection e with e; exact HNE.out.2.1 e), boxed_far HX6.out HGS.out HNE.out.2.2.1, (HGS.out.block D (Array.getElem?_eq_some_iff.1 HD6.out).1 (fun e => by injection e with e; exact HNE.out.2.2.2.1 e)).trans HD6.out, rfl⟩
    · have HE : Hid (fv = giveOne ks p) := (HG1.out rfl rfl).symm
      clear HG1 HG2
      have hgs := (HO6.out.stored k (.int .i64 (fv))).2
      have hst := (HO6.out.stored k (.int .i64 (fv))).1
      rw [← HE.out] at HFN
      rw [HFN.out] at hst
      have HST := Lib.hid hst
      have HGS := Lib.hid hgs
      clear hst hgs
      repeat (first | refine kdw_seq ?_ | refine kdw_block ?_ | refine kdw_region ?_ | refine kl_nil ?_ | refine kq_d ?_ | refine kdq_then ?_ | refine kdq_block ?_ | refine kdw_ift rfl ?_ | refine kdw_iff rfl ?_ | refine kdw_exit ?_ | refine kdq_then_exit ?_ | refine kdq_again_exit ?_ | refine kdq_block_here rfl ?_ | refine kdw_skip ?_ | refine kl_ung rfl rfl ?_ | refine kl_skipg rfl rfl rfl rfl ?_ | (first | refine kl_move rfl rfl (.inl rfl) rfl rfl ?_ | refine kl_move rfl rfl (.inr rfl) rfl rfl ?_ | refine kl_const rfl rfl (.inl rfl) rfl ?_ | refine kl_const rfl rfl (.inr rfl) rfl ?_) | ((first | refine kl_step rfl rfl rfl fun K hK => ?_ | refine kl_step0 rfl rfl rfl fun K hK => ?_); go_simp; (try go_bits); (first | refine hK _ _ ?_ | refine hK _ ?_); clear hK K))
      refine kdq_again (n - nk) [0, 5, 8, 29, 30, 31] (by have := HK.out; omega) ?_
      exact ⟨nk, by have := HK.out; omega, rfl, below_grown HB6.out HGS.out HB6.out.size HNE.out.1, HST, HM6.out.kept HGS.out (by intro e; injection e with e; exact HNE.out.2.1 e), boxed_far HX6.out HGS.out HNE.out.2.2.1, (HGS.out.block D (Array.getElem?_eq_some_iff.1 HD6.out).1 (fun e => by injection e with e; exact HNE.out.2.2.2.1 e)).trans HD6.out, rfl⟩
  · intro D cd pre W _ _ h
    exact h.elim
end Go.Proofs.Ytcpifcdndhhmgaa
