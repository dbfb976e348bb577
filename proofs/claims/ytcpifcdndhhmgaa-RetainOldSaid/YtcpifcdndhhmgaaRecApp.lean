/- Records: the program's Append, which ranges over an iterator. -/
import Derived.Test.YtcpifcdndhhmgaaKnI
import Derived.Test.YtcpifcdndhhmgaaSeal
import Derived.Test.YtcpifcdndhhmgaaFlashProg
import Derived.Shelf.Abstract
set_option linter.unusedVariables false
set_option linter.unusedSimpArgs false
namespace Go.Proofs.Ytcpifcdndhhmgaa
open Go.RowKit
attribute [local go_sem] ev_tmp ev_const ev_func ev_global lk_hit lk_miss uponK_value uponK_skip look_tmp look_const look_global look_func valP_value
theorem FS.own {Q : Nat → Prop} {W W' : World} {g : Nat} {f : FlashSt} {row : Option Nat} (h : FS Q W g f) (hg : W.grownBy W' row) (hr : ∀ r, row = some r → ∃ o : Obj, W.heap[r]? = some o ∧ o.isCells = false) : FS Q W' g f := by
  obtain ⟨A, n, c, h0, h1, h2, h3, hB, hn, hc, ha⟩ := h
  refine ⟨A, n, c, ?_, h1, h2, h3, bs_own hB hg hr, hn, hc, ha⟩
  rw [hg.block g (Array.getElem?_eq_some_iff.1 h0).1 (fun e => by
    obtain ⟨o, ho, hc⟩ := hr g e.symm
    rw [h0] at ho; cases ho; cases hc)]
  exact h0
def noU8 (v : Value) : Prop := ∀ x : UInt8, v ≠ .int .u8 (x.toNat : Int)
theorem noU8_i (z : Int) : noU8 (.int .i64 z) := fun x h => by injection h with h _; cases h
theorem bs_box {W W' : World} {A : Option Addr} {m k : Nat} {l : List UInt8} {t : TypeId} {v : Value} (h : Bs W A m l) (hB : Boxed W k t v) (hv : noU8 v) (hg : W.grownBy W' (some k)) : Bs W' A m l := by
  refine h.heap fun hm b o e => hg.block b ?_ ?_
  · obtain ⟨b', o', e', hc⟩ := h.2 hm
    rw [e] at e'
    injection e' with e'
    injection e' with e1 e2
    subst e1
    have hl : 0 < l.length := by rw [h.len]; exact hm
    obtain ⟨ob, ho, _⟩ := cells_of_cell (hc 0 (.int .u8 (l[0].toNat : Int)) (by simp [bv, List.getElem?_eq_getElem hl]))
    exact (Array.getElem?_eq_some_iff.1 ho).1
  · intro ek
    injection ek with ek
    subst ek
    obtain ⟨b', o', e', hc⟩ := h.2 hm
    rw [e] at e'
    injection e' with e'
    injection e' with e1 e2
    subst e1
    have hl : 0 < l.length := by rw [h.len]; exact hm
    have hc0 := hc 0 (.int .u8 (l[0].toNat : Int)) (by simp [bv, List.getElem?_eq_getElem hl])
    have hcell := hB.cell
    unfold World.cell? at hc0
    rw [show W.heap[b]? = _ from hB] at hc0
    rcases Nat.eq_zero_or_pos (o' + 0) with h0 | h0
    · simp [h0] at hc0
      exact hv _ hc0
    · simp only at hc0
      rw [Array.getElem?_eq_none (by simp at h0 ⊢; omega)] at hc0
      cases hc0
theorem FS.box {Q : Nat → Prop} {W W' : World} {g k : Nat} {f : FlashSt} {t : TypeId} {v : Value} (h : FS Q W g f) (hB : Boxed W k t v) (hv : noU8 v) (hg : W.grownBy W' (some k)) (hne : g ≠ k) : FS Q W' g f := by
  obtain ⟨A, n, c, h0, h1, h2, h3, hb, hn, hc, ha⟩ := h
  exact ⟨A, n, c, by rw [hg.block g (Array.getElem?_eq_some_iff.1 h0).1 (fun e => hne (by injection e))]; exact h0, h1, h2, h3, bs_box hb hB hv hg, hn, hc, ha⟩
theorem boxed_other {W W' : World} {k j : Nat} {t : TypeId} {v : Value} (h : Boxed W k t v) (hg : W.grownBy W' (some j)) (hne : k ≠ j) : Boxed W' k t v := h.kept hg (fun e => hne (by injection e))
def plainT : TypeDesc → Bool
  | .struct _ | .array _ _ => false
  | _ => true
theorem isAgg_plainT {P : Program} {t : TypeId} {d : TypeDesc} (h : P.underlying t = some d) (hd : plainT d = true) (w : World) : (isAgg t).run P w = .ok false w := by
  cases d <;> first | exact Bool.noConfusion hd | simp [isAgg, run_underlying h]
theorem results_cell1 {P : Program} {fn : Func} {p : Tmp} {ty : TypeId} (h : fn.results = #[.cell p ty]) (tmps : Array Value) (w : World) {B : Nat} {v : Value} {d : TypeDesc}
    (hu : P.underlying ty = some d) (hd : plainT d = true) (hp : tmps.getD p undef = .pointer (some ⟨B, 0, none⟩)) (hc : w.cell? ⟨B, 0, none⟩ = some v) : (results fn tmps).run P w = .ok v w := by
  have hp' : tmps[p]?.getD undef = .pointer (some ⟨B, 0, none⟩) := by simpa using hp
  simp [results, h, hp', asAddr, loadVar, isAgg_plainT hu hd, hc, go_sem]
theorem kqm_cell {P : Program} {fn : Func} {R : Ending → World → Prop} {n : Nat} {L : Slots} {w : World} {p : Tmp} {ty : TypeId} {B : Nat} {v : Value} {d : TypeDesc} (h : fn.results = #[.cell p ty])
    (hu : P.underlying ty = some d) (hd : plainT d = true) (hl : lk L p = some (.pointer (some ⟨B, 0, none⟩))) (hc : w.cell? ⟨B, 0, none⟩ = some v) (hR : R (.returned v) w) : KQ (bodyPostM Fence.wide 3 P fn R) .ret n L w :=
  kqm_retv (fun a k => results_cell1 h a.tmps w hu hd (k.all p _ hl) hc) hR

/-! ### pieces in whatever order -/
def progsX (s : Int) (p : Nat) (x : List UInt8) : List Nat → Nat → FlashSt → Int × FlashSt
  | [], _, f => (0, f)
  | j :: l, i, f => if (progF f s ((p + i : Nat) : Int) ((x.drop (16 * j)).take 16)).1 = 0 then progsX s p x l (i + 1) (progF f s ((p + i : Nat) : Int) ((x.drop (16 * j)).take 16)).2
    else progF f s ((p + i : Nat) : Int) ((x.drop (16 * j)).take 16)
theorem progsX_snoc (s : Int) (p : Nat) (x : List UInt8) (j : Nat) : ∀ (l : List Nat) (i : Nat) (f : FlashSt), (progsX s p x l i f).1 = 0 →
    progsX s p x (l ++ [j]) i f = progF (progsX s p x l i f).2 s ((p + (i + l.length) : Nat) : Int) ((x.drop (16 * j)).take 16)
  | [], i, f, _ => by
    simp only [List.nil_append, progsX, List.length_nil, Nat.add_zero]
    split
    · next h => exact Prod.ext h.symm rfl
    · rfl
  | a :: l, i, f, h => by
    simp only [progsX] at h
    simp only [List.cons_append, progsX]
    by_cases h0 : (progF f s ((p + i : Nat) : Int) ((x.drop (16 * a)).take 16)).1 = 0
    · rw [if_pos h0] at h
      rw [if_pos h0, if_pos h0, progsX_snoc s p x j l (i + 1) _ h, List.length_cons, show i + 1 + l.length = i + (l.length + 1) by omega]
    · rw [if_neg h0] at h
      exact absurd h h0
theorem progsX_stop (s : Int) (p : Nat) (x : List UInt8) (l2 : List Nat) : ∀ (l : List Nat) (i : Nat) (f : FlashSt), (progsX s p x l i f).1 ≠ 0 → progsX s p x (l ++ l2) i f = progsX s p x l i f
  | [], i, f, h => absurd rfl h
  | a :: l, i, f, h => by
    simp only [progsX] at h
    simp only [List.cons_append, progsX]
    by_cases h0 : (progF f s ((p + i : Nat) : Int) ((x.drop (16 * a)).take 16)).1 = 0
    · rw [if_pos h0] at h
      rw [if_pos h0, if_pos h0, progsX_stop s p x l2 l (i + 1) _ h]
    · rw [if_neg h0, if_neg h0]
theorem progsX_range (s : Int) (p : Nat) (x : List UInt8) : ∀ (n i : Nat) (f : FlashSt), progsX s p x (List.range' i n) i f = progs s p x n i f
  | 0, _, _ => rfl
  | n + 1, i, f => by
    rw [List.range'_succ]
    simp only [progsX, progs]
    rw [progsX_range s p x n (i + 1)]
theorem fin_range (G : Nat) : (List.finRange G).map (·.1) = List.range' 0 G := by
  apply List.ext_getElem
  · simp
  · intro i h1 h2; simp
theorem progsX_fin (s : Int) (p : Nat) (x : List UInt8) (G : Nat) (f : FlashSt) : progsX s p x ((List.finRange G).map (·.1)) 0 f = progs s p x G 0 f := by rw [fin_range, progsX_range]
theorem progsX_fin_stop (s : Int) (p : Nat) (x : List UInt8) (G k : Nat) (f : FlashSt) (h : (progsX s p x (((List.finRange G).take k).map (·.1)) 0 f).1 ≠ 0) : progs s p x G 0 f = progsX s p x (((List.finRange G).take k).map (·.1)) 0 f := by
  have h1 := progsX_stop s p x (((List.finRange G).drop k).map (·.1)) _ 0 f h
  rw [← List.map_append, List.take_append_drop] at h1
  rw [← progsX_fin, h1]
def AFr (bf bs b6 g : Nat) (s : Int) (W : World) : Prop := Boxed W bf 24 (.pointer (some ⟨g, 0, none⟩)) ∧ Boxed W bs 3 (.int .i64 s) ∧ Boxed W b6 30 (.int .i64 0)
theorem AFr.below {bf bs b6 g : Nat} {s : Int} {W W' : World} (h : AFr bf bs b6 g s W) (hb : Below W.heap.size W W') : AFr bf bs b6 g s W' := ⟨boxed_below h.1 hb, boxed_below h.2.1 hb, boxed_below h.2.2 hb⟩
theorem AFr.other {bf bs b6 g k : Nat} {s : Int} {W W' : World} (h : AFr bf bs b6 g s W) (hg : W.grownBy W' (some k)) (hk : k < bf ∨ b6 < k) (h1 : bf < bs) (h2 : bs < b6) : AFr bf bs b6 g s W' := ⟨boxed_other h.1 hg (by omega), boxed_other h.2.1 hg (by omega), boxed_other h.2.2 hg (by omega)⟩
theorem AFr.own {bf bs b6 g : Nat} {s : Int} {W W' : World} {row : Option Nat} (h : AFr bf bs b6 g s W) (hg : W.grownBy W' row) (hr : ∀ r, row = some r → ∃ o : Obj, W.heap[r]? = some o ∧ o.isCells = false) : AFr bf bs b6 g s W' := ⟨boxed_own h.1 hg hr, boxed_own h.2.1 hg hr, boxed_own h.2.2 hg hr⟩
set_option maxRecDepth 100000 in
set_option maxHeartbeats 2000000 in
theorem append_any (Q : Nat → Prop) (g : Nat) (hQ : ∀ b, Q b → b ≠ g) (f : FlashSt) (s : Int) (A : Option Addr) (n c : Nat) (b : List UInt8) (w : World) (h : FS Q w g f) (hs0 : -9223372036854775808 ≤ s ∧ s ≤ 9223372036854775807) (hA : Bs w A n b) (hc : n ≤ c) (hc9 : c ≤ 9223372036854775807) :
    Calls Try.prog 38 #[.pointer (some ⟨g, 0, none⟩), .int .i64 s, .slice A n c] w (AppP Q FS g f s b w) := by
  have HB := Lib.hid hA.len
  have hgl := h.lt
  refine calls_kwm (args := [.pointer (some ⟨g, 0, none⟩), .int .i64 s, .slice A n c]) Try.func38 rfl Try.ntmps38 rfl [(0, .pointer (some ⟨g, 0, none⟩)), (1, .int .i64 s), (2, .slice A n c)] rfl ?_
  refine kw_seq ?_
  refine kw_region ?_
  refine kl_box1 rfl rfl rfl rfl rfl rfl fun bf w1 he1 hs1 hb1 hx1 => ?_
  refine kl_box1 rfl rfl rfl rfl rfl rfl fun bs w2 he2 hs2 hb2 hx2 => ?_
  refine kl_alloc1 (v := .int .i64 0) rfl rfl rfl (by kernel_rfl) rfl rfl fun b6 w3 he3 hs3 hb3 hx3 => ?_
  have hb13 : Below w.heap.size w w3 := below_then (below_then hb1 hb2 hb1.size) hb3 (by have := hb1.size; have := hb2.size; omega)
  have H3 := Lib.hid (h.below hb13)
  have HA3 := hA.below hb13
  have y2 := boxed_below hx2 hb3
  have y1 := boxed_below (boxed_below hx1 hb2) hb3
  have cbf := y1.cell
  have cbs := y2.cell
  have cb6 := hx3.cell
  have fb6 := hx3.frozen
  have HO : Hid (w.heap.size ≤ bf ∧ bf < bs ∧ bs < b6 ∧ b6 < w3.heap.size ∧ g < w.heap.size) := by show _ ∧ _; rw [he1.out, he2.out, he3.out, hs3.out, hs2.out, hs1.out]; omega
  have Y3 : Hid (AFr bf bs b6 g s w3) := ⟨y1, y2, hx3⟩
  have HW := Lib.hid hb13
  clear he1 he2 he3 hs1 hs2 hs3 hb1 hb2 hb3 hx1 hx2 hx3 y1 y2 hb13 hgl h
  by_cases h1 : 1018 < n
  · have hE : appendP f s b = (5, f) := if_pos (by rw [HB.out]; exact h1)
    have HE := Lib.hid hE
    have t1 : decide ((1018 : Int) < (n : Int)) = true := by rw [decide_eq_true_eq]; omega
    have t1n : decide (1018 < n) = true := decide_eq_true h1
    clear h1 hE
    repeat (first | refine kw_seq ?_ | refine kw_block ?_ | refine kw_skip ?_ | refine kw_region ?_ | refine kl_nil ?_ | refine kq_then ?_ | refine kq_block ?_ | refine kw_exit ?_ | refine kq_then_exit ?_ | refine kq_block_here rfl ?_ | refine kq_block_far rfl ?_ | refine kq_again_exit ?_ | refine kw_ret ?_ | refine kq_then_ret ?_ | refine kq_block_ret ?_ | refine kq_again_ret ?_ | refine kw_ift rfl ?_ | refine kw_iff rfl ?_ | refine kl_ung rfl rfl ?_ | refine kl_skipg rfl rfl rfl rfl ?_ | refine kl_skipg0 rfl rfl rfl ?_ | (first | refine kl_move rfl rfl (.inl rfl) rfl rfl ?_ | refine kl_move rfl rfl (.inr rfl) rfl rfl ?_ | refine kl_const rfl rfl (.inl rfl) rfl ?_ | refine kl_const rfl rfl (.inr rfl) rfl ?_) | ((first | refine kl_step rfl rfl rfl fun K hK => ?_ | refine kl_step0 rfl rfl rfl fun K hK => ?_); go_simp; (try go_bits); (first | refine hK _ _ ?_ | refine hK _ ?_); clear hK K))
    exact kqm_cell rfl (d := .int .i64) (by kernel_rfl) rfl rfl (World.cell?_setCell_same' _ _ _ (by rw [Y3.out.2.2.cell]; rfl)) ⟨by rw [HE.out], by rw [HE.out]; exact H3.out.box Y3.out.2.2 (noU8_i _) (grownBy_setCell' _ _ _) (by have := HO.out; omega), grown_own (grown_below HW.out (some g)) (grownBy_setCell' _ _ _) (Nat.le_refl _) (fun r e => by injection e with e; have := HO.out; omega)⟩
  have t1 : decide ((1018 : Int) < (n : Int)) = false := by rw [decide_eq_false_iff_not]; omega
  have t1n : decide (1018 < n) = false := decide_eq_false h1
  have hn : n ≤ 1018 := by omega
  repeat (first | refine kw_seq ?_ | refine kw_block ?_ | refine kw_skip ?_ | refine kw_region ?_ | refine kl_nil ?_ | refine kq_then ?_ | refine kq_block ?_ | refine kw_exit ?_ | refine kq_then_exit ?_ | refine kq_block_here rfl ?_ | refine kq_block_far rfl ?_ | refine kq_again_exit ?_ | refine kw_ret ?_ | refine kq_then_ret ?_ | refine kq_block_ret ?_ | refine kq_again_ret ?_ | refine kw_ift rfl ?_ | refine kw_iff rfl ?_ | refine kl_ung rfl rfl ?_ | refine kl_skipg rfl rfl rfl rfl ?_ | refine kl_skipg0 rfl rfl rfl ?_ | (first | refine kl_move rfl rfl (.inl rfl) rfl rfl ?_ | refine kl_move rfl rfl (.inr rfl) rfl rfl ?_ | refine kl_const rfl rfl (.inl rfl) rfl ?_ | refine kl_const rfl rfl (.inr rfl) rfl ?_) | ((first | refine kl_step rfl rfl rfl fun K hK => ?_ | refine kl_step0 rfl rfl rfl fun K hK => ?_); go_simp; (try go_bits); (first | refine hK _ _ ?_ | refine hK _ ?_); clear hK K))
  refine kl_call rfl rfl rfl Try.func16 rfl (by kernel_rfl) rfl ?_
  refine Calls.mono (read_any Q g f s w3 H3.out) ?_
  rintro e w4 ⟨Ar, nr, cr, rfl, hBr, hrc, hrc2, hb4⟩
  refine ⟨_, rfl, ?_⟩
  have hlen0 : s < 0 ∨ 6 ≤ s → (readF f s).length = 0 := fun hs => by unfold readF; rw [if_pos hs]; rfl
  have hlens := read_lens f s H3.out.len
  rw [hBr.len] at hlen0 hlens
  have HBR := Lib.hid hBr.len
  have hW4 := Lib.hid (below_then HW.out hb4 HW.out.size)
  have H4 := Lib.hid (H3.out.below hb4)
  have HA4 := HA3.below hb4
  have Y4 := Lib.hid (Y3.out.below hb4)
  have cbf := Y4.out.1.cell
  have cbs := Y4.out.2.1.cell
  have cb6 := Y4.out.2.2.cell
  have fb6 := Y4.out.2.2.frozen
  clear H3 Y3 HW HA3 hBr t1 t1n
  by_cases h2 : s < 0 ∨ 6 ≤ s
  · have hE : appendP f s b = (12, f) := by unfold appendP; rw [if_neg (by rw [HB.out]; exact h1), if_pos h2]
    have HE := Lib.hid hE
    have hnr := hlen0 h2
    subst hnr
    clear h1 h2 hE hlen0 hlens hb4
    repeat (first | refine kw_seq ?_ | refine kw_block ?_ | refine kw_skip ?_ | refine kw_region ?_ | refine kl_nil ?_ | refine kq_then ?_ | refine kq_block ?_ | refine kw_exit ?_ | refine kq_then_exit ?_ | refine kq_block_here rfl ?_ | refine kq_block_far rfl ?_ | refine kq_again_exit ?_ | refine kw_ret ?_ | refine kq_then_ret ?_ | refine kq_block_ret ?_ | refine kq_again_ret ?_ | refine kw_ift rfl ?_ | refine kw_iff rfl ?_ | refine kl_ung rfl rfl ?_ | refine kl_skipg rfl rfl rfl rfl ?_ | refine kl_skipg0 rfl rfl rfl ?_ | (first | refine kl_move rfl rfl (.inl rfl) rfl rfl ?_ | refine kl_move rfl rfl (.inr rfl) rfl rfl ?_ | refine kl_const rfl rfl (.inl rfl) rfl ?_ | refine kl_const rfl rfl (.inr rfl) rfl ?_) | ((first | refine kl_step rfl rfl rfl fun K hK => ?_ | refine kl_step0 rfl rfl rfl fun K hK => ?_); go_simp; (try go_bits); (first | refine hK _ _ ?_ | refine hK _ ?_); clear hK K))
    exact kqm_cell rfl (d := .int .i64) (by kernel_rfl) rfl rfl (World.cell?_setCell_same' _ _ _ (by rw [Y4.out.2.2.cell]; rfl)) ⟨by rw [HE.out], by rw [HE.out]; exact H4.out.box Y4.out.2.2 (noU8_i _) (grownBy_setCell' _ _ _) (by have := HO.out; omega), grown_own (grown_below hW4.out (some g)) (grownBy_setCell' _ _ _) (Nat.le_refl _) (fun r e => by injection e with e; have := HO.out; omega)⟩
  have hnr : nr = 1024 := by
    have h5 : (readF f s).length = 1024 := by
      obtain ⟨k, rfl⟩ : ∃ k : Nat, s = k := ⟨s.toNat, by omega⟩
      exact read_len f k (by omega) H4.out.len
    have := HBR.out
    omega
  subst hnr
  have hE : appendP f s b = if 64 < (loadR (readF f s)).2 + pagesN b.length then (4, f) else progs s (loadR (readF f s)).2 (sealed b) (pagesN b.length) 0 f := by
    unfold appendP; rw [if_neg (by rw [HB.out]; exact h1), if_neg h2]
  rw [HB.out] at hE
  clear h1 h2 hlen0 hlens hb4
  repeat (first | refine kw_seq ?_ | refine kw_block ?_ | refine kw_skip ?_ | refine kw_region ?_ | refine kl_nil ?_ | refine kq_then ?_ | refine kq_block ?_ | refine kw_exit ?_ | refine kq_then_exit ?_ | refine kq_block_here rfl ?_ | refine kq_block_far rfl ?_ | refine kq_again_exit ?_ | refine kw_ret ?_ | refine kq_then_ret ?_ | refine kq_block_ret ?_ | refine kq_again_ret ?_ | refine kw_ift rfl ?_ | refine kw_iff rfl ?_ | refine kl_ung rfl rfl ?_ | refine kl_skipg rfl rfl rfl rfl ?_ | refine kl_skipg0 rfl rfl rfl ?_ | (first | refine kl_move rfl rfl (.inl rfl) rfl rfl ?_ | refine kl_move rfl rfl (.inr rfl) rfl rfl ?_ | refine kl_const rfl rfl (.inl rfl) rfl ?_ | refine kl_const rfl rfl (.inr rfl) rfl ?_) | ((first | refine kl_step rfl rfl rfl fun K hK => ?_ | refine kl_step0 rfl rfl rfl fun K hK => ?_); go_simp; (try go_bits); (first | refine hK _ _ ?_ | refine hK _ ?_); clear hK K))
  refine kl_call rfl rfl rfl Try.func55 rfl (by kernel_rfl) rfl ?_
  refine Calls.mono (load_any Q g f s w4 H4.out) ?_
  rintro e w5 ⟨A1, n1, c1, rfl, _, _, _, hb5⟩
  refine ⟨_, rfl, ?_⟩
  have hfr := loadR_le (readF f s)
  obtain ⟨fr, hfre⟩ : ∃ fr, (loadR (readF f s)).2 = fr := ⟨_, rfl⟩
  rw [hfre] at hE hfr ⊢
  have hW5 := Lib.hid (below_then hW4.out hb5 hW4.out.size)
  have H5 := Lib.hid (H4.out.below hb5)
  have HA5 := HA4.below hb5
  have Y5 := Lib.hid (Y4.out.below hb5)
  have cbf := Y5.out.1.cell
  have cbs := Y5.out.2.1.cell
  have cb6 := Y5.out.2.2.cell
  have fb6 := Y5.out.2.2.frozen
  have HS5 : Hid (b6 < w5.heap.size) := by show _ < _; exact Y5.out.2.2.lt
  clear H4 Y4 HA4 hfre hb5 hW4
  repeat (first | refine kw_seq ?_ | refine kw_region ?_ | refine kl_nil ?_ | refine kq_then ?_ | (first | refine kl_move rfl rfl (.inl rfl) rfl rfl ?_ | refine kl_move rfl rfl (.inr rfl) rfl rfl ?_ | refine kl_const rfl rfl (.inl rfl) rfl ?_ | refine kl_const rfl rfl (.inr rfl) rfl ?_) | ((first | refine kl_step rfl rfl rfl fun K hK => ?_ | refine kl_step0 rfl rfl rfl fun K hK => ?_); go_simp; (try go_bits); (first | refine hK _ _ ?_ | refine hK _ ?_); clear hK K))
  refine kl_alloc1 (v := .int .i64 0) rfl rfl rfl (by kernel_rfl) rfl rfl fun b8 w6 he6 hs6 hb6 hx6 => ?_
  have c8 := hx6.cell
  have f8 := hx6.frozen
  have HX6 := Lib.hid hx6
  have hW6 := Lib.hid (below_then hW5.out hb6 hW5.out.size)
  have H6 := Lib.hid (H5.out.below hb6)
  have HA6 := HA5.below hb6
  have Y6 := Lib.hid (Y5.out.below hb6)
  have cbf := Y6.out.1.cell
  have cbs := Y6.out.2.1.cell
  have cb6 := Y6.out.2.2.cell
  have fb6 := Y6.out.2.2.frozen
  clear hx6 H5 Y5 HA5 hb6 hW5
  repeat (first | refine kl_nil ?_ | (first | refine kl_move rfl rfl (.inl rfl) rfl rfl ?_ | refine kl_move rfl rfl (.inr rfl) rfl rfl ?_ | refine kl_const rfl rfl (.inl rfl) rfl ?_ | refine kl_const rfl rfl (.inr rfl) rfl ?_) | ((first | refine kl_step rfl rfl rfl fun K hK => ?_ | refine kl_step0 rfl rfl rfl fun K hK => ?_); go_simp; (try go_bits); (first | refine hK _ _ ?_ | refine hK _ ?_); clear hK K))
  have HO8 : Hid (b6 < b8 ∧ b8 < w6.heap.size) := by show _ ∧ _; rw [he6.out, hs6.out]; have := HS5.out; omega
  clear he6 hs6 HS5
  obtain ⟨w7, hw7⟩ : ∃ w7, w7 = w6.setCell ⟨b8, 0, none⟩ (.int .i64 (fr : Int)) := ⟨_, rfl⟩
  have hg7 : w6.grownBy w7 (some b8) := by rw [hw7]; exact grownBy_setCell' _ _ _
  have X7 : Hid (Boxed w7 b8 3 (.int .i64 (fr : Int))) := by rw [hw7]; exact HX6.out.set _
  have H7 : Hid (FS Q w7 g f) := H6.out.box HX6.out (noU8_i _) hg7 (by have := HO.out; have := HO8.out; omega)
  have HA7 : Bs w7 A n b := bs_box HA6 HX6.out (noU8_i _) hg7
  have hW7 : Hid (Below w.heap.size w w7) := below_grown hW6.out hg7 (by have := hW6.out.size; omega) (by have := HO.out; have := HO8.out; omega)
  have Y7 := Lib.hid (Y6.out.other hg7 (.inr HO8.out.1) HO.out.2.1 HO.out.2.2.1)
  have HS7 : Hid (b8 < w7.heap.size) := X7.out.lt
  rw [← hw7]
  have cbf := Y7.out.1.cell
  have cbs := Y7.out.2.1.cell
  have cb6 := Y7.out.2.2.cell
  have fb6 := Y7.out.2.2.frozen
  have c8 := X7.out.cell
  have f8 := X7.out.frozen
  clear hw7 hg7 H6 HA6 hW6 Y6 HX6
  refine kq_then ?_
  repeat (refine kw_seq ?_)
  refine kw_region_f (fun W => W.cell? ⟨b8, 0, none⟩ = some (.int .i64 (fr : Int))) [true, true, true, false, true, true] (by kernel_rfl) (by kernel_rfl) c8 ?_
  repeat (first | refine kf_nil ?_ | refine kf_ung rfl rfl ?_ | refine kf_skipg rfl rfl rfl rfl ?_ | (first | refine kf_move rfl rfl (.inl rfl) rfl rfl ?_ | refine kf_move rfl rfl (.inr rfl) rfl rfl ?_ | refine kf_const rfl rfl (.inl rfl) rfl ?_ | refine kf_const rfl rfl (.inr rfl) rfl ?_) | (refine kf_val rfl rfl rfl ?_; apply Exists.intro; refine And.intro (fun W hW N hN => ?_) ?_; · (go_simp; (try go_bits); exact hN)))
  refine kf_ch ?_
  refine kl_call rfl rfl rfl Try.func57 rfl (by kernel_rfl) rfl ?_
  refine Calls.mono (pages_all (n : Int) _ (by omega)) ?_
  rintro e _ ⟨rfl, rfl⟩
  refine ⟨_, rfl, ?_⟩
  refine kl_nil ?_
  refine kq_f c8 ?_
  rw [pagesI_nat n (by omega)]
  have hpg := pagesN_ge n
  have hpl := pagesN_lt n
  have hp1 := pagesN_pos n
  obtain ⟨G, hG⟩ : ∃ G, pagesN n = G := ⟨_, rfl⟩
  rw [hG] at hE hpg hpl hp1 ⊢
  clear hG
  obtain ⟨S, hS⟩ : ∃ S, fr + G = S := ⟨_, rfl⟩
  have i3 : (fr : Int) + (G : Int) = (S : Int) := by omega
  have b0 : (0 : Int) ≤ S := by omega
  have b1 : (S : Int) ≤ 2000 := by omega
  have HGB := Lib.hid (And.intro hpg hpl)
  clear hpg hpl
  rw [hS] at hE
  have HSS := Lib.hid hS
  clear hS
  by_cases h4 : 64 < S
  · rw [if_pos h4] at hE
    have HE := Lib.hid hE
    have t4 : decide ((64 : Int) < (S : Int)) = true := by rw [decide_eq_true_eq]; omega
    have t4n : decide (64 < S) = true := decide_eq_true h4
    clear h4 hE
    repeat (first | refine kf_nil ?_ | refine kf_ung rfl rfl ?_ | refine kf_skipg rfl rfl rfl rfl ?_ | (first | refine kf_move rfl rfl (.inl rfl) rfl rfl ?_ | refine kf_move rfl rfl (.inr rfl) rfl rfl ?_ | refine kf_const rfl rfl (.inl rfl) rfl ?_ | refine kf_const rfl rfl (.inr rfl) rfl ?_) | (refine kf_val rfl rfl rfl ?_; apply Exists.intro; refine And.intro (fun W hW N hN => ?_) ?_; · (go_simp; (try go_bits); exact hN)))
    have H7d : Hid (FS Q w7.drew g f) := H7.out.below ⟨rfl, rfl, rfl, Nat.le_refl _, fun _ _ => rfl⟩
    have Y7d : Hid (AFr bf bs b6 g s w7.drew) := Y7
    have hW7d : Hid (Below w.heap.size w w7.drew) := below_drewN' hW7.out 1
    have cb6 : w7.drew.cell? ⟨b6, 0, none⟩ = some (.int .i64 0) := Y7d.out.2.2.cell
    have fb6 : w7.drew.frozen? ⟨b6, 0, none⟩ = false := Y7d.out.2.2.frozen
    clear H7 Y7 hW7
    generalize w7.drew = w8 at H7d Y7d hW7d cb6 fb6 ⊢
    repeat (first | refine kw_seq ?_ | refine kw_block ?_ | refine kw_skip ?_ | refine kw_region ?_ | refine kl_nil ?_ | refine kq_then ?_ | refine kq_block ?_ | refine kw_exit ?_ | refine kq_then_exit ?_ | refine kq_block_here rfl ?_ | refine kq_block_far rfl ?_ | refine kq_again_exit ?_ | refine kw_ret ?_ | refine kq_then_ret ?_ | refine kq_block_ret ?_ | refine kq_again_ret ?_ | refine kw_ift rfl ?_ | refine kw_iff rfl ?_ | refine kl_ung rfl rfl ?_ | refine kl_skipg rfl rfl rfl rfl ?_ | refine kl_skipg0 rfl rfl rfl ?_ | (first | refine kl_move rfl rfl (.inl rfl) rfl rfl ?_ | refine kl_move rfl rfl (.inr rfl) rfl rfl ?_ | refine kl_const rfl rfl (.inl rfl) rfl ?_ | refine kl_const rfl rfl (.inr rfl) rfl ?_) | ((first | refine kl_step rfl rfl rfl fun K hK => ?_ | refine kl_step0 rfl rfl rfl fun K hK => ?_); go_simp; (try go_bits); (first | refine hK _ _ ?_ | refine hK _ ?_); clear hK K))
    exact kqm_cell rfl (d := .int .i64) (by kernel_rfl) rfl rfl (World.cell?_setCell_same' _ _ _ (by rw [Y7d.out.2.2.cell]; rfl)) ⟨by rw [HE.out], by rw [HE.out]; exact H7d.out.box Y7d.out.2.2 (noU8_i _) (grownBy_setCell' _ _ _) (by have := HO.out; omega), grown_own (grown_below hW7d.out (some g)) (grownBy_setCell' _ _ _) (Nat.le_refl _) (fun r e => by injection e with e; have := HO.out; omega)⟩
  rw [if_neg h4] at hE
  have HE := Lib.hid hE
  have t4 : decide ((64 : Int) < (S : Int)) = false := by rw [decide_eq_false_iff_not]; omega
  have t4n : decide (64 < S) = false := decide_eq_false h4
  clear hE
  repeat (first | refine kf_nil ?_ | refine kf_ung rfl rfl ?_ | refine kf_skipg rfl rfl rfl rfl ?_ | (first | refine kf_move rfl rfl (.inl rfl) rfl rfl ?_ | refine kf_move rfl rfl (.inr rfl) rfl rfl ?_ | refine kf_const rfl rfl (.inl rfl) rfl ?_ | refine kf_const rfl rfl (.inr rfl) rfl ?_) | (refine kf_val rfl rfl rfl ?_; apply Exists.intro; refine And.intro (fun W hW N hN => ?_) ?_; · (go_simp; (try go_bits); exact hN)))
  have H7d : Hid (FS Q w7.drew g f) := H7.out.below ⟨rfl, rfl, rfl, Nat.le_refl _, fun _ _ => rfl⟩
  have HA7d : Bs w7.drew A n b := HA7.below ⟨rfl, rfl, rfl, Nat.le_refl _, fun _ _ => rfl⟩
  have Y7d : Hid (AFr bf bs b6 g s w7.drew) := Y7
  have X7d : Hid (Boxed w7.drew b8 3 (.int .i64 (fr : Int))) := X7
  have hW7d : Hid (Below w.heap.size w w7.drew) := below_drewN' hW7.out 1
  clear H7 Y7 X7 hW7 HA7 cbf cbs cb6 fb6 c8 f8 HS7
  generalize w7.drew = w8 at H7d Y7d hW7d HA7d X7d ⊢
  refine kq_then ?_
  repeat (first | refine kw_seq ?_ | refine kw_block ?_ | refine kw_skip ?_ | refine kw_region ?_ | refine kl_nil ?_ | refine kq_then ?_ | refine kq_block ?_ | refine kw_exit ?_ | refine kq_then_exit ?_ | refine kq_block_here rfl ?_ | refine kq_block_far rfl ?_ | refine kq_again_exit ?_ | refine kw_ret ?_ | refine kq_then_ret ?_ | refine kq_block_ret ?_ | refine kq_again_ret ?_ | refine kw_ift rfl ?_ | refine kw_iff rfl ?_ | refine kl_ung rfl rfl ?_ | refine kl_skipg rfl rfl rfl rfl ?_ | refine kl_skipg0 rfl rfl rfl ?_ | (first | refine kl_move rfl rfl (.inl rfl) rfl rfl ?_ | refine kl_move rfl rfl (.inr rfl) rfl rfl ?_ | refine kl_const rfl rfl (.inl rfl) rfl ?_ | refine kl_const rfl rfl (.inr rfl) rfl ?_) | ((first | refine kl_step rfl rfl rfl fun K hK => ?_ | refine kl_step0 rfl rfl rfl fun K hK => ?_); go_simp; (try go_bits); (first | refine hK _ _ ?_ | refine hK _ ?_); clear hK K))
  refine kl_call rfl rfl rfl Try.func59 rfl (by kernel_rfl) rfl ?_
  refine Calls.mono (seal_any A n c b w8 HA7d (by omega) hc hc9) ?_
  rintro e w9 ⟨vx, rfl, hox, hb9⟩
  refine ⟨_, rfl, ?_⟩
  obtain ⟨gx, cx, rfl, hgx, hgl, hcx1, hcx2⟩ := own_form hox (by omega)
  obtain ⟨Ax, cx', ex, o1, o2, hBx, _⟩ := own_slice hox
  injection ex with ex1 _ ex3
  subst ex1; subst ex3
  have hBx : Bs w9 (some ⟨gx, 0, none⟩) (n + 6) (sealed b) := hBx
  obtain ⟨X, hX⟩ : ∃ X, sealed b = X := ⟨_, rfl⟩
  rw [hX] at hBx HE
  have HSZ : Hid (b8 < w8.heap.size) := by show _ < _; exact X7d.out.lt
  have hgxg : gx ≠ g := by have := H7d.out.lt; omega
  have H9 := Lib.hid (H7d.out.below hb9)
  have Y9 := Lib.hid (Y7d.out.below hb9)
  have X9 := Lib.hid (boxed_below X7d.out hb9)
  have hW9 := Lib.hid (below_then hW7d.out hb9 hW7d.out.size)
  have HS9 : Hid (b8 < w9.heap.size) := by show _ < _; exact X9.out.lt
  clear H7d Y7d X7d hW7d HA7d hb9 HSZ hgx hgl hox o1 o2 hX
  obtain ⟨N6, hN6⟩ : ∃ N6, n + 6 = N6 := ⟨_, rfl⟩
  rw [hN6] at hBx hcx1 ⊢
  repeat (first | refine kl_nil ?_ | (first | refine kl_move rfl rfl (.inl rfl) rfl rfl ?_ | refine kl_move rfl rfl (.inr rfl) rfl rfl ?_ | refine kl_const rfl rfl (.inl rfl) rfl ?_ | refine kl_const rfl rfl (.inr rfl) rfl ?_) | ((first | refine kl_step rfl rfl rfl fun K hK => ?_ | refine kl_step0 rfl rfl rfl fun K hK => ?_); go_simp; (try go_bits); (first | refine hK _ _ ?_ | refine hK _ ?_); clear hK K))
  refine kl_call rfl rfl rfl Try.func58 rfl (by kernel_rfl) rfl ?_
  refine Calls.mono (chunk_any (some ⟨gx, 0, none⟩) N6 cx w9) ?_
  rintro e w10 ⟨b2, b3, rfl, hb10, hB2, hB3, hX2, hX3⟩
  refine ⟨_, rfl, ?_⟩
  have HBX := Lib.hid (hBx.below hb10)
  have HXL := Lib.hid hBx.len
  have H10 := Lib.hid (H9.out.below hb10)
  have Y10 := Lib.hid (Y9.out.below hb10)
  have X10 := Lib.hid (boxed_below X9.out hb10)
  have hW10 := Lib.hid (below_then hW9.out hb10 hW9.out.size)
  have HO10 : Hid (b8 < b2 ∧ b8 < b3 ∧ b2 < w10.heap.size ∧ b3 < w10.heap.size) := by show _ ∧ _; have := HS9.out; have := hX2.lt; have := hX3.lt; omega
  have HGN : N6 ≤ 16 * G ∧ 16 * G < N6 + 16 := by have := HGB.out; omega
  have hN6b : N6 ≤ 1024 := by omega
  have hG66 : G ≤ 66 := by omega
  clear H9 Y9 X9 hW9 HS9 hb10 hB2 hB3 hBx hN6 t4 t4n i3 b0 b1 hA
  repeat (first | refine kw_seq ?_ | refine kl_nil ?_ | refine kq_then ?_)
  refine KW.less [3, 4, 6, 8, 33] ?_
  simp only [nrm, lk, Nat.reduceBEq, cond_true, cond_false]
  refine kw_block ?_
  have hfin : progsX s fr X (([] : List (Fin G)).map (·.1)) 0 f = (0, f) := rfl
  refine kw_range (α := Fin G) (enc := fun i : Fin G => Value.slice (some ⟨gx, 16 * i.1, none⟩) (min (16 * i.1 + 16) N6 - 16 * i.1) (min (16 * i.1 + 16) N6 - 16 * i.1))
    (fun i => [(3, .pointer (some ⟨bf, 0, none⟩)), (4, .pointer (some ⟨bs, 0, none⟩)), (6, .pointer (some ⟨b6, 0, none⟩)), (8, .pointer (some ⟨b8, 0, none⟩)), (9, Value.slice (some ⟨gx, 16 * i.1, none⟩) (min (16 * i.1 + 16) N6 - 16 * i.1) (min (16 * i.1 + 16) N6 - 16 * i.1))])
    rfl (enters_of Try.func89 (by kernel_rfl) rfl) (chunk_stops b2 b3 gx N6 cx G 2 hcx1 (by omega) hcx2 HGN w10 hX2 hX3) KpC.t (KpC.b HO10.out.2.2.1 HO10.out.2.2.2) (fun W => ⟨rfl, rfl⟩) rfl
    (fun pre W => ∃ f', Hid (progsX s fr X (pre.map (·.1)) 0 f = (0, f')) ∧ Hid (FS Q W g f') ∧ Hid (w.grownBy W (some g)) ∧ Hid (Boxed W b8 3 (.int .i64 ((fr + pre.length : Nat) : Int))) ∧ Hid (AFr bf bs b6 g s W) ∧ Hid (Bs W (some ⟨gx, 0, none⟩) N6 X) ∧ Hid (w10.heap.size ≤ W.heap.size))
    (fun c pre W => c = .ret ∧ ∃ z f', z ≠ 0 ∧ Hid (progsX s fr X (pre.map (·.1)) 0 f = (z, f')) ∧ Hid (FS Q W g f') ∧ Hid (w.grownBy W (some g)) ∧ Hid (Boxed W b6 30 (.int .i64 z)))
    ?_ ?_ ⟨f, hfin, H10, grown_below hW10.out _, X10, Y10, HBX, Nat.le_refl _⟩ ?_ ?_ ?_ ?_
  · rintro pre W W' row ⟨f', h1, h2, h3, h4, h5, h6, h7⟩ hg hr
    have hr' : ∀ r, row = some r → ∃ o : Obj, W.heap[r]? = some o ∧ o.isCells = false := fun r e => (hr r e).2
    exact ⟨f', h1, h2.out.own hg hr', grown_own h3.out hg hW10.out.size (fun r e => (hr r e).1), boxed_own h4.out hg hr', h5.out.own hg hr', bs_own h6.out hg hr', Nat.le_trans h7.out hg.size⟩
  · rintro c pre W W' row ⟨hc, z, f', hz, h1, h2, h3, h4⟩ hg hr
    have hr' : ∀ r, row = some r → ∃ o : Obj, W.heap[r]? = some o ∧ o.isCells = false := fun r e => (hr r e).2
    exact ⟨hc, z, f', hz, h1, h2.out.own hg hr', grown_own h3.out hg hW10.out.size (fun r e => (hr r e).1), boxed_own h4.out hg hr'⟩
  · intro l x W K hK
    clear H10 Y10 X10 HBX
    refine kr_region (fun ⟨_, _, hx⟩ => hx) rfl ?_
    repeat (first | (first | refine kl_move rfl rfl (.inl rfl) rfl rfl ?_ | refine kl_move rfl rfl (.inr rfl) rfl rfl ?_ | refine kl_const rfl rfl (.inl rfl) rfl ?_ | refine kl_const rfl rfl (.inr rfl) rfl ?_) | ((first | refine kl_step rfl rfl rfl fun K hK => ?_ | refine kl_step0 rfl rfl rfl fun K hK => ?_); go_simp; (try go_bits); (first | refine hK _ _ ?_ | refine hK _ ?_); clear hK K))
    refine kl_nil ?_
    exact ⟨fun a k => hK a (k.less [3, 4, 6, 8, 9])⟩
  · rintro l pre x W hl ⟨f', hpr, hF, hgr, hX8, hY, hBX, hSW⟩ hlen
    clear H10 Y10 X10 HBX hX2 hX3 hfin
    obtain ⟨x, hxG⟩ := x
    obtain ⟨p, hp⟩ : ∃ p, fr + pre.length = p := ⟨_, rfl⟩
    rw [hp] at hX8
    obtain ⟨p1, hp1'⟩ : ∃ p1, p + 1 = p1 := ⟨_, rfl⟩
    obtain ⟨q, hq⟩ : ∃ q, 16 * x = q := ⟨_, rfl⟩
    obtain ⟨e, he⟩ : ∃ e, min (q + 16) N6 = e := ⟨_, rfl⟩
    dsimp only
    rw [hq, he]
    obtain ⟨d, hd⟩ : ∃ d, e - q = d := ⟨_, rfl⟩
    rw [hd]
    have hqN : q < N6 := by omega
    have i1 : (p : Int) + 1 = (p1 : Int) := by omega
    have i2 : (0 : Int) ≤ p1 := by omega
    have i3 : (p1 : Int) ≤ 2000 := by omega
    have hBm := hBX.out.mid_ (j := q) (k := e) (cap := cx) (by omega) (by omega) hcx1
    rw [if_neg (show ¬ (cx = q) by omega), hd, mid_piece X q e (by rw [HXL.out]; omega) (by rw [HXL.out]; exact he.symm)] at hBm
    have hBm : Bs W (some ⟨gx, q, none⟩) d ((X.drop q).take 16) := by simpa [add_lit] using hBm
    have HBM := Lib.hid hBm
    have HPQ := Lib.hid (And.intro hp (And.intro hq hp1'))
    have hd9 : d ≤ 9223372036854775807 := by omega
    have cbf := hY.out.1.cell
    have cbs := hY.out.2.1.cell
    have c8 := hX8.out.cell
    clear hBm hp hq hp1' he hd hqN
    refine kr_block ?_
    refine kr_seq (kr_seq ?_)
    refine kr_region (outs_then (outs_then (outs_block outs_own))) rfl ?_
    repeat (first | (first | refine kl_move rfl rfl (.inl rfl) rfl rfl ?_ | refine kl_move rfl rfl (.inr rfl) rfl rfl ?_ | refine kl_const rfl rfl (.inl rfl) rfl ?_ | refine kl_const rfl rfl (.inr rfl) rfl ?_) | ((first | refine kl_step rfl rfl rfl fun K hK => ?_ | refine kl_step0 rfl rfl rfl fun K hK => ?_); go_simp; (try go_bits); (first | refine hK _ _ ?_ | refine hK _ ?_); clear hK K))
    refine kl_call rfl rfl rfl Try.func60 rfl (by kernel_rfl) rfl ?_
    refine Calls.mono (program_any Q g hQ f' s (p : Int) (some ⟨gx, q, none⟩) d d ((X.drop q).take 16) W hF.out HBM.out (Nat.le_refl _) hd9) ?_
    rintro e W3 ⟨rfl, hF3, hg3⟩
    refine ⟨_, rfl, ?_⟩
    clear cbf cbs c8
    have hY3 := Lib.hid (hY.out.other hg3 (.inl (by have := HO.out; omega)) HO.out.2.1 HO.out.2.2.1)
    have hX3' := Lib.hid (boxed_other hX8.out hg3 (by have := HO.out; have := HO8.out; omega))
    have hBX3 := Lib.hid (hBX.out.grownKeep hg3 (fun a e => by injection e with e; subst e; exact hgxg))
    have hgr3 := Lib.hid (grown_trans hgr.out hg3)
    have hKF : KeepsFrom w10.heap.size W W3 := KeepsFrom.of_grownBy hg3 (fun j e => by injection e with e; have := HO.out; have := hW10.out.size; omega)
    have hKp : KpC b2 b3 W W3 := ⟨hg3.block b2 (by have := HO10.out; have := hSW.out; omega) (fun e => by injection e with e; have := HO10.out; have := HO8.out; have := HO.out; omega), hg3.block b3 (by have := HO10.out; have := hSW.out; omega) (fun e => by injection e with e; have := HO10.out; have := HO8.out; have := HO.out; omega)⟩
    have hsn := progsX_snoc s fr X x (pre.map (·.1)) 0 f (by rw [hpr.out])
    rw [hpr.out, List.length_map, Nat.zero_add, HPQ.out.1, HPQ.out.2.1] at hsn
    have HF3 := Lib.hid hF3
    have hSW3 := Lib.hid (Nat.le_trans hSW.out hg3.size)
    have HKF := Lib.hid (And.intro hKF hKp)
    clear hF hgr hX8 hY hBX hF3 hKF hKp hSW hg3
    obtain ⟨Z, hZ⟩ : ∃ Z, progF f' s (p : Int) ((X.drop q).take 16) = Z := ⟨_, rfl⟩
    rw [hZ] at hsn HF3 ⊢
    obtain ⟨z, f3⟩ := Z
    dsimp only at HF3 ⊢
    clear hZ
    have hpre : progsX s fr X ((pre ++ [(⟨x, hxG⟩ : Fin G)]).map (·.1)) 0 f = (z, f3) := by rw [List.map_append]; exact hsn
    have HPRE := Lib.hid hpre
    clear hsn hpre hpr
    have c8 := hX3'.out.cell
    have f8 := hX3'.out.frozen
    have cb6 := hY3.out.2.2.cell
    have fb6 := hY3.out.2.2.frozen
    by_cases hz : z = 0
    · subst hz
      repeat (first | refine kl_nil ?_ | (first | refine kl_move rfl rfl (.inl rfl) rfl rfl ?_ | refine kl_move rfl rfl (.inr rfl) rfl rfl ?_ | refine kl_const rfl rfl (.inl rfl) rfl ?_ | refine kl_const rfl rfl (.inr rfl) rfl ?_) | ((first | refine kl_step rfl rfl rfl fun K hK => ?_ | refine kl_step0 rfl rfl rfl fun K hK => ?_); go_simp; (try go_bits); (first | refine hK _ _ ?_ | refine hK _ ?_); clear hK K))
      refine kq_thenR ?_
      refine kr_seq ?_
      refine kr_region (outs_then (outs_then (outs_block outs_own))) rfl ?_
      repeat (first | refine kl_nil ?_ | (first | refine kl_move rfl rfl (.inl rfl) rfl rfl ?_ | refine kl_move rfl rfl (.inr rfl) rfl rfl ?_ | refine kl_const rfl rfl (.inl rfl) rfl ?_ | refine kl_const rfl rfl (.inr rfl) rfl ?_) | ((first | refine kl_step rfl rfl rfl fun K hK => ?_ | refine kl_step0 rfl rfl rfl fun K hK => ?_); go_simp; (try go_bits); (first | refine hK _ _ ?_ | refine hK _ ?_); clear hK K))
      refine kq_thenR ?_
      refine kr_iff rfl ?_
      refine kr_skip ?_
      refine kq_thenR ?_
      refine kr_region (outs_block outs_own) rfl ?_
      repeat (first | (first | refine kl_move rfl rfl (.inl rfl) rfl rfl ?_ | refine kl_move rfl rfl (.inr rfl) rfl rfl ?_ | refine kl_const rfl rfl (.inl rfl) rfl ?_ | refine kl_const rfl rfl (.inr rfl) rfl ?_) | ((first | refine kl_step rfl rfl rfl fun K hK => ?_ | refine kl_step0 rfl rfl rfl fun K hK => ?_); go_simp; (try go_bits); (first | refine hK _ _ ?_ | refine hK _ ?_); clear hK K))
      refine kl_nil ?_
      refine kq_block ?_
      have hg8 := grownBy_setCell' W3 b8 (.int .i64 (p1 : Int))
      have hge : (w.heap.size ≤ b8) := by have := HO.out; have := HO8.out; omega
      refine ⟨fun a k => ⟨HKF.out.1.trans (KeepsFrom.of_grownBy hg8 (fun j e => by injection e with e; have := HO10.out; omega)), HKF.out.2.t ⟨?_, ?_⟩, f3, HPRE, HF3.out.box hX3'.out (noU8_i _) hg8 (by have := HO.out; have := HO8.out; omega), grown_own hgr3.out hg8 (Nat.le_refl _) (fun r e => by injection e with e; omega), ?_, hY3.out.other hg8 (.inr HO8.out.1) HO.out.2.1 HO.out.2.2.1, bs_box hBX3.out hX3'.out (noU8_i _) hg8, Nat.le_trans hSW3.out hg8.size⟩⟩
      · exact hg8.block b2 (by have := HO10.out; have := hSW3.out; omega) (fun e => by injection e with e; have := HO10.out; omega)
      · exact hg8.block b3 (by have := HO10.out; have := hSW3.out; omega) (fun e => by injection e with e; have := HO10.out; omega)
      · rw [List.length_append, List.length_singleton, ← Nat.add_assoc, HPQ.out.1, HPQ.out.2.2]
        exact hX3'.out.set _
    · have t2 : (z != 0) = true := by rw [bne_iff_ne]; exact hz
      have HZ := Lib.hid hz
      clear hz
      repeat (first | refine kl_nil ?_ | (first | refine kl_move rfl rfl (.inl rfl) rfl rfl ?_ | refine kl_move rfl rfl (.inr rfl) rfl rfl ?_ | refine kl_const rfl rfl (.inl rfl) rfl ?_ | refine kl_const rfl rfl (.inr rfl) rfl ?_) | ((first | refine kl_step rfl rfl rfl fun K hK => ?_ | refine kl_step0 rfl rfl rfl fun K hK => ?_); go_simp; (try go_bits); (first | refine hK _ _ ?_ | refine hK _ ?_); clear hK K))
      refine kq_thenR ?_
      refine kr_seq ?_
      refine kr_region (outs_then (outs_then (outs_block outs_own))) rfl ?_
      repeat (first | refine kl_nil ?_ | (first | refine kl_move rfl rfl (.inl rfl) rfl rfl ?_ | refine kl_move rfl rfl (.inr rfl) rfl rfl ?_ | refine kl_const rfl rfl (.inl rfl) rfl ?_ | refine kl_const rfl rfl (.inr rfl) rfl ?_) | ((first | refine kl_step rfl rfl rfl fun K hK => ?_ | refine kl_step0 rfl rfl rfl fun K hK => ?_); go_simp; (try go_bits); (first | refine hK _ _ ?_ | refine hK _ ?_); clear hK K))
      refine kq_thenR ?_
      refine kr_ift rfl ?_
      refine kr_seq ?_
      refine kr_region (outs_then (outs_then (outs_block outs_own))) rfl ?_
      repeat (first | (first | refine kl_move rfl rfl (.inl rfl) rfl rfl ?_ | refine kl_move rfl rfl (.inr rfl) rfl rfl ?_ | refine kl_const rfl rfl (.inl rfl) rfl ?_ | refine kl_const rfl rfl (.inr rfl) rfl ?_) | ((first | refine kl_step rfl rfl rfl fun K hK => ?_ | refine kl_step0 rfl rfl rfl fun K hK => ?_); go_simp; (try go_bits); (first | refine hK _ _ ?_ | refine hK _ ?_); clear hK K))
      refine kl_nil ?_
      refine kq_thenR ?_
      refine kr_ret ?_
      refine kq_then_ret ?_
      refine kq_block_ret ?_
      have hg6 := grownBy_setCell' W3 b6 (.int .i64 z)
      refine ⟨fun a k => ⟨HKF.out.1.trans (KeepsFrom.of_grownBy hg6 (fun j e => by injection e with e; have := HO10.out; have := HO8.out; omega)), rfl, z, f3, HZ.out, HPRE, HF3.out.box hY3.out.2.2 (noU8_i _) hg6 (by have := HO.out; omega), grown_own hgr3.out hg6 (Nat.le_refl _) (fun r e => by injection e with e; have := HO.out; omega), hY3.out.2.2.set _⟩⟩
  · rintro D xs W hD rfl ⟨f', hpr, hF, hgr, hX8, hY, hBX, hSW⟩ hd a ka
    clear H10 Y10 X10 HBX hX2 hX3 hfin
    have hE2 : appendP f s b = (0, f') := by rw [HE.out, ← progsX_fin, hpr.out]
    have cb6 := hY.out.2.2.cell
    have fb6 := hY.out.2.2.frozen
    have hDb : D ≠ b6 := by have := HO10.out; have := HO8.out; omega
    refine KD.h (n := 45) ?_ a ka
    refine kd_seq ?_
    refine kd_run0 (w' := W.setCell ⟨b6, 0, none⟩ (.int .i64 0)) rfl rfl rfl (by go_simp) ?_
    refine kd_ret fun a k => ?_
    have hK : (W.setCell ⟨b6, 0, none⟩ (.int .i64 0)).heap[D]? = some (.deferred (some [])) := (KeepsOthers.setCell W _ _).same D _ hd rfl
    have hrow : ∀ r, some D = some r → ∃ o : Obj, (W.setCell ⟨b6, 0, none⟩ (.int .i64 0)).heap[r]? = some o ∧ o.isCells = false := fun r e => by cases e; exact ⟨_, hK, rfl⟩
    have hB6 := boxed_own (hY.out.2.2.set (.int .i64 0)) (grownBy_putObj' _ D (.deferred none)) hrow
    refine leaves_mark hK (results_cell1 rfl a.tmps _ (d := .int .i64) (by kernel_rfl) rfl (k.all 6 _ rfl) hB6.cell) ?_
    refine ⟨by rw [hE2], ?_, ?_⟩
    · rw [hE2]
      exact (hF.out.box hY.out.2.2 (noU8_i _) (grownBy_setCell' _ _ _) (by have := HO.out; omega)).own (grownBy_putObj' _ D _) hrow
    · exact grown_own (grown_own hgr.out (grownBy_setCell' _ _ _) (Nat.le_refl _) (fun r e => by injection e with e; have := HO.out; omega)) (grownBy_putObj' _ D _) (Nat.le_refl _) (fun r e => by injection e with e; have := hW10.out.size; omega)
  · rintro D c pre W hD ⟨k, hk, rfl⟩ ⟨rfl, z, f', hz, hpr, hF, hgr, hB6⟩ hd a ka
    clear H10 Y10 X10 HBX hX2 hX3 hfin
    have hE2 : appendP f s b = (z, f') := by rw [HE.out, progsX_fin_stop s fr X G k f (by rw [hpr.out]; exact hz), hpr.out]
    refine wp_ret ?_
    have hrow : ∀ r, some D = some r → ∃ o : Obj, W.heap[r]? = some o ∧ o.isCells = false := fun r e => by cases e; exact ⟨_, hd, rfl⟩
    have hB6' := boxed_own hB6.out (grownBy_putObj' _ D (.deferred none)) hrow
    refine leaves_mark hd (results_cell1 rfl a.tmps _ (d := .int .i64) (by kernel_rfl) rfl (ka.all 6 _ rfl) hB6'.cell) ?_
    refine ⟨by rw [hE2], ?_, ?_⟩
    · rw [hE2]
      exact hF.out.own (grownBy_putObj' _ D _) hrow
    · exact grown_own hgr.out (grownBy_putObj' _ D _) (Nat.le_refl _) (fun r e => by injection e with e; have := hW10.out.size; omega)
end Go.Proofs.Ytcpifcdndhhmgaa
