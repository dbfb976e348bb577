/- RecordPlays: the walk. -/
import Derived.Test.YtblidiecahpekaaDuo
import Derived.Test.YtblidiecahpekaaRecLoadR
import Derived.Test.YtblidiecahpekaaRecRows
import Derived.Test.YtblidiecahpekaaWithin4
import Derived.Test.YtblidiecahpekaaFlashDoW
import Derived.Test.YtblidiecahpekaaLay
import Derived.Test.YtblidiecahpekaaKnOps
set_option linter.unusedVariables false
set_option linter.unusedSimpArgs false
namespace Go.Proofs.Ytblidiecahpekaa
open Go.RowKit
attribute [local go_sem] ev_tmp ev_const ev_func ev_global lk_hit lk_miss uponK_value uponK_skip look_tmp look_const look_global look_func valP_value
theorem u8wrapN (i : Nat) (hi : i < 256) : IntKind.u8.wrap (i : Int) = ((u8n i).toNat : Int) := by
  rw [u8n_toNat]
  show (i : Int) % 256 = _
  omega
theorem act_rangeA {w : World} {g o : Nat} {a : ActV} {B : Option Addr} {m c : Nat} (h0 : w.cell? ⟨g, o, none⟩ = some (.int .i64 a.kind)) (h1 : w.cell? ⟨g, o + 1, none⟩ = some (.int .i64 a.s)) (h2 : w.cell? ⟨g, o + 2, none⟩ = some (.int .i64 a.p)) (h3 : w.cell? ⟨g, o + 3, none⟩ = some (.int .i64 a.n)) (h4 : w.cell? ⟨g, o + 4, none⟩ = some (.slice B m c)) :
    w.rangeAt g o [.int .i64 a.kind, .int .i64 a.s, .int .i64 a.p, .int .i64 a.n, .slice B m c] := fun j v hv => by
  match j, hv with
  | 0, hv => simp at hv; subst hv; exact h0
  | 1, hv => simp at hv; subst hv; exact h1
  | 2, hv => simp at hv; subst hv; exact h2
  | 3, hv => simp at hv; subst hv; exact h3
  | 4, hv => simp at hv; subst hv; exact h4
theorem tmod_bds (z n : Int) (h0 : 0 < n) : -n < z.tmod n ∧ z.tmod n < n := by
  have h1 : z.tmod n < n := Int.tmod_lt_of_pos z h0
  have := Int.tmod_eq_emod (a := z) (b := n)
  have hc := Int.emod_nonneg z (Int.ne_of_gt h0)
  refine ⟨?_, h1⟩
  split at this <;> omega
theorem tdiv_bds (z : Int) (n : Nat) (hz : -9223372036854775808 ≤ z ∧ z ≤ 9223372036854775807) (h : 2 ≤ n) : -9223372036854775808 ≤ z.tdiv n ∧ z.tdiv n ≤ 9223372036854775807 := by
  have h1 := Int.natAbs_tdiv z (n : Int)
  have h2 : (z.tdiv n).natAbs = z.natAbs / n := h1
  have h3 : z.natAbs / n ≤ z.natAbs / 2 := Nat.div_le_div_left h (by omega)
  omega
theorem kl_makeL {Q : Exit → Act → World → Prop} {n : Nat} {L : Slots} {w0 w : World} {V : Vars} {ops : Array Oper} {rest : List Oper} {o : Oper} {d y k : Nat} (hL : Lay w0 w V) (hd : o.dst = some d) (hg : o.guard = none) (ho : o.op = .makeSlice 32 (.tmp y) (.tmp y)) (hy : lk L y = some (.int .i64 (k : Int))) (hk : k ≤ 140737488355328) (hn : Nat.blt d n = true)
    (h : ∀ g w', g = w.heap.size → Below w.heap.size w w' → Lay w0 w' ((g, (bv (List.replicate k 0)).toArray, 5) :: V) → KL Try.prog ops Q rest n ((d, .slice (some ⟨g, 0, none⟩) k k) :: L) w') : KL Try.prog ops Q (o :: rest) n L w :=
  kl_step hd hg (by simp [ho, okop, okx, hy, hn]) fun K hK => by
    have he : ev L (.tmp y) = .int .i64 (k : Int) := by simp [ev, hy]
    have hr : (execOp (ev L) o).run Try.prog w = .ok (.value (.slice (some ⟨w.heap.size, 0, none⟩) k k)) (w.alloc (.cells (bv (List.replicate k 0)).toArray 5)) := by
      simp [execOp, ho, he, makeBytes k hk, Sem.run_bind, Result.andThen]
    rw [hr]
    exact hK _ _ (h _ _ rfl ((Below.refl _ _).alloc (Nat.le_refl _) _) (hL.alloc _ _))
theorem Lay.bs {w0 w : World} {V : Vars} (h : Lay w0 w V) (i : Nat) {g : Nat} {l : List UInt8} {t : TypeId} (hi : V[i]? = some (g, (bv l).toArray, t)) {n : Nat} (hn : l.length = n) : Bs w (some ⟨g, 0, none⟩) n l := by
  have := Vs.lit (h.at_ i hi) (n := n) (by simp [bv, hn])
  simpa [Bs] using this
theorem Duo.act {w0 W Wm W' : World} {g x : Nat} {f k f1 k1 : FlashSt} (h : Duo w0 W g x f k) (hF : FS (NeQ g x) W' g f1) (hR : RF (NeQ g x) W' x k1) (h1 : W.grownBy Wm (some g)) (h2 : Wm.grownBy W' (some x)) : Duo w0 W' g x f1 k1 :=
  ⟨hF, hR, h.ge, h.lt, below_grown (below_grown h.bel h1 h.bel.size h.ge) h2 (Nat.le_trans h.bel.size h1.size) (by have := h.lt; have := h.ge; omega)⟩
set_option maxRecDepth 100000 in
set_option maxHeartbeats 8000000 in
theorem recordPlays_top (A : Option Addr) (n c : Nat) (la : List ActV) (V : Option Addr) (m d : Nat) (zs : List Int) (w : World)
    (hA : Acts w A n la) (hnc : n ≤ c) (hc : c ≤ 9223372036854775807) (hV : Vs w V m (zs.map (Value.int .i64))) (hmd : m ≤ d) (hd : d ≤ 140737488351232) (hzb : ∀ z ∈ zs, -9223372036854775808 ≤ z ∧ z ≤ 9223372036854775807) :
    Calls Try.prog 9 #[.slice A n c, .slice V m d] w fun e w' => e = .returned (.bool true) ∧ Below w.heap.size w w' := by
  refine calls_kw Try.func9 rfl Try.ntmps9 rfl [(0, .slice A n c), (1, .slice V m d)] rfl ?_
  repeat (first | refine kw_seq ?_ | refine kw_block ?_ | refine kw_skip ?_ | refine kw_region ?_ | refine kl_nil ?_ | refine kq_then ?_ | refine kq_block ?_ | refine kw_exit ?_ | refine kq_then_exit ?_ | refine kq_block_here rfl ?_ | refine kq_block_far rfl ?_ | refine kq_again_exit ?_ | refine kw_ret ?_ | refine kq_then_ret ?_ | refine kq_block_ret ?_ | refine kq_again_ret ?_ | refine kw_ift rfl ?_ | refine kw_iff rfl ?_ | refine kl_ung rfl rfl ?_ | refine kl_skipg rfl rfl rfl rfl ?_ | refine kl_skipg0 rfl rfl rfl ?_ | (first | refine kl_move rfl rfl (.inl rfl) rfl rfl ?_ | refine kl_move rfl rfl (.inr rfl) rfl rfl ?_ | refine kl_const rfl rfl (.inl rfl) rfl ?_ | refine kl_const rfl rfl (.inr rfl) rfl ?_) | ((first | refine kl_step rfl rfl rfl fun K hK => ?_ | refine kl_step0 rfl rfl rfl fun K hK => ?_); go_simp; (try go_bits); (first | refine hK _ _ ?_ | refine hK _ ?_); clear hK K))
  refine kl_call rfl rfl rfl Try.func10 rfl (by kernel_rfl) rfl ?_
  refine Calls.mono (known5_any w) ?_
  rintro e w0 ⟨rfl, hb0⟩
  refine ⟨_, rfl, ?_⟩
  have HLL := Lib.hid hA.1
  repeat (first | refine kw_seq ?_ | refine kw_block ?_ | refine kw_skip ?_ | refine kw_region ?_ | refine kl_nil ?_ | refine kq_then ?_ | refine kq_block ?_ | refine kw_exit ?_ | refine kq_then_exit ?_ | refine kq_block_here rfl ?_ | refine kq_block_far rfl ?_ | refine kq_again_exit ?_ | refine kw_ret ?_ | refine kq_then_ret ?_ | refine kq_block_ret ?_ | refine kq_again_ret ?_ | refine kw_ift rfl ?_ | refine kw_iff rfl ?_ | refine kl_ung rfl rfl ?_ | refine kl_skipg rfl rfl rfl rfl ?_ | refine kl_skipg0 rfl rfl rfl ?_ | (first | refine kl_move rfl rfl (.inl rfl) rfl rfl ?_ | refine kl_move rfl rfl (.inr rfl) rfl rfl ?_ | refine kl_const rfl rfl (.inl rfl) rfl ?_ | refine kl_const rfl rfl (.inr rfl) rfl ?_) | ((first | refine kl_step rfl rfl rfl fun K hK => ?_ | refine kl_step0 rfl rfl rfl fun K hK => ?_); go_simp; (try go_bits); (first | refine hK _ _ ?_ | refine hK _ ?_); clear hK K))
  refine kl_call rfl rfl rfl Try.func28 rfl (by kernel_rfl) rfl ?_
  refine Calls.mono (few_any A n c la w0 (hA.keep (Keeps.of_below hb0)) hnc hc) ?_
  rintro e _ ⟨rfl, rfl⟩
  refine ⟨_, rfl, ?_⟩
  by_cases hfew : (fewA la && decide (n ≤ 80)) = true
  case neg =>
    rw [Bool.eq_false_iff.2 hfew]
    clear hfew
    repeat (first | refine kw_seq ?_ | refine kw_block ?_ | refine kw_skip ?_ | refine kw_region ?_ | refine kl_nil ?_ | refine kq_then ?_ | refine kq_block ?_ | refine kw_exit ?_ | refine kq_then_exit ?_ | refine kq_block_here rfl ?_ | refine kq_block_far rfl ?_ | refine kq_again_exit ?_ | refine kw_ret ?_ | refine kq_then_ret ?_ | refine kq_block_ret ?_ | refine kq_again_ret ?_ | refine kw_ift rfl ?_ | refine kw_iff rfl ?_ | refine kl_ung rfl rfl ?_ | refine kl_skipg rfl rfl rfl rfl ?_ | refine kl_skipg0 rfl rfl rfl ?_ | (first | refine kl_move rfl rfl (.inl rfl) rfl rfl ?_ | refine kl_move rfl rfl (.inr rfl) rfl rfl ?_ | refine kl_const rfl rfl (.inl rfl) rfl ?_ | refine kl_const rfl rfl (.inr rfl) rfl ?_) | ((first | refine kl_step rfl rfl rfl fun K hK => ?_ | refine kl_step0 rfl rfl rfl fun K hK => ?_); go_simp; (try go_bits); (first | refine hK _ _ ?_ | refine hK _ ?_); clear hK K))
    exact kq_ret1 rfl rfl ⟨rfl, hb0⟩
  rw [hfew]
  have HFW := Lib.hid hfew
  clear hfew
  repeat (first | refine kw_seq ?_ | refine kw_block ?_ | refine kw_skip ?_ | refine kw_region ?_ | refine kl_nil ?_ | refine kq_then ?_ | refine kq_block ?_ | refine kw_exit ?_ | refine kq_then_exit ?_ | refine kq_block_here rfl ?_ | refine kq_block_far rfl ?_ | refine kq_again_exit ?_ | refine kw_ret ?_ | refine kq_then_ret ?_ | refine kq_block_ret ?_ | refine kq_again_ret ?_ | refine kw_ift rfl ?_ | refine kw_iff rfl ?_ | refine kl_ung rfl rfl ?_ | refine kl_skipg rfl rfl rfl rfl ?_ | refine kl_skipg0 rfl rfl rfl ?_ | (first | refine kl_move rfl rfl (.inl rfl) rfl rfl ?_ | refine kl_move rfl rfl (.inr rfl) rfl rfl ?_ | refine kl_const rfl rfl (.inl rfl) rfl ?_ | refine kl_const rfl rfl (.inr rfl) rfl ?_) | ((first | refine kl_step rfl rfl rfl fun K hK => ?_ | refine kl_step0 rfl rfl rfl fun K hK => ?_); go_simp; (try go_bits); (first | refine hK _ _ ?_ | refine hK _ ?_); clear hK K))
  refine kl_call rfl rfl rfl Try.func14 rfl (by kernel_rfl) rfl ?_
  refine Calls.mono (new_any w0) ?_
  rintro e w1 ⟨rfl, hf1, hb1⟩
  refine ⟨_, rfl, ?_⟩
  repeat (first | refine kw_seq ?_ | refine kw_block ?_ | refine kw_skip ?_ | refine kw_region ?_ | refine kl_nil ?_ | refine kq_then ?_ | refine kq_block ?_ | refine kw_exit ?_ | refine kq_then_exit ?_ | refine kq_block_here rfl ?_ | refine kq_block_far rfl ?_ | refine kq_again_exit ?_ | refine kw_ret ?_ | refine kq_then_ret ?_ | refine kq_block_ret ?_ | refine kq_again_ret ?_ | refine kw_ift rfl ?_ | refine kw_iff rfl ?_ | refine kl_ung rfl rfl ?_ | refine kl_skipg rfl rfl rfl rfl ?_ | refine kl_skipg0 rfl rfl rfl ?_ | (first | refine kl_move rfl rfl (.inl rfl) rfl rfl ?_ | refine kl_move rfl rfl (.inr rfl) rfl rfl ?_ | refine kl_const rfl rfl (.inl rfl) rfl ?_ | refine kl_const rfl rfl (.inr rfl) rfl ?_) | ((first | refine kl_step rfl rfl rfl fun K hK => ?_ | refine kl_step0 rfl rfl rfl fun K hK => ?_); go_simp; (try go_bits); (first | refine hK _ _ ?_ | refine hK _ ?_); clear hK K))
  refine kl_call rfl rfl rfl Try.func21 rfl (by kernel_rfl) rfl ?_
  refine Calls.mono (refNew_any w1) ?_
  rintro e w2 ⟨rfl, hf2, hb2⟩
  refine ⟨_, rfl, ?_⟩
  have hD0 := Duo.start w w0 w1 w2 hb0 hf1 hb1 hf2 hb2
  obtain ⟨g, hg⟩ : ∃ g, w0.heap.size = g := ⟨_, rfl⟩
  obtain ⟨x, hx⟩ : ∃ x, w1.heap.size = x := ⟨_, rfl⟩
  rw [hg, hx] at hD0 ⊢
  clear hf1 hb1 hf2 hb2 hg hx hb0
  repeat (first | refine kw_seq ?_ | refine kw_skip ?_ | refine kw_region ?_ | refine kl_nil ?_ | refine kq_then ?_ | refine kq_block ?_ | refine kw_exit ?_ | refine kq_then_exit ?_ | refine kq_block_here rfl ?_ | refine kq_block_far rfl ?_ | refine kq_again_exit ?_ | refine kw_ret ?_ | refine kq_then_ret ?_ | refine kq_block_ret ?_ | refine kq_again_ret ?_ | refine kw_ift rfl ?_ | refine kw_iff rfl ?_ | refine kl_ung rfl rfl ?_ | refine kl_skipg rfl rfl rfl rfl ?_ | refine kl_skipg0 rfl rfl rfl ?_ | (first | refine kl_move rfl rfl (.inl rfl) rfl rfl ?_ | refine kl_move rfl rfl (.inr rfl) rfl rfl ?_ | refine kl_const rfl rfl (.inl rfl) rfl ?_ | refine kl_const rfl rfl (.inr rfl) rfl ?_) | ((first | refine kl_step rfl rfl rfl fun K hK => ?_ | refine kl_step0 rfl rfl rfl fun K hK => ?_); go_simp; (try go_bits); (first | refine hK _ _ ?_ | refine hK _ ?_); clear hK K))
  refine KW.less [0, 1, 5, 6, 7] ?_
  simp only [nrm, lk, Nat.reduceBEq, cond_true, cond_false]
  refine kw_block ?_
  refine kw_loop (fun mm L W => ∃ i f, i ≤ m ∧ i ≤ 60 ∧ mm = 60 - i ∧ Hid (Duo w W g x f f) ∧ L = [(0, .slice A n c), (1, .slice V m d), (5, .pointer (some ⟨g, 0, none⟩)), (6, .pointer (some ⟨x, 0, none⟩)), (7, .int .i64 (i : Int))]) ⟨0, newF, by omega, by omega, rfl, hD0, rfl⟩ ?_
  clear hD0
  rintro mm L W ⟨i, f, him, hi60, rfl, hD, rfl⟩
  have hgt : Hid (g < x) := hD.out.lt
  by_cases hlt : i < m ∧ i < 60
  case neg =>
    by_cases hlm : i < m
    · have hl6 : ¬ i < 60 := fun h => hlt ⟨hlm, h⟩
      have t1 : decide ((i : Int) < (m : Int)) = true := by rw [decide_eq_true_eq]; omega
      have t1n : decide (i < m) = true := decide_eq_true hlm
      have t2 : decide ((i : Int) < 60) = false := by rw [decide_eq_false_iff_not]; omega
      have t2n : decide (i < 60) = false := decide_eq_false hl6
      clear hlt hlm hl6
      repeat (first | refine kw_seq ?_ | refine kw_block ?_ | refine kw_skip ?_ | refine kw_region ?_ | refine kl_nil ?_ | refine kq_then ?_ | refine kq_block ?_ | refine kw_exit ?_ | refine kq_then_exit ?_ | refine kq_block_here rfl ?_ | refine kq_block_far rfl ?_ | refine kq_again_exit ?_ | refine kw_ret ?_ | refine kq_then_ret ?_ | refine kq_block_ret ?_ | refine kq_again_ret ?_ | refine kw_ift rfl ?_ | refine kw_iff rfl ?_ | refine kl_ung rfl rfl ?_ | refine kl_skipg rfl rfl rfl rfl ?_ | refine kl_skipg0 rfl rfl rfl ?_ | (first | refine kl_move rfl rfl (.inl rfl) rfl rfl ?_ | refine kl_move rfl rfl (.inr rfl) rfl rfl ?_ | refine kl_const rfl rfl (.inl rfl) rfl ?_ | refine kl_const rfl rfl (.inr rfl) rfl ?_) | ((first | refine kl_step rfl rfl rfl fun K hK => ?_ | refine kl_step0 rfl rfl rfl fun K hK => ?_); go_simp; (try go_bits); (first | refine hK _ _ ?_ | refine hK _ ?_); clear hK K))
      exact kq_ret1 rfl rfl ⟨rfl, hD.out.bel⟩
    · have t1 : decide ((i : Int) < (m : Int)) = false := by rw [decide_eq_false_iff_not]; omega
      have t1n : decide (i < m) = false := decide_eq_false hlm
      clear hlt hlm
      repeat (first | refine kw_seq ?_ | refine kw_block ?_ | refine kw_skip ?_ | refine kw_region ?_ | refine kl_nil ?_ | refine kq_then ?_ | refine kq_block ?_ | refine kw_exit ?_ | refine kq_then_exit ?_ | refine kq_block_here rfl ?_ | refine kq_block_far rfl ?_ | refine kq_again_exit ?_ | refine kw_ret ?_ | refine kq_then_ret ?_ | refine kq_block_ret ?_ | refine kq_again_ret ?_ | refine kw_ift rfl ?_ | refine kw_iff rfl ?_ | refine kl_ung rfl rfl ?_ | refine kl_skipg rfl rfl rfl rfl ?_ | refine kl_skipg0 rfl rfl rfl ?_ | (first | refine kl_move rfl rfl (.inl rfl) rfl rfl ?_ | refine kl_move rfl rfl (.inr rfl) rfl rfl ?_ | refine kl_const rfl rfl (.inl rfl) rfl ?_ | refine kl_const rfl rfl (.inr rfl) rfl ?_) | ((first | refine kl_step rfl rfl rfl fun K hK => ?_ | refine kl_step0 rfl rfl rfl fun K hK => ?_); go_simp; (try go_bits); (first | refine hK _ _ ?_ | refine hK _ ?_); clear hK K))
      exact kq_ret1 rfl rfl ⟨rfl, hD.out.bel⟩
  obtain ⟨hlm, hl6⟩ := hlt
  have t1 : decide ((i : Int) < (m : Int)) = true := by rw [decide_eq_true_eq]; omega
  have t1n : decide (i < m) = true := decide_eq_true hlm
  have t2 : decide ((i : Int) < 60) = true := by rw [decide_eq_true_eq]; omega
  have t2n : decide (i < 60) = true := decide_eq_true hl6
  have u0 : (0 : Int) ≤ i := by omega
  have u1 : (i : Int) < m := by omega
  obtain ⟨i1, hi1⟩ : ∃ i1, i + 1 = i1 := ⟨_, rfl⟩
  have k1 : (i : Int) + 1 = (i1 : Int) := by omega
  have k2 : (0 : Int) ≤ i1 := by omega
  have k3 : (i1 : Int) ≤ 64 := by omega
  have HI := Lib.hid (And.intro hi1 (And.intro hlm hl6))
  obtain ⟨bV, oV, vz, rfl, hcz, _, hgz⟩ := hV.next hlm
  have hgz2 := hgz.out
  rw [List.getElem?_map, Option.map_eq_some_iff] at hgz2
  obtain ⟨z, hz1, rfl⟩ := hgz2
  have hz := hzb z (List.mem_of_getElem? hz1)
  have HZ := Lib.hid hcz
  have rz := hD.out.keeps _ _ hcz
  clear hcz hz1 hgz hi1
  repeat (first | refine kw_seq ?_ | refine kw_region ?_ | refine kl_nil ?_ | refine kq_then ?_ | refine kw_ift rfl ?_ | refine kw_skip ?_ | refine kl_ung rfl rfl ?_ | (first | refine kl_move rfl rfl (.inl rfl) rfl rfl ?_ | refine kl_move rfl rfl (.inr rfl) rfl rfl ?_ | refine kl_const rfl rfl (.inl rfl) rfl ?_ | refine kl_const rfl rfl (.inr rfl) rfl ?_) | ((first | refine kl_step rfl rfl rfl fun K hK => ?_ | refine kl_step0 rfl rfl rfl fun K hK => ?_); go_simp; (try go_bits); (first | refine hK _ _ ?_ | refine hK _ ?_); clear hK K))
  refine kw_block ?_
  clear t1 t1n t2 t2n
  refine kw_cut (fun L W => ∃ f, Hid (Duo w W g x f f) ∧ L = [(0, .slice A n c), (1, .slice (some ⟨bV, oV, none⟩) m d), (5, .pointer (some ⟨g, 0, none⟩)), (6, .pointer (some ⟨x, 0, none⟩)), (7, .int .i64 (i : Int))]) ?_ ?_
  · by_cases hin : i < n
    case neg =>
      have q1 : decide ((i : Int) < (n : Int)) = false := by rw [decide_eq_false_iff_not]; omega
      have q1n : decide (i < n) = false := decide_eq_false hin
      clear hin
      repeat (first | refine kw_seq ?_ | refine kw_region ?_ | refine kl_nil ?_ | refine kq_then ?_ | refine kw_iff rfl ?_ | refine kw_skip ?_ | (first | refine kl_move rfl rfl (.inl rfl) rfl rfl ?_ | refine kl_move rfl rfl (.inr rfl) rfl rfl ?_ | refine kl_const rfl rfl (.inl rfl) rfl ?_ | refine kl_const rfl rfl (.inr rfl) rfl ?_) | ((first | refine kl_step rfl rfl rfl fun K hK => ?_ | refine kl_step0 rfl rfl rfl fun K hK => ?_); go_simp; (try go_bits); (first | refine hK _ _ ?_ | refine hK _ ?_); clear hK K))
      refine kq_cut [0, 1, 5, 6, 7] ?_
      exact ⟨f, hD, rfl⟩
    have q1 : decide ((i : Int) < (n : Int)) = true := by rw [decide_eq_true_eq]; omega
    have q1n : decide (i < n) = true := decide_eq_true hin
    obtain ⟨gA, oA, a, rfl, hat, _, hgx⟩ := hA.next hin
    obtain ⟨zk, za, zp, zn, lb⟩ := a
    obtain ⟨y0, y1, y2, y3, Bk, mk, dk, y4, hBk, hmk, hdk⟩ := hat
    have h40 : lb.length ≤ 40 := by
      have := HFW.out
      rw [Bool.and_eq_true] at this
      have := (List.all_eq_true.1 this.1) _ (List.mem_of_getElem? hgx.out)
      simpa using this
    have hri := Lib.hid (act_rangeA (hD.out.keeps _ _ y0) (hD.out.keeps _ _ y1) (hD.out.keeps _ _ y2) (hD.out.keeps _ _ y3) (hD.out.keeps _ _ y4))
    dsimp only at hri hBk
    have hin2 := Lib.hid hBk.inQ
    have hBk := Lib.hid hBk
    have u2 : (i : Int) < n := by omega
    clear y0 y1 y2 y3 y4 hgx
    repeat (first | refine kw_seq ?_ | refine kw_region ?_ | refine kl_nil ?_ | refine kq_then ?_ | refine kw_ift rfl ?_ | refine kw_skip ?_ | (first | refine kl_move rfl rfl (.inl rfl) rfl rfl ?_ | refine kl_move rfl rfl (.inr rfl) rfl rfl ?_ | refine kl_const rfl rfl (.inl rfl) rfl ?_ | refine kl_const rfl rfl (.inr rfl) rfl ?_) | ((first | refine kl_step rfl rfl rfl fun K hK => ?_ | refine kl_step0 rfl rfl rfl fun K hK => ?_); go_simp; (try go_bits); (first | refine hK _ _ ?_ | refine hK _ ?_); clear hK K))
    refine kl_load_mid 60 gA _ _ _ hri.out Try.underlying60 rfl rfl rfl rfl rfl rfl rfl ?_
    clear hri hin u2 q1 q1n
    refine kl_varL (z := #[.int .i64 0, .int .i64 0, .int .i64 0, .int .i64 0, .slice none 0 0]) (cells := #[.int .i64 zk, .int .i64 za, .int .i64 zp, .int .i64 zn, .slice Bk mk dk]) (Lay.start W) rfl rfl rfl (by simp [Value.oneCell']) rfl rfl rfl rfl rfl rfl rfl rfl rfl ?_
    intro g8 w3 hg8 hb3 L3
    have c80 := L3.get 0 rfl (j := 0) rfl
    have rz3 := Keeps.of_below hb3 _ _ rz
    have hD3 := Lib.hid (hD.out.next hb3)
    have HG8 := Lib.hid hg8
    have HW3 : Hid (W.heap.size ≤ w3.heap.size) := hb3.size
    clear hb3 rz hg8
    repeat (first | refine kw_seq ?_ | refine kw_region ?_ | refine kl_nil ?_ | refine kq_then ?_ | refine kw_ift rfl ?_ | refine kw_skip ?_ | (first | refine kl_move rfl rfl (.inl rfl) rfl rfl ?_ | refine kl_move rfl rfl (.inr rfl) rfl rfl ?_ | refine kl_const rfl rfl (.inl rfl) rfl ?_ | refine kl_const rfl rfl (.inr rfl) rfl ?_) | ((first | refine kl_step rfl rfl rfl fun K hK => ?_ | refine kl_step0 rfl rfl rfl fun K hK => ?_); go_simp; (try go_bits); (first | refine hK _ _ ?_ | refine hK _ ?_); clear hK K))
    refine kl_call rfl rfl rfl Try.func11 rfl (by kernel_rfl) rfl ?_
    refine Calls.mono (within_any zk 9 9 _ rfl (by omega) (by omega)) ?_
    rintro e _ ⟨rfl, rfl⟩
    refine ⟨_, rfl, ?_⟩
    have hwk := within_lt zk 9 (by omega)
    obtain ⟨kk, hkk⟩ : ∃ kk, within zk 9 = kk := ⟨_, rfl⟩
    rw [hkk] at hwk ⊢
    clear hkk
    repeat (first | refine kl_nil ?_ | refine kq_then ?_ | (first | refine kl_move rfl rfl (.inl rfl) rfl rfl ?_ | refine kl_move rfl rfl (.inr rfl) rfl rfl ?_ | refine kl_const rfl rfl (.inl rfl) rfl ?_ | refine kl_const rfl rfl (.inr rfl) rfl ?_) | ((first | refine kl_step rfl rfl rfl fun K hK => ?_ | refine kl_step0 rfl rfl rfl fun K hK => ?_); go_simp; (try go_bits); (first | refine hK _ _ ?_ | refine hK _ ?_); clear hK K))
    refine kw_cutq (fun L W' => ∃ zk', Hid (Lay W W' [(g8, #[.int .i64 zk', .int .i64 za, .int .i64 zp, .int .i64 zn, .slice Bk mk dk], 60)]) ∧ L = [(0, .slice (some ⟨gA, oA, none⟩) n c), (1, .slice (some ⟨bV, oV, none⟩) m d), (5, .pointer (some ⟨g, 0, none⟩)), (6, .pointer (some ⟨x, 0, none⟩)), (7, .int .i64 (i : Int)), (8, .pointer (some ⟨g8, 0, none⟩))]) ?_ ?_
    · have hcc := c80
      have f80 := L3.free 0 rfl 0
      have b0 : (0 : Int) ≤ kk := by omega
      by_cases hk7 : kk < 7
      case neg =>
        have q1 : decide ((kk : Int) < 7) = false := by rw [decide_eq_false_iff_not]; omega
        have q1n : decide (kk < 7) = false := decide_eq_false hk7
        clear hk7
        repeat (first | refine kw_seq ?_ | refine kw_region ?_ | refine kl_nil ?_ | refine kq_then ?_ | refine kw_ift rfl ?_ | refine kw_iff rfl ?_ | refine kw_skip ?_ | refine kl_ung rfl rfl ?_ | refine kl_skipg rfl rfl rfl rfl ?_ | (first | refine kl_move rfl rfl (.inl rfl) rfl rfl ?_ | refine kl_move rfl rfl (.inr rfl) rfl rfl ?_ | refine kl_const rfl rfl (.inl rfl) rfl ?_ | refine kl_const rfl rfl (.inr rfl) rfl ?_) | ((first | refine kl_step rfl rfl rfl fun K hK => ?_ | refine kl_step0 rfl rfl rfl fun K hK => ?_); go_simp; (try go_bits); (first | refine hK _ _ ?_ | refine hK _ ?_); clear hK K))
        refine kq_cut [0, 1, 5, 6, 7, 8] ?_
        exact ⟨zk, L3, rfl⟩
      have q1 : decide ((kk : Int) < 7) = true := by rw [decide_eq_true_eq]; omega
      have q1n : decide (kk < 7) = true := decide_eq_true hk7
      obtain ⟨r3, hr3⟩ : ∃ r3, Int.tmod z 3 = r3 := ⟨_, rfl⟩
      have hr3b := tmod_bds z 3 (by omega)
      rw [hr3] at hr3b
      clear hk7
      by_cases hr0 : 0 < r3
      · have q2 : decide (0 < r3) = true := decide_eq_true hr0
        repeat (first | refine kw_seq ?_ | refine kw_region ?_ | refine kl_nil ?_ | refine kq_then ?_ | refine kw_ift rfl ?_ | refine kw_iff rfl ?_ | refine kw_skip ?_ | refine kl_ung rfl rfl ?_ | refine kl_skipg rfl rfl rfl rfl ?_ | (first | refine kl_move rfl rfl (.inl rfl) rfl rfl ?_ | refine kl_move rfl rfl (.inr rfl) rfl rfl ?_ | refine kl_const rfl rfl (.inl rfl) rfl ?_ | refine kl_const rfl rfl (.inr rfl) rfl ?_) | ((first | refine kl_step rfl rfl rfl fun K hK => ?_ | refine kl_step0 rfl rfl rfl fun K hK => ?_); go_simp; (try go_bits); (first | refine hK _ _ ?_ | refine hK _ ?_); clear hK K))
        refine kq_cut [0, 1, 5, 6, 7, 8] ?_
        exact ⟨8, L3.cell 0 rfl 0 (.int .i64 8), rfl⟩
      · have q2 : decide (0 < r3) = false := decide_eq_false hr0
        repeat (first | refine kw_seq ?_ | refine kw_region ?_ | refine kl_nil ?_ | refine kq_then ?_ | refine kw_ift rfl ?_ | refine kw_iff rfl ?_ | refine kw_skip ?_ | refine kl_ung rfl rfl ?_ | refine kl_skipg rfl rfl rfl rfl ?_ | (first | refine kl_move rfl rfl (.inl rfl) rfl rfl ?_ | refine kl_move rfl rfl (.inr rfl) rfl rfl ?_ | refine kl_const rfl rfl (.inl rfl) rfl ?_ | refine kl_const rfl rfl (.inr rfl) rfl ?_) | ((first | refine kl_step rfl rfl rfl fun K hK => ?_ | refine kl_step0 rfl rfl rfl fun K hK => ?_); go_simp; (try go_bits); (first | refine hK _ _ ?_ | refine hK _ ?_); clear hK K))
        refine kq_cut [0, 1, 5, 6, 7, 8] ?_
        exact ⟨zk, L3, rfl⟩
    · rintro L w4 ⟨zk', L4, rfl⟩
      have hD4 := Lib.hid (hD.out.next L4.out.below)
      have LG := L4.out
      refine kw_seq ?_
      refine kw_region ?_
      refine kl_getL LG 0 rfl Try.underlying60 rfl rfl rfl rfl rfl rfl rfl ?_
      clear LG
      repeat (first | (first | refine kl_move rfl rfl (.inl rfl) rfl rfl ?_ | refine kl_move rfl rfl (.inr rfl) rfl rfl ?_ | refine kl_const rfl rfl (.inl rfl) rfl ?_ | refine kl_const rfl rfl (.inr rfl) rfl ?_) | ((first | refine kl_step rfl rfl rfl fun K hK => ?_ | refine kl_step0 rfl rfl rfl fun K hK => ?_); go_simp; (try go_bits); (first | refine hK _ _ ?_ | refine hK _ ?_); clear hK K))
      refine kl_call rfl rfl rfl Try.func29 rfl (by kernel_rfl) rfl ?_
      refine Calls.mono (do_any (NeQ g x) g x neq_g neq_x (by have := hgt.out; omega) f zk' za zp zn lb Bk mk dk w4 hD4.out.fs hD4.out.rf hD4.out.fresh (hBk.out.keep hD4.out.keeps) (fun h a e hh => by have := hin2.out h a e; have := hD4.out.ge; omega) hmk hdk h40) ?_
      rintro e w5 ⟨rfl, hf5, hr5, wm, hg5, hg6⟩
      refine ⟨_, rfl, ?_⟩
      have hD5 := Lib.hid (hD4.out.act hf5 hr5 hg5 hg6)
      clear hD4 hf5 hr5 hg5 hg6 L4
      repeat (first | refine kw_seq ?_ | refine kw_region ?_ | refine kl_nil ?_ | refine kq_then ?_ | refine kw_iff rfl ?_ | refine kw_skip ?_ | (first | refine kl_move rfl rfl (.inl rfl) rfl rfl ?_ | refine kl_move rfl rfl (.inr rfl) rfl rfl ?_ | refine kl_const rfl rfl (.inl rfl) rfl ?_ | refine kl_const rfl rfl (.inr rfl) rfl ?_) | ((first | refine kl_step rfl rfl rfl fun K hK => ?_ | refine kl_step0 rfl rfl rfl fun K hK => ?_); go_simp; (try go_bits); (first | refine hK _ _ ?_ | refine hK _ ?_); clear hK K))
      refine kq_cut [0, 1, 5, 6, 7] ?_
      exact ⟨_, hD5, rfl⟩
  · rintro L W ⟨f, hD, rfl⟩
    clear rz
    have rz := hD.out.keeps _ _ HZ.out
    repeat (first | refine kw_seq ?_ | refine kw_region ?_ | refine kl_nil ?_ | refine kq_then ?_ | refine kw_ift rfl ?_ | refine kw_iff rfl ?_ | refine kw_skip ?_ | refine kl_ung rfl rfl ?_ | refine kl_skipg rfl rfl rfl rfl ?_ | (first | refine kl_move rfl rfl (.inl rfl) rfl rfl ?_ | refine kl_move rfl rfl (.inr rfl) rfl rfl ?_ | refine kl_const rfl rfl (.inl rfl) rfl ?_ | refine kl_const rfl rfl (.inr rfl) rfl ?_) | ((first | refine kl_step rfl rfl rfl fun K hK => ?_ | refine kl_step0 rfl rfl rfl fun K hK => ?_); go_simp; (try go_bits); (first | refine hK _ _ ?_ | refine hK _ ?_); clear hK K))
    refine kl_call rfl rfl rfl Try.func11 rfl (by kernel_rfl) rfl ?_
    refine Calls.mono (within_any z 120 120 _ rfl (by omega) (by omega)) ?_
    rintro e _ ⟨rfl, rfl⟩
    refine ⟨_, rfl, ?_⟩
    have hp := within_lt z 120 (by omega)
    obtain ⟨p, hpp⟩ : ∃ p, within z 120 = p := ⟨_, rfl⟩
    rw [hpp] at hp ⊢
    clear hpp rz
    repeat (first | (first | refine kl_move rfl rfl (.inl rfl) rfl rfl ?_ | refine kl_move rfl rfl (.inr rfl) rfl rfl ?_ | refine kl_const rfl rfl (.inl rfl) rfl ?_ | refine kl_const rfl rfl (.inr rfl) rfl ?_) | ((first | refine kl_step rfl rfl rfl fun K hK => ?_ | refine kl_step0 rfl rfl rfl fun K hK => ?_); go_simp; (try go_bits); (first | refine hK _ _ ?_ | refine hK _ ?_); clear hK K))
    refine kl_makeL (k := p) (Lay.start W) rfl rfl rfl rfl (by omega) rfl fun gm w3 hgm hb3 L3 => ?_
    have L3 := Lib.hid L3
    have HGM : Hid (x < gm) := by show _ < _; rw [hgm]; exact hD.out.xlt
    clear hb3 hgm
    repeat (first | refine kw_seq ?_ | refine kw_region ?_ | refine kl_nil ?_ | refine kq_then ?_ | refine kw_ift rfl ?_ | refine kw_iff rfl ?_ | refine kw_skip ?_ | refine kl_ung rfl rfl ?_ | refine kl_skipg rfl rfl rfl rfl ?_ | (first | refine kl_move rfl rfl (.inl rfl) rfl rfl ?_ | refine kl_move rfl rfl (.inr rfl) rfl rfl ?_ | refine kl_const rfl rfl (.inl rfl) rfl ?_ | refine kl_const rfl rfl (.inr rfl) rfl ?_) | ((first | refine kl_step rfl rfl rfl fun K hK => ?_ | refine kl_step0 rfl rfl rfl fun K hK => ?_); go_simp; (try go_bits); (first | refine hK _ _ ?_ | refine hK _ ?_); clear hK K))
    refine KW.less [0, 1, 5, 6, 7, 10, 11] ?_
    simp only [nrm, lk, Nat.reduceBEq, cond_true, cond_false]
    refine kw_block ?_
    refine kw_loop (fun mm L W2 => ∃ k bl, k ≤ p ∧ mm = p - k ∧ Hid (bl.length = p) ∧ Hid (Lay W W2 [(gm, (bv bl).toArray, 5)]) ∧ L = [(0, .slice A n c), (1, .slice (some ⟨bV, oV, none⟩) m d), (5, .pointer (some ⟨g, 0, none⟩)), (6, .pointer (some ⟨x, 0, none⟩)), (7, .int .i64 (i : Int)), (10, .slice (some ⟨gm, 0, none⟩) p p), (11, .int .i64 (k : Int))]) ⟨0, List.replicate p 0, by omega, rfl, by show _ = _; exact List.length_replicate, L3.out, rfl⟩ ?_
    clear L3
    rintro mm L W2 ⟨k, bl, hk, rfl, hbl, LL, rfl⟩
    by_cases hkp : k < p
    case pos =>
      have t1 : decide ((k : Int) < (p : Int)) = true := by rw [decide_eq_true_eq]; omega
      have t1n : decide (k < p) = true := decide_eq_true hkp
      have a0 : (0 : Int) ≤ k := by omega
      have a1 : (k : Int) < p := by omega
      obtain ⟨j, hj⟩ : ∃ j, i + k = j := ⟨_, rfl⟩
      have a2 : (i : Int) + (k : Int) = (j : Int) := by omega
      have a3 : (0 : Int) ≤ j := by omega
      have a4 : (j : Int) ≤ 200 := by omega
      have a5 := u8wrapN j (by omega)
      obtain ⟨u6, a6⟩ : ∃ u6 : UInt8, W2.cell? ⟨gm, k, none⟩ = some (.int .u8 (u6.toNat : Int)) := ⟨_, LL.out.get 0 rfl (j := k) (bv_get bl k (by rw [hbl.out]; exact hkp))⟩
      have a7 := LL.out.free 0 rfl k
      obtain ⟨nk, hnk⟩ : ∃ nk, k + 1 = nk := ⟨_, rfl⟩
      have a8 : (k : Int) + 1 = (nk : Int) := by omega
      have a9 : (0 : Int) ≤ nk := by omega
      have aa : (nk : Int) ≤ 200 := by omega
      have HK := Lib.hid (And.intro hnk hkp)
      clear hj hnk hkp
      repeat (first | refine kw_seq ?_ | refine kw_block ?_ | refine kw_region ?_ | refine kl_nil ?_ | refine kq_then ?_ | refine kq_block ?_ | refine kw_ift rfl ?_ | refine kw_skip ?_ | (first | refine kl_move rfl rfl (.inl rfl) rfl rfl ?_ | refine kl_move rfl rfl (.inr rfl) rfl rfl ?_ | refine kl_const rfl rfl (.inl rfl) rfl ?_ | refine kl_const rfl rfl (.inr rfl) rfl ?_) | ((first | refine kl_step rfl rfl rfl fun K hK => ?_ | refine kl_step0 rfl rfl rfl fun K hK => ?_); go_simp; (try go_bits); (first | refine hK _ _ ?_ | refine hK _ ?_); clear hK K))
      refine kq_again (p - nk) [0, 1, 5, 6, 7, 10, 11] (by have := HK.out; omega) ?_
      have hL2 := LL.out.cell 0 rfl k (.int .u8 ((u8n j).toNat : Int))
      rw [bv_set'] at hL2
      exact ⟨nk, bl.set k (u8n j), by have := HK.out; omega, rfl, by show _ = _; rw [List.length_set]; exact hbl.out, hL2, rfl⟩
    obtain rfl : k = p := by omega
    have t1 : decide ((k : Int) < (k : Int)) = false := by simp
    have t1n : decide (k < k) = false := by simp
    have hD2 := Lib.hid (hD.out.next LL.out.below)
    have hB2 := Lib.hid (LL.out.bs 0 rfl hbl.out)
    clear hD LL hkp hbl hk t1 t1n
    repeat (first | refine kw_seq ?_ | refine kw_region ?_ | refine kl_nil ?_ | refine kq_then ?_ | refine kw_iff rfl ?_ | refine kw_exit ?_ | refine kq_then_exit ?_ | (first | refine kl_move rfl rfl (.inl rfl) rfl rfl ?_ | refine kl_move rfl rfl (.inr rfl) rfl rfl ?_ | refine kl_const rfl rfl (.inl rfl) rfl ?_ | refine kl_const rfl rfl (.inr rfl) rfl ?_) | ((first | refine kl_step rfl rfl rfl fun K hK => ?_ | refine kl_step0 rfl rfl rfl fun K hK => ?_); go_simp; (try go_bits); (first | refine hK _ _ ?_ | refine hK _ ?_); clear hK K))
    refine kq_block_here rfl ?_
    refine kq_then ?_
    refine kw_cut (fun L W => ∃ gm m' bl, Hid (Duo w W g x f f) ∧ Hid (Bs W (some ⟨gm, 0, none⟩) m' bl) ∧ Hid (x < gm) ∧ m' ≤ 1030 ∧ L = [(0, .slice A n c), (1, .slice (some ⟨bV, oV, none⟩) m d), (5, .pointer (some ⟨g, 0, none⟩)), (6, .pointer (some ⟨x, 0, none⟩)), (7, .int .i64 (i : Int)), (10, .slice (some ⟨gm, 0, none⟩) m' m')]) ?_ ?_
    · have rz2 := hD2.out.keeps _ _ HZ.out
      obtain ⟨r3, hr3⟩ : ∃ r3, Int.tmod z 31 = r3 := ⟨_, rfl⟩
      have hr3b := tmod_bds z 31 (by omega)
      rw [hr3] at hr3b
      by_cases hr0 : r3 = 30
      case neg =>
        have q1 : (r3 == 30) = false := beq_eq_false_iff_ne.2 hr0
        clear hr0
        repeat (first | refine kw_seq ?_ | refine kw_region ?_ | refine kl_nil ?_ | refine kq_then ?_ | refine kw_ift rfl ?_ | refine kw_iff rfl ?_ | refine kw_skip ?_ | refine kl_ung rfl rfl ?_ | refine kl_skipg rfl rfl rfl rfl ?_ | (first | refine kl_move rfl rfl (.inl rfl) rfl rfl ?_ | refine kl_move rfl rfl (.inr rfl) rfl rfl ?_ | refine kl_const rfl rfl (.inl rfl) rfl ?_ | refine kl_const rfl rfl (.inr rfl) rfl ?_) | ((first | refine kl_step rfl rfl rfl fun K hK => ?_ | refine kl_step0 rfl rfl rfl fun K hK => ?_); go_simp; (try go_bits); (first | refine hK _ _ ?_ | refine hK _ ?_); clear hK K))
        refine kq_cut [0, 1, 5, 6, 7, 10] ?_
        exact ⟨gm, k, bl, hD2, hB2, HGM, by omega, rfl⟩
      subst hr0
      obtain ⟨D, hDD⟩ : ∃ D, Int.tdiv z 31 = D := ⟨_, rfl⟩
      have hDb := tdiv_bds z 31 hz (by omega)
      rw [show ((31 : Nat) : Int) = 31 from rfl, hDD] at hDb
      repeat (first | refine kw_seq ?_ | refine kw_region ?_ | refine kl_nil ?_ | refine kq_then ?_ | refine kw_ift rfl ?_ | refine kw_iff rfl ?_ | refine kw_skip ?_ | refine kl_ung rfl rfl ?_ | refine kl_skipg rfl rfl rfl rfl ?_ | (first | refine kl_move rfl rfl (.inl rfl) rfl rfl ?_ | refine kl_move rfl rfl (.inr rfl) rfl rfl ?_ | refine kl_const rfl rfl (.inl rfl) rfl ?_ | refine kl_const rfl rfl (.inr rfl) rfl ?_) | ((first | refine kl_step rfl rfl rfl fun K hK => ?_ | refine kl_step0 rfl rfl rfl fun K hK => ?_); go_simp; (try go_bits); (first | refine hK _ _ ?_ | refine hK _ ?_); clear hK K))
      refine kl_call rfl rfl rfl Try.func11 rfl (by kernel_rfl) rfl ?_
      refine Calls.mono (within_any D 14 14 _ rfl (by omega) (by omega)) ?_
      rintro e _ ⟨rfl, rfl⟩
      refine ⟨_, rfl, ?_⟩
      have ha := within_lt D 14 (by omega)
      obtain ⟨a, haa⟩ : ∃ a, within D 14 = a := ⟨_, rfl⟩
      rw [haa] at ha ⊢
      obtain ⟨N, hN⟩ : ∃ N, 1010 + a = N := ⟨_, rfl⟩
      have b1 : (1010 : Int) + (a : Int) = (N : Int) := by omega
      have b2 : (0 : Int) ≤ N := by omega
      have b3 : (N : Int) ≤ 1030 := by omega
      have b4 : N ≤ 1030 := by omega
      clear haa hDD rz2 hN
      repeat (first | (first | refine kl_move rfl rfl (.inl rfl) rfl rfl ?_ | refine kl_move rfl rfl (.inr rfl) rfl rfl ?_ | refine kl_const rfl rfl (.inl rfl) rfl ?_ | refine kl_const rfl rfl (.inr rfl) rfl ?_) | ((first | refine kl_step rfl rfl rfl fun K hK => ?_ | refine kl_step0 rfl rfl rfl fun K hK => ?_); go_simp; (try go_bits); (first | refine hK _ _ ?_ | refine hK _ ?_); clear hK K))
      refine kl_makeL (k := N) (Lay.start W2) rfl rfl rfl rfl (by omega) rfl fun gn w5 hgn hb5 L5 => ?_
      have hD5 := Lib.hid (hD2.out.next hb5)
      have hB5 := Lib.hid (L5.bs 0 rfl (n := N) List.length_replicate)
      have HGN : Hid (x < gn) := by show _ < _; rw [hgn]; exact hD2.out.xlt
      clear hb5 L5 hgn
      repeat (first | refine kl_nil ?_ | (first | refine kl_move rfl rfl (.inl rfl) rfl rfl ?_ | refine kl_move rfl rfl (.inr rfl) rfl rfl ?_ | refine kl_const rfl rfl (.inl rfl) rfl ?_ | refine kl_const rfl rfl (.inr rfl) rfl ?_) | ((first | refine kl_step rfl rfl rfl fun K hK => ?_ | refine kl_step0 rfl rfl rfl fun K hK => ?_); go_simp; (try go_bits); (first | refine hK _ _ ?_ | refine hK _ ?_); clear hK K))
      refine kq_cut [0, 1, 5, 6, 7, 10] ?_
      exact ⟨gn, N, _, hD5, hB5, HGN, b4, rfl⟩
    · clear hD2 hB2 HGM
      rintro L W ⟨gb, mb, bb, hD, hB, HGB, hmb, rfl⟩
      have rz := hD.out.keeps _ _ HZ.out
      obtain ⟨D, hDD⟩ : ∃ D, Int.tdiv z 7 = D := ⟨_, rfl⟩
      have hDb := tdiv_bds z 7 hz (by omega)
      rw [show ((7 : Nat) : Int) = 7 from rfl, hDD] at hDb
      repeat (first | refine kw_seq ?_ | refine kw_region ?_ | refine kl_nil ?_ | refine kq_then ?_ | refine kw_ift rfl ?_ | refine kw_iff rfl ?_ | refine kw_skip ?_ | refine kl_ung rfl rfl ?_ | refine kl_skipg rfl rfl rfl rfl ?_ | (first | refine kl_move rfl rfl (.inl rfl) rfl rfl ?_ | refine kl_move rfl rfl (.inr rfl) rfl rfl ?_ | refine kl_const rfl rfl (.inl rfl) rfl ?_ | refine kl_const rfl rfl (.inr rfl) rfl ?_) | ((first | refine kl_step rfl rfl rfl fun K hK => ?_ | refine kl_step0 rfl rfl rfl fun K hK => ?_); go_simp; (try go_bits); (first | refine hK _ _ ?_ | refine hK _ ?_); clear hK K))
      refine kl_call rfl rfl rfl Try.func11 rfl (by kernel_rfl) rfl ?_
      refine Calls.mono (within_any D 7 7 _ rfl (by omega) (by omega)) ?_
      rintro e _ ⟨rfl, rfl⟩
      refine ⟨_, rfl, ?_⟩
      have hs := within_lt D 7 (by omega)
      obtain ⟨s, hss⟩ : ∃ s, within D 7 = s := ⟨_, rfl⟩
      rw [hss] at hs ⊢
      clear hss hDD rz
      obtain ⟨ea, f2, hap⟩ : ∃ ea f2, appendP f (s : Int) bb = (ea, f2) := ⟨_, _, rfl⟩
      have HE := Lib.hid hap
      clear hap
      repeat (first | refine kw_seq ?_ | refine kw_region ?_ | refine kl_nil ?_ | refine kq_then ?_ | refine kw_ift rfl ?_ | refine kw_iff rfl ?_ | refine kw_skip ?_ | refine kl_ung rfl rfl ?_ | refine kl_skipg rfl rfl rfl rfl ?_ | (first | refine kl_move rfl rfl (.inl rfl) rfl rfl ?_ | refine kl_move rfl rfl (.inr rfl) rfl rfl ?_ | refine kl_const rfl rfl (.inl rfl) rfl ?_ | refine kl_const rfl rfl (.inr rfl) rfl ?_) | ((first | refine kl_step rfl rfl rfl fun K hK => ?_ | refine kl_step0 rfl rfl rfl fun K hK => ?_); go_simp; (try go_bits); (first | refine hK _ _ ?_ | refine hK _ ?_); clear hK K))
      refine kl_call rfl rfl rfl Try.func15 rfl (by kernel_rfl) rfl ?_
      refine Calls.mono (append_any (NeQ g x) g neq_g f (s : Int) _ mb mb bb W hD.out.fs (by omega) hB.out (Nat.le_refl _) (by omega)) ?_
      rintro e w4 ⟨rfl, hf4, hg4⟩
      refine ⟨_, rfl, ?_⟩
      have hD4 := Lib.hid (hD.out.fst hf4 hg4)
      have hB4 := Lib.hid (hB.out.grownKeep0 hg4 fun _ => away_new (W := W) (by have := HGB.out; have := hgt.out; omega))
      rw [HE.out] at hD4 ⊢
      dsimp only at hD4 ⊢
      clear hD hB hf4 hg4
      repeat (first | refine kw_seq ?_ | refine kw_region ?_ | refine kl_nil ?_ | refine kq_then ?_ | refine kw_ift rfl ?_ | refine kw_iff rfl ?_ | refine kw_skip ?_ | refine kl_ung rfl rfl ?_ | refine kl_skipg rfl rfl rfl rfl ?_ | (first | refine kl_move rfl rfl (.inl rfl) rfl rfl ?_ | refine kl_move rfl rfl (.inr rfl) rfl rfl ?_ | refine kl_const rfl rfl (.inl rfl) rfl ?_ | refine kl_const rfl rfl (.inr rfl) rfl ?_) | ((first | refine kl_step rfl rfl rfl fun K hK => ?_ | refine kl_step0 rfl rfl rfl fun K hK => ?_); go_simp; (try go_bits); (first | refine hK _ _ ?_ | refine hK _ ?_); clear hK K))
      refine kl_call rfl rfl rfl Try.func22 rfl (by kernel_rfl) rfl ?_
      refine Calls.mono (appendR_any (NeQ g x) x neq_x f (s : Int) _ mb mb bb w4 hD4.out.rf (by omega) hB4.out (Nat.le_refl _) (by omega)) ?_
      rintro e w5 ⟨rfl, hf5, hg5⟩
      refine ⟨_, rfl, ?_⟩
      have hD5 := Lib.hid (hD4.out.snd hf5 hg5)
      rw [HE.out] at hD5 ⊢
      dsimp only at hD5 ⊢
      clear hD4 hB4 hf5 hg5
      have q1 : (ea != ea) = false := by simp
      repeat (first | refine kw_seq ?_ | refine kw_region ?_ | refine kl_nil ?_ | refine kq_then ?_ | refine kw_ift rfl ?_ | refine kw_iff rfl ?_ | refine kw_skip ?_ | refine kl_ung rfl rfl ?_ | refine kl_skipg rfl rfl rfl rfl ?_ | (first | refine kl_move rfl rfl (.inl rfl) rfl rfl ?_ | refine kl_move rfl rfl (.inr rfl) rfl rfl ?_ | refine kl_const rfl rfl (.inl rfl) rfl ?_ | refine kl_const rfl rfl (.inr rfl) rfl ?_) | ((first | refine kl_step rfl rfl rfl fun K hK => ?_ | refine kl_step0 rfl rfl rfl fun K hK => ?_); go_simp; (try go_bits); (first | refine hK _ _ ?_ | refine hK _ ?_); clear hK K))
      refine kl_call rfl rfl rfl Try.func30 rfl (by kernel_rfl) rfl ?_
      refine Calls.mono (same_any (NeQ g x) (NeQ g x) g x f2 w5 hD5.out.fs hD5.out.rf) ?_
      rintro e w6 ⟨rfl, hb6⟩
      refine ⟨_, rfl, ?_⟩
      have hD6 := Lib.hid (hD5.out.next hb6)
      clear hD5 hb6 q1
      repeat (first | refine kw_seq ?_ | refine kw_region ?_ | refine kl_nil ?_ | refine kq_then ?_ | refine kw_ift rfl ?_ | refine kw_iff rfl ?_ | refine kw_skip ?_ | refine kl_ung rfl rfl ?_ | refine kl_skipg rfl rfl rfl rfl ?_ | (first | refine kl_move rfl rfl (.inl rfl) rfl rfl ?_ | refine kl_move rfl rfl (.inr rfl) rfl rfl ?_ | refine kl_const rfl rfl (.inl rfl) rfl ?_ | refine kl_const rfl rfl (.inr rfl) rfl ?_) | ((first | refine kl_step rfl rfl rfl fun K hK => ?_ | refine kl_step0 rfl rfl rfl fun K hK => ?_); go_simp; (try go_bits); (first | refine hK _ _ ?_ | refine hK _ ?_); clear hK K))
      refine KW.less [0, 1, 5, 6, 7, 13] ?_
      simp only [nrm, lk, Nat.reduceBEq, cond_true, cond_false]
      refine kw_block ?_
      refine kw_loop (fun mm L W => ∃ t : Int, -1 ≤ t ∧ t ≤ 7 ∧ mm = (7 - t).toNat ∧ Hid (Duo w W g x f2 f2) ∧ L = [(0, .slice A n c), (1, .slice (some ⟨bV, oV, none⟩) m d), (5, .pointer (some ⟨g, 0, none⟩)), (6, .pointer (some ⟨x, 0, none⟩)), (7, .int .i64 (i : Int)), (13, .int .i64 t)]) ⟨-1, by omega, by omega, rfl, hD6, rfl⟩ ?_
      clear hD6
      rintro mm L W3 ⟨t, ht0, ht7, rfl, hD, rfl⟩
      by_cases hlt : t < 7
      case neg =>
        have q2 : decide (t < 7) = false := decide_eq_false hlt
        clear hlt
        repeat (first | refine kw_seq ?_ | refine kw_block ?_ | refine kw_region ?_ | refine kl_nil ?_ | refine kq_then ?_ | refine kq_block ?_ | refine kw_iff rfl ?_ | refine kw_exit ?_ | refine kq_then_exit ?_ | refine kq_block_here rfl ?_ | refine kq_block_far rfl ?_ | refine kw_skip ?_ | (first | refine kl_move rfl rfl (.inl rfl) rfl rfl ?_ | refine kl_move rfl rfl (.inr rfl) rfl rfl ?_ | refine kl_const rfl rfl (.inl rfl) rfl ?_ | refine kl_const rfl rfl (.inr rfl) rfl ?_) | ((first | refine kl_step rfl rfl rfl fun K hK => ?_ | refine kl_step0 rfl rfl rfl fun K hK => ?_); go_simp; (try go_bits); (first | refine hK _ _ ?_ | refine hK _ ?_); clear hK K))
        refine kq_again (60 - i1) [0, 1, 5, 6, 7] (by have := HI.out; omega) ?_
        exact ⟨i1, f2, by have := HI.out; omega, by have := HI.out; omega, rfl, hD, rfl⟩
      have q2 : decide (t < 7) = true := decide_eq_true hlt
      repeat (first | refine kw_seq ?_ | refine kw_block ?_ | refine kw_region ?_ | refine kl_nil ?_ | refine kq_then ?_ | refine kw_ift rfl ?_ | refine kw_skip ?_ | (first | refine kl_move rfl rfl (.inl rfl) rfl rfl ?_ | refine kl_move rfl rfl (.inr rfl) rfl rfl ?_ | refine kl_const rfl rfl (.inl rfl) rfl ?_ | refine kl_const rfl rfl (.inr rfl) rfl ?_) | ((first | refine kl_step rfl rfl rfl fun K hK => ?_ | refine kl_step0 rfl rfl rfl fun K hK => ?_); go_simp; (try go_bits); (first | refine hK _ _ ?_ | refine hK _ ?_); clear hK K))
      refine kl_call rfl rfl rfl Try.func16 rfl (by kernel_rfl) rfl ?_
      refine Calls.mono (load_any (NeQ g x) g f2 t W3 hD.out.fs) ?_
      rintro e w7 ⟨A2, n2, c2, rfl, hp2, hn2, hc2, hb7⟩
      refine ⟨_, rfl, ?_⟩
      have hD7 := Lib.hid (hD.out.next hb7)
      clear hD hb7
      repeat (first | refine kw_seq ?_ | refine kw_region ?_ | refine kl_nil ?_ | refine kq_then ?_ | refine kw_ift rfl ?_ | refine kw_iff rfl ?_ | refine kw_skip ?_ | refine kl_ung rfl rfl ?_ | refine kl_skipg rfl rfl rfl rfl ?_ | (first | refine kl_move rfl rfl (.inl rfl) rfl rfl ?_ | refine kl_move rfl rfl (.inr rfl) rfl rfl ?_ | refine kl_const rfl rfl (.inl rfl) rfl ?_ | refine kl_const rfl rfl (.inr rfl) rfl ?_) | ((first | refine kl_step rfl rfl rfl fun K hK => ?_ | refine kl_step0 rfl rfl rfl fun K hK => ?_); go_simp; (try go_bits); (first | refine hK _ _ ?_ | refine hK _ ?_); clear hK K))
      refine kl_call rfl rfl rfl Try.func27 rfl (by kernel_rfl) rfl ?_
      refine Calls.mono (loadR_any (NeQ g x) x f2 t w7 hD7.out.rf (by omega)) ?_
      rintro e w8 ⟨A3, n3, c3, rfl, hp3, hn3, hc3, hb8⟩
      refine ⟨_, rfl, ?_⟩
      have hD8 := Lib.hid (hD7.out.next hb8)
      have hp2 := hp2.keep (Keeps.of_below hb8)
      clear hD7 hb8
      obtain ⟨R, hR⟩ : ∃ R, (loadR (readF f2 t)).1 = R := ⟨_, rfl⟩
      obtain ⟨F, hF⟩ : ∃ F, (loadR (readF f2 t)).2 = F := ⟨_, rfl⟩
      have hcnt := loadR_cnt (readF f2 t)
      rw [hR] at hp2 hp3 hcnt
      rw [hF]
      clear hR hF
      have hl2 := hp2.len
      have hl3 := hp3.len
      obtain rfl : n3 = n2 := by omega
      have v0 : ((F : Int) != (F : Int)) = false := by simp
      repeat (first | refine kw_seq ?_ | refine kw_region ?_ | refine kl_nil ?_ | refine kq_then ?_ | refine kw_ift rfl ?_ | refine kw_iff rfl ?_ | refine kw_skip ?_ | refine kl_ung rfl rfl ?_ | refine kl_skipg rfl rfl rfl rfl ?_ | (first | refine kl_move rfl rfl (.inl rfl) rfl rfl ?_ | refine kl_move rfl rfl (.inr rfl) rfl rfl ?_ | refine kl_const rfl rfl (.inl rfl) rfl ?_ | refine kl_const rfl rfl (.inr rfl) rfl ?_) | ((first | refine kl_step rfl rfl rfl fun K hK => ?_ | refine kl_step0 rfl rfl rfl fun K hK => ?_); go_simp; (try go_bits); (first | refine hK _ _ ?_ | refine hK _ ?_); clear hK K))
      refine kl_call rfl rfl rfl Try.func17 rfl (by kernel_rfl) rfl ?_
      refine Calls.mono (rows5_any A2 A3 n3 c2 n3 c3 R R w8 hp2 hp3 (by omega)) ?_
      rintro e w9 ⟨rfl, hb9⟩
      refine ⟨_, rfl, ?_⟩
      have hD9 := Lib.hid (hD8.out.next hb9)
      clear hD8 hb9 hp2 hp3
      rw [decide_eq_true (show R = R from rfl)]
      obtain ⟨t1, ht1⟩ : ∃ t1, t + 1 = t1 := ⟨_, rfl⟩
      have q3 : -9223372036854775808 ≤ t1 := by omega
      have q4 : t1 ≤ 7 := by omega
      have HT := Lib.hid (And.intro ht1 hlt)
      repeat (first | refine kw_seq ?_ | refine kw_region ?_ | refine kl_nil ?_ | refine kq_then ?_ | refine kq_block ?_ | refine kw_iff rfl ?_ | refine kw_skip ?_ | refine kl_ung rfl rfl ?_ | (first | refine kl_move rfl rfl (.inl rfl) rfl rfl ?_ | refine kl_move rfl rfl (.inr rfl) rfl rfl ?_ | refine kl_const rfl rfl (.inl rfl) rfl ?_ | refine kl_const rfl rfl (.inr rfl) rfl ?_) | ((first | refine kl_step rfl rfl rfl fun K hK => ?_ | refine kl_step0 rfl rfl rfl fun K hK => ?_); go_simp; (try go_bits); (first | refine hK _ _ ?_ | refine hK _ ?_); clear hK K))
      refine kq_again ((7 - t1).toNat) [0, 1, 5, 6, 7, 13] (by have := HT.out; omega) ?_
      exact ⟨t1, by have := HT.out; omega, q4, rfl, hD9, rfl⟩
end Go.Proofs.Ytblidiecahpekaa
