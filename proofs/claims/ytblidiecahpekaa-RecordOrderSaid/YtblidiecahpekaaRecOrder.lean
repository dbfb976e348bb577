/- RecordOrder: the walk. -/
import Derived.Test.YtblidiecahpekaaRecOrdP
import Derived.Test.YtblidiecahpekaaKnC
import Derived.Test.YtblidiecahpekaaKnT
import Derived.Test.YtblidiecahpekaaRecSmall
set_option linter.unusedVariables false
set_option linter.unusedSimpArgs false
namespace Go.Proofs.Ytblidiecahpekaa
open Go.RowKit
attribute [local go_sem] ev_tmp ev_const ev_func ev_global lk_hit lk_miss uponK_value uponK_skip look_tmp look_const look_global look_func valP_value
theorem free_of {ws : List (List (List UInt8))} {fr : List Nat} (h : fr = ws.map usedP) (s : Nat) : fr.getD s 0 = usedP (ws.getD s []) := by
  subst h
  simp only [List.getD_eq_getElem?_getD, List.getElem?_map]
  cases ws[s]? <;> simp [usedP]
theorem free_set {ws : List (List (List UInt8))} {fr : List Nat} (h : fr = ws.map usedP) (s : Nat) (b : List UInt8) : fr.set s (usedP (ws.getD s []) + pagesN b.length) = (ws.set s (ws.getD s [] ++ [b])).map usedP := by
  subst h
  rw [List.map_set, usedP_snoc]
theorem len_used : ∀ l : List (List UInt8), l.length ≤ usedP l
  | [] => Nat.le_refl _
  | x :: l => by have := len_used l; have := pagesN_pos x.length; rw [usedP_cons, List.length_cons]; omega
theorem OrdM.start {w0 w : World} {g bw bf : Nat} {z1 z2 : Array Value} (hb : Below w0.heap.size w0 w) (hF : FS NoB w g newF) (hg : w0.heap.size ≤ g) (h1 : g < bw) (h2 : bw < bf) (hw : w.heap[bw]? = some (.cells z1 30 (0, 0))) (hf : w.heap[bf]? = some (.cells z2 31 (0, 0)))
    (e1 : z1 = (List.replicate 6 (Value.slice none 0 0)).toArray) (e2 : z2 = (intsV (List.replicate 6 0)).toArray) : OrdM w0 w w.heap.size g bw bf newF (List.replicate 6 (.slice none 0 0)) ws0 (List.replicate 6 0) := by
  subst e1
  subst e2
  have hv : ∀ s, s < 6 → (List.replicate 6 (Value.slice none 0 0)).getD s undef = .slice none 0 0 := fun s hs => by
    rcases (by omega : s = 0 ∨ s = 1 ∨ s = 2 ∨ s = 3 ∨ s = 4 ∨ s = 5) with rfl | rfl | rfl | rfl | rfl | rfl <;> rfl
  have hws : ∀ s, s < 6 → ws0.getD s [] = [] := fun s hs => by
    rcases (by omega : s = 0 ∨ s = 1 ∨ s = 2 ∨ s = 3 ∨ s = 4 ∨ s = 5) with rfl | rfl | rfl | rfl | rfl | rfl <;> rfl
  refine ⟨hb, hF, hw, hf, rfl, rfl, rfl, fun s hs => ⟨0, [], ?_, ?_⟩, fun s t hs _ _ => .inl ?_, ⟨hg, h1, h2, (Array.getElem?_eq_some_iff.1 hf).1, Nat.le_refl _⟩⟩
  · rw [hv s hs]; exact World.ownsRow_nil _ _ _ _
  · rw [hws s hs]; exact PsY.nil _
  · rw [hv s hs]; rfl
set_option maxRecDepth 100000 in
set_option maxHeartbeats 8000000 in
theorem recordOrder_top (V : Option Addr) (m d : Nat) (zs : List Int) (w : World) (hV : Vs w V m (zs.map (Value.int .i64))) (hmd : m ≤ d) (hd : d ≤ 140737488351232) (hzb : ∀ z ∈ zs, -9223372036854775808 ≤ z ∧ z ≤ 9223372036854775807) :
    Calls Try.prog 4 #[.slice V m d] w fun e w' => e = .returned (.bool true) ∧ Below w.heap.size w w' := by
  refine calls_kw Try.func4 rfl Try.ntmps4 rfl [(0, .slice V m d)] rfl ?_
  repeat (first | refine kw_seq ?_ | refine kw_block ?_ | refine kw_skip ?_ | refine kw_region ?_ | refine kl_nil ?_ | refine kq_then ?_ | refine kq_block ?_ | refine kw_exit ?_ | refine kq_then_exit ?_ | refine kq_block_here rfl ?_ | refine kq_block_far rfl ?_ | refine kq_again_exit ?_ | refine kw_ret ?_ | refine kq_then_ret ?_ | refine kq_block_ret ?_ | refine kq_again_ret ?_ | refine kw_ift rfl ?_ | refine kw_iff rfl ?_ | refine kl_ung rfl rfl ?_ | refine kl_skipg rfl rfl rfl rfl ?_ | refine kl_skipg0 rfl rfl rfl ?_ | (first | refine kl_move rfl rfl (.inl rfl) rfl rfl ?_ | refine kl_move rfl rfl (.inr rfl) rfl rfl ?_ | refine kl_const rfl rfl (.inl rfl) rfl ?_ | refine kl_const rfl rfl (.inr rfl) rfl ?_) | ((first | refine kl_step rfl rfl rfl fun K hK => ?_ | refine kl_step0 rfl rfl rfl fun K hK => ?_); go_simp; (try go_bits); (first | refine hK _ _ ?_ | refine hK _ ?_); clear hK K))
  refine kl_call rfl rfl rfl Try.func10 rfl (by kernel_rfl) rfl ?_
  refine Calls.mono (known5_any w) ?_
  rintro e w0 ⟨rfl, hb0⟩
  refine ⟨_, rfl, ?_⟩
  repeat (first | refine kw_seq ?_ | refine kw_block ?_ | refine kw_skip ?_ | refine kw_region ?_ | refine kl_nil ?_ | refine kq_then ?_ | refine kq_block ?_ | refine kw_exit ?_ | refine kq_then_exit ?_ | refine kq_block_here rfl ?_ | refine kq_block_far rfl ?_ | refine kq_again_exit ?_ | refine kw_ret ?_ | refine kq_then_ret ?_ | refine kq_block_ret ?_ | refine kq_again_ret ?_ | refine kw_ift rfl ?_ | refine kw_iff rfl ?_ | refine kl_ung rfl rfl ?_ | refine kl_skipg rfl rfl rfl rfl ?_ | refine kl_skipg0 rfl rfl rfl ?_ | (first | refine kl_move rfl rfl (.inl rfl) rfl rfl ?_ | refine kl_move rfl rfl (.inr rfl) rfl rfl ?_ | refine kl_const rfl rfl (.inl rfl) rfl ?_ | refine kl_const rfl rfl (.inr rfl) rfl ?_) | ((first | refine kl_step rfl rfl rfl fun K hK => ?_ | refine kl_step0 rfl rfl rfl fun K hK => ?_); go_simp; (try go_bits); (first | refine hK _ _ ?_ | refine hK _ ?_); clear hK K))
  refine kl_call rfl rfl rfl Try.func14 rfl (by kernel_rfl) rfl ?_
  refine Calls.mono (new_any w0) ?_
  rintro e w1 ⟨rfl, hf1, hb1⟩
  refine ⟨_, rfl, ?_⟩
  have hb11 := below_then hb0 hb1 hb0.size
  have hgl := hf1.lt
  have L1 := Lay.start w1
  obtain ⟨g, hg⟩ : ∃ g, w0.heap.size = g := ⟨_, rfl⟩
  have hg0 : w.heap.size ≤ g := by have := hb0.size; omega
  rw [hg] at hf1 hgl ⊢
  clear hg hb1
  repeat (first | refine kw_seq ?_ | refine kw_region ?_ | refine kl_nil ?_ | refine kq_then ?_ | (first | refine kl_move rfl rfl (.inl rfl) rfl rfl ?_ | refine kl_move rfl rfl (.inr rfl) rfl rfl ?_ | refine kl_const rfl rfl (.inl rfl) rfl ?_ | refine kl_const rfl rfl (.inr rfl) rfl ?_) | ((first | refine kl_step rfl rfl rfl fun K hK => ?_ | refine kl_step0 rfl rfl rfl fun K hK => ?_); go_simp; (try go_bits); (first | refine hK _ _ ?_ | refine hK _ ?_); clear hK K))
  refine kl_zeroL (z := #[.slice none 0 0, .slice none 0 0, .slice none 0 0, .slice none 0 0, .slice none 0 0, .slice none 0 0]) L1 rfl rfl rfl rfl rfl fun bw w2 hbw hb2 L2 => ?_
  repeat (first | refine kw_seq ?_ | refine kw_region ?_ | refine kl_nil ?_ | refine kq_then ?_ | (first | refine kl_move rfl rfl (.inl rfl) rfl rfl ?_ | refine kl_move rfl rfl (.inr rfl) rfl rfl ?_ | refine kl_const rfl rfl (.inl rfl) rfl ?_ | refine kl_const rfl rfl (.inr rfl) rfl ?_) | ((first | refine kl_step rfl rfl rfl fun K hK => ?_ | refine kl_step0 rfl rfl rfl fun K hK => ?_); go_simp; (try go_bits); (first | refine hK _ _ ?_ | refine hK _ ?_); clear hK K))
  refine kl_zeroL (z := #[.int .i64 0, .int .i64 0, .int .i64 0, .int .i64 0, .int .i64 0, .int .i64 0]) L2 rfl rfl rfl rfl rfl fun bf w3 hbf hb3 L3 => ?_
  have hO0 := Lib.hid (OrdM.start (w0 := w) (below_then (below_then hb11 hb2 hb11.size) hb3 (Nat.le_trans hb11.size hb2.size)) ((hf1.below hb2).below hb3) hg0 (by omega) (by rw [hbw, hbf]; exact L2.lt 0 rfl |> fun h => by rw [hbw] at h; exact h) (L3.at_ 1 rfl) (L3.at_ 0 rfl) rfl rfl)
  clear hf1 hb11 hb2 hb3 L1 L2 L3 hbw hbf hgl hg0 hb0
  obtain ⟨B, hB⟩ : ∃ B, w3.heap.size = B := ⟨_, rfl⟩
  rw [hB] at hO0
  clear hB
  refine kl_nil ?_
  refine kq_then ?_
  refine kw_cut (fun L W => ∃ f vs ws fr, Hid (OrdM w W B g bw bf f vs ws fr) ∧ Hid (OrdF f ws) ∧ Hid (fr = ws.map usedP) ∧ L = [(3, .pointer (some ⟨g, 0, none⟩)), (4, .pointer (some ⟨bw, 0, none⟩)), (5, .pointer (some ⟨bf, 0, none⟩))]) ?_ ?_
  · repeat (first | refine kw_seq ?_ | refine kw_region ?_ | refine kl_nil ?_ | refine kq_then ?_ | (first | refine kl_move rfl rfl (.inl rfl) rfl rfl ?_ | refine kl_move rfl rfl (.inr rfl) rfl rfl ?_ | refine kl_const rfl rfl (.inl rfl) rfl ?_ | refine kl_const rfl rfl (.inr rfl) rfl ?_) | ((first | refine kl_step rfl rfl rfl fun K hK => ?_ | refine kl_step0 rfl rfl rfl fun K hK => ?_); go_simp; (try go_bits); (first | refine hK _ _ ?_ | refine hK _ ?_); clear hK K))
    refine KW.less [0, 3, 4, 5, 6] ?_
    simp only [nrm, lk, Nat.reduceBEq, cond_true, cond_false]
    refine kw_block ?_
    refine kw_loop (fun mm L W => ∃ i f vs ws fr, i ≤ m ∧ i ≤ 40 ∧ mm = 40 - i ∧ Hid (OrdM w W B g bw bf f vs ws fr) ∧ Hid (OrdF f ws) ∧ Hid (fr = ws.map usedP) ∧ L = [(0, .slice V m d), (3, .pointer (some ⟨g, 0, none⟩)), (4, .pointer (some ⟨bw, 0, none⟩)), (5, .pointer (some ⟨bf, 0, none⟩)), (6, .int .i64 (i : Int))]) ⟨0, newF, _, _, _, by omega, by omega, rfl, hO0, ord_new, by show _ = _; rfl, rfl⟩ ?_
    clear hO0
    rintro mm L W ⟨i, f, vs, ws, fr, him, hi40, rfl, hO, hF, hfr, rfl⟩
    by_cases hlt : i < m ∧ i < 40
    case neg =>
      by_cases hlm : i < m
      · have hl6 : ¬ i < 40 := fun h => hlt ⟨hlm, h⟩
        have t1 : decide ((i : Int) < (m : Int)) = true := by rw [decide_eq_true_eq]; omega
        have t1n : decide (i < m) = true := decide_eq_true hlm
        have t2 : decide ((i : Int) < 40) = false := by rw [decide_eq_false_iff_not]; omega
        have t2n : decide (i < 40) = false := decide_eq_false hl6
        clear hlt hlm hl6
        repeat (first | refine kw_seq ?_ | refine kw_region ?_ | refine kl_nil ?_ | refine kq_then ?_ | refine kw_iff rfl ?_ | refine kw_skip ?_ | refine kw_exit ?_ | refine kq_then_exit ?_ | refine kq_block_here rfl ?_ | refine kl_ung rfl rfl ?_ | refine kl_skipg rfl rfl rfl rfl ?_ | (first | refine kl_move rfl rfl (.inl rfl) rfl rfl ?_ | refine kl_move rfl rfl (.inr rfl) rfl rfl ?_ | refine kl_const rfl rfl (.inl rfl) rfl ?_ | refine kl_const rfl rfl (.inr rfl) rfl ?_) | ((first | refine kl_step rfl rfl rfl fun K hK => ?_ | refine kl_step0 rfl rfl rfl fun K hK => ?_); go_simp; (try go_bits); (first | refine hK _ _ ?_ | refine hK _ ?_); clear hK K))
        refine kq_cut [3, 4, 5] ?_
        exact ⟨f, vs, ws, fr, hO, hF, hfr, rfl⟩
      · have t1 : decide ((i : Int) < (m : Int)) = false := by rw [decide_eq_false_iff_not]; omega
        have t1n : decide (i < m) = false := decide_eq_false hlm
        clear hlt hlm
        repeat (first | refine kw_seq ?_ | refine kw_region ?_ | refine kl_nil ?_ | refine kq_then ?_ | refine kw_iff rfl ?_ | refine kw_skip ?_ | refine kw_exit ?_ | refine kq_then_exit ?_ | refine kq_block_here rfl ?_ | refine kl_ung rfl rfl ?_ | refine kl_skipg rfl rfl rfl rfl ?_ | (first | refine kl_move rfl rfl (.inl rfl) rfl rfl ?_ | refine kl_move rfl rfl (.inr rfl) rfl rfl ?_ | refine kl_const rfl rfl (.inl rfl) rfl ?_ | refine kl_const rfl rfl (.inr rfl) rfl ?_) | ((first | refine kl_step rfl rfl rfl fun K hK => ?_ | refine kl_step0 rfl rfl rfl fun K hK => ?_); go_simp; (try go_bits); (first | refine hK _ _ ?_ | refine hK _ ?_); clear hK K))
        refine kq_cut [3, 4, 5] ?_
        exact ⟨f, vs, ws, fr, hO, hF, hfr, rfl⟩
    obtain ⟨hlm, hl6⟩ := hlt
    have t1 : decide ((i : Int) < (m : Int)) = true := by rw [decide_eq_true_eq]; omega
    have t1n : decide (i < m) = true := decide_eq_true hlm
    have t2 : decide ((i : Int) < 40) = true := by rw [decide_eq_true_eq]; omega
    have t2n : decide (i < 40) = true := decide_eq_true hl6
    have u0 : (0 : Int) ≤ i := by omega
    have u1 : (i : Int) < m := by omega
    obtain ⟨i1, hi1⟩ : ∃ i1, i + 1 = i1 := ⟨_, rfl⟩
    have k1 : (i : Int) + 1 = (i1 : Int) := by omega
    have k2 : (0 : Int) ≤ i1 := by omega
    have k3 : (i1 : Int) ≤ 64 := by omega
    have HI := Lib.hid (And.intro hi1 (And.intro hlm hl6))
    obtain ⟨bV, oV, vz, rfl, hcz, _, hgz⟩ := hV.next hlm
    have hgz2 := hgz.out
    rw [List.getElem?_map, Option.map_eq_some_iff] at hgz2
    obtain ⟨z, hz1, rfl⟩ := hgz2
    have hz := hzb z (List.mem_of_getElem? hz1)
    have rz0 := Keeps.of_below hO.out.bel _ _ hcz
    have rz := fun W' (h : Below W.heap.size W W') => Keeps.of_below h _ _ rz0
    clear hcz hz1 hgz hi1 rz0
    repeat (first | refine kw_seq ?_ | refine kw_block ?_ | refine kl_nil ?_ | refine kq_then ?_ | refine kw_region ?_ | refine kw_ift rfl ?_ | refine kw_skip ?_ | refine kl_ung rfl rfl ?_ | (first | refine kl_move rfl rfl (.inl rfl) rfl rfl ?_ | refine kl_move rfl rfl (.inr rfl) rfl rfl ?_ | refine kl_const rfl rfl (.inl rfl) rfl ?_ | refine kl_const rfl rfl (.inr rfl) rfl ?_) | ((first | refine kl_step rfl rfl rfl fun K hK => ?_ | refine kl_step0 rfl rfl rfl fun K hK => ?_); go_simp; (try go_bits); (first | refine hK _ _ ?_ | refine hK _ ?_); clear hK K))
    clear t1 t1n t2 t2n
    obtain ⟨D, hDD⟩ : ∃ D, Int.tdiv z 6 = D := ⟨_, rfl⟩
    have hDb := tdiv_bds z 6 hz (by omega)
    rw [show ((6 : Nat) : Int) = 6 from rfl, hDD] at hDb
    have hbd : Below W.heap.size W W.drew := (Below.refl _ _).drew
    refine kw_region_f (Below W.heap.size W) [true, true, true, true, false, true, true, true, true, true, false, true, true] (by kernel_rfl) (by kernel_rfl) hbd ?_
    have hO1 := Lib.hid (hO.out.next hbd)
    generalize W.drew = W1 at hbd hO1 ⊢
    repeat (first | refine kf_nil ?_ | refine kf_ung rfl rfl ?_ | refine kf_skipg rfl rfl rfl rfl ?_ | (first | refine kf_move rfl rfl (.inl rfl) rfl rfl ?_ | refine kf_move rfl rfl (.inr rfl) rfl rfl ?_ | refine kf_const rfl rfl (.inl rfl) rfl ?_ | refine kf_const rfl rfl (.inr rfl) rfl ?_) | (refine kf_val rfl rfl rfl ?_; apply Exists.intro; refine And.intro (fun W hW N hN => ?_) ?_; · (go_simp; (try go_bits); exact hN)))
    refine kf_ch ?_
    refine kl_call rfl rfl rfl Try.func11 rfl (by kernel_rfl) rfl ?_
    refine Calls.mono (within_any z 6 6 _ rfl (by omega) (by omega)) ?_
    rintro e _ ⟨rfl, rfl⟩
    have hs6 := within_lt z 6 (by omega)
    obtain ⟨s, hss⟩ : ∃ s, within z 6 = s := ⟨_, rfl⟩
    rw [hss] at hs6 ⊢
    clear hss
    refine ⟨_, rfl, ?_⟩
    refine kl_nil ?_
    refine kq_f hbd ?_
    repeat (first | refine kf_nil ?_ | refine kf_ung rfl rfl ?_ | refine kf_skipg rfl rfl rfl rfl ?_ | (first | refine kf_move rfl rfl (.inl rfl) rfl rfl ?_ | refine kf_move rfl rfl (.inr rfl) rfl rfl ?_ | refine kf_const rfl rfl (.inl rfl) rfl ?_ | refine kf_const rfl rfl (.inr rfl) rfl ?_) | (refine kf_val rfl rfl rfl ?_; apply Exists.intro; refine And.intro (fun W hW N hN => ?_) ?_; · (go_simp; (try go_bits); exact hN)))
    refine kf_ch ?_
    refine kl_call rfl rfl rfl Try.func11 rfl (by kernel_rfl) rfl ?_
    refine Calls.mono (within_any D 90 90 _ rfl (by omega) (by omega)) ?_
    rintro e _ ⟨rfl, rfl⟩
    have hp := within_lt D 90 (by omega)
    obtain ⟨p, hpp⟩ : ∃ p, within D 90 = p := ⟨_, rfl⟩
    rw [hpp] at hp ⊢
    clear hpp
    refine ⟨_, rfl, ?_⟩
    refine kl_nil ?_
    refine kq_f hbd ?_
    repeat (first | refine kf_nil ?_ | refine kf_ung rfl rfl ?_ | refine kf_skipg rfl rfl rfl rfl ?_ | (first | refine kf_move rfl rfl (.inl rfl) rfl rfl ?_ | refine kf_move rfl rfl (.inr rfl) rfl rfl ?_ | refine kf_const rfl rfl (.inl rfl) rfl ?_ | refine kf_const rfl rfl (.inr rfl) rfl ?_) | (refine kf_val rfl rfl rfl ?_; apply Exists.intro; refine And.intro (fun W hW N hN => ?_) ?_; · (go_simp; (try go_bits); exact hN)))
    refine kq_then ?_
    clear hO hbd rz hDD
    have hO := hO1
    clear hO1
    generalize W1 = W at hO ⊢
    repeat (first | refine kw_seq ?_ | refine kw_region ?_ | (first | refine kl_move rfl rfl (.inl rfl) rfl rfl ?_ | refine kl_move rfl rfl (.inr rfl) rfl rfl ?_ | refine kl_const rfl rfl (.inl rfl) rfl ?_ | refine kl_const rfl rfl (.inr rfl) rfl ?_) | ((first | refine kl_step rfl rfl rfl fun K hK => ?_ | refine kl_step0 rfl rfl rfl fun K hK => ?_); go_simp; (try go_bits); (first | refine hK _ _ ?_ | refine hK _ ?_); clear hK K))
    refine kl_makeL (k := p) (Lay.start W) rfl rfl rfl rfl (by omega) rfl fun gm w3 hgm hb3 L3 => ?_
    have L3 := Lib.hid L3
    clear hb3 hgm
    repeat (first | refine kw_seq ?_ | refine kw_region ?_ | refine kl_nil ?_ | refine kq_then ?_ | refine kw_ift rfl ?_ | refine kw_iff rfl ?_ | refine kw_skip ?_ | refine kl_ung rfl rfl ?_ | refine kl_skipg rfl rfl rfl rfl ?_ | (first | refine kl_move rfl rfl (.inl rfl) rfl rfl ?_ | refine kl_move rfl rfl (.inr rfl) rfl rfl ?_ | refine kl_const rfl rfl (.inl rfl) rfl ?_ | refine kl_const rfl rfl (.inr rfl) rfl ?_) | ((first | refine kl_step rfl rfl rfl fun K hK => ?_ | refine kl_step0 rfl rfl rfl fun K hK => ?_); go_simp; (try go_bits); (first | refine hK _ _ ?_ | refine hK _ ?_); clear hK K))
    refine KW.less [0, 3, 4, 5, 6, 7, 8, 9, 10] ?_
    simp only [nrm, lk, Nat.reduceBEq, cond_true, cond_false]
    refine kw_block ?_
    refine kw_loop (fun mm L W2 => ∃ k bl, k ≤ p ∧ mm = p - k ∧ Hid (bl.length = p) ∧ Hid (Lay W W2 [(gm, (bv bl).toArray, 5)]) ∧ L = [(0, .slice (some ⟨bV, oV, none⟩) m d), (3, .pointer (some ⟨g, 0, none⟩)), (4, .pointer (some ⟨bw, 0, none⟩)), (5, .pointer (some ⟨bf, 0, none⟩)), (6, .int .i64 (i : Int)), (7, .int .i64 (s : Int)), (8, .int .i64 (p : Int)), (9, .slice (some ⟨gm, 0, none⟩) p p), (10, .int .i64 (k : Int))]) ⟨0, List.replicate p 0, by omega, rfl, by show _ = _; exact List.length_replicate, L3.out, rfl⟩ ?_
    clear L3
    rintro mm L W2 ⟨k, bl, hk, rfl, hbl, LL, rfl⟩
    by_cases hkp : k < p
    case pos =>
      have t1 : decide ((k : Int) < (p : Int)) = true := by rw [decide_eq_true_eq]; omega
      have t1n : decide (k < p) = true := decide_eq_true hkp
      have a0 : (0 : Int) ≤ k := by omega
      have a1 : (k : Int) < p := by omega
      have a5 := u8wrapN i (by omega)
      obtain ⟨u6, a6⟩ : ∃ u6 : UInt8, W2.cell? ⟨gm, k, none⟩ = some (.int .u8 (u6.toNat : Int)) := ⟨_, LL.out.get 0 rfl (j := k) (bv_get bl k (by rw [hbl.out]; exact hkp))⟩
      have a7 := LL.out.free 0 rfl k
      obtain ⟨nk, hnk⟩ : ∃ nk, k + 1 = nk := ⟨_, rfl⟩
      have a8 : (k : Int) + 1 = (nk : Int) := by omega
      have a9 : (0 : Int) ≤ nk := by omega
      have aa : (nk : Int) ≤ 200 := by omega
      have HK := Lib.hid (And.intro hnk hkp)
      clear hnk hkp
      repeat (first | refine kw_seq ?_ | refine kw_block ?_ | refine kw_region ?_ | refine kl_nil ?_ | refine kq_then ?_ | refine kq_block ?_ | refine kw_ift rfl ?_ | refine kw_skip ?_ | (first | refine kl_move rfl rfl (.inl rfl) rfl rfl ?_ | refine kl_move rfl rfl (.inr rfl) rfl rfl ?_ | refine kl_const rfl rfl (.inl rfl) rfl ?_ | refine kl_const rfl rfl (.inr rfl) rfl ?_) | ((first | refine kl_step rfl rfl rfl fun K hK => ?_ | refine kl_step0 rfl rfl rfl fun K hK => ?_); go_simp; (try go_bits); (first | refine hK _ _ ?_ | refine hK _ ?_); clear hK K))
      refine kq_again (p - nk) [0, 3, 4, 5, 6, 7, 8, 9, 10] (by have := HK.out; omega) ?_
      have hL2 := LL.out.cell 0 rfl k (.int .u8 ((u8n i).toNat : Int))
      rw [bv_set'] at hL2
      exact ⟨nk, bl.set k (u8n i), by have := HK.out; omega, rfl, by show _ = _; rw [List.length_set]; exact hbl.out, hL2, rfl⟩
    obtain rfl : k = p := by omega
    have t1 : decide ((k : Int) < (k : Int)) = false := by simp
    have t1n : decide (k < k) = false := by simp
    have hO2 := Lib.hid (hO.out.next LL.out.below)
    have hB2 := Lib.hid (LL.out.bs 0 rfl hbl.out)
    have hT2 : Hid (TyB W2 (some ⟨gm, 0, none⟩)) := fun b o e => by injection e with e; injection e with e1 e2; subst e1; exact ⟨_, LL.out.at_ 0 rfl⟩
    clear LL hkp hk
    repeat (first | refine kw_seq ?_ | refine kw_region ?_ | refine kl_nil ?_ | refine kq_then ?_ | refine kw_iff rfl ?_ | refine kw_exit ?_ | refine kq_then_exit ?_ | (first | refine kl_move rfl rfl (.inl rfl) rfl rfl ?_ | refine kl_move rfl rfl (.inr rfl) rfl rfl ?_ | refine kl_const rfl rfl (.inl rfl) rfl ?_ | refine kl_const rfl rfl (.inr rfl) rfl ?_) | ((first | refine kl_step rfl rfl rfl fun K hK => ?_ | refine kl_step0 rfl rfl rfl fun K hK => ?_); go_simp; (try go_bits); (first | refine hK _ _ ?_ | refine hK _ ?_); clear hK K))
    refine kq_block_here rfl ?_
    refine kq_then ?_
    clear t1 t1n hO
    repeat (first | refine kw_seq ?_ | refine kw_region ?_ | refine kl_nil ?_ | refine kq_then ?_ | (first | refine kl_move rfl rfl (.inl rfl) rfl rfl ?_ | refine kl_move rfl rfl (.inr rfl) rfl rfl ?_ | refine kl_const rfl rfl (.inl rfl) rfl ?_ | refine kl_const rfl rfl (.inr rfl) rfl ?_) | ((first | refine kl_step rfl rfl rfl fun K hK => ?_ | refine kl_step0 rfl rfl rfl fun K hK => ?_); go_simp; (try go_bits); (first | refine hK _ _ ?_ | refine hK _ ?_); clear hK K))
    obtain ⟨ea, f2, hap⟩ : ∃ ea f2, appendP f (s : Int) bl = (ea, f2) := ⟨_, _, rfl⟩
    have HE := Lib.hid hap
    refine kl_call rfl rfl rfl Try.func15 rfl (by kernel_rfl) rfl ?_
    refine Calls.mono (append_any NoB g (noB g) f (s : Int) _ k k bl W2 hO2.out.flash (by omega) hB2.out (Nat.le_refl _) (by omega)) ?_
    rintro e w4 ⟨rfl, hf4, hg4⟩
    refine ⟨_, rfl, ?_⟩
    have hO4 := Lib.hid (hO2.out.wrote hf4 hg4)
    have hT4 : Hid (Bs w4 (some ⟨gm, 0, none⟩) k bl ∧ TyB w4 (some ⟨gm, 0, none⟩)) := by
      obtain ⟨cs, hcs⟩ := hO2.out.flash.cells
      have h1 := ((PsY.nil W2).snoc hB2.out (Nat.le_refl k) (by omega) hT2.out).typed hg4 hcs (by decide)
      obtain ⟨B2, m2, c2, e2, hB2', _, _, hT2'⟩ := h1.2 0 (by simp)
      simp at e2
      obtain ⟨rfl, rfl, rfl⟩ := e2
      exact ⟨hB2', hT2'⟩
    rw [HE.out] at hO4 ⊢
    dsimp only at hO4 ⊢
    clear hO2 hB2 hT2 hf4 hg4
    have hfs := free_of hfr.out s
    obtain ⟨U, hU⟩ : ∃ U, usedP (ws.getD s []) = U := ⟨_, rfl⟩
    have hU64 : U ≤ 64 := by rw [← hU]; exact (hF.out.pack s hs6).used
    rw [hU] at hfs
    obtain ⟨G, hG⟩ : ∃ G, pagesN k = G := ⟨_, rfl⟩
    have hG2 := pagesN_lt k
    rw [hG] at hG2
    have hbl2 := hbl.out
    have hpg := pagesI_nat k (by omega)
    rw [hG] at hpg
    have HPG := Lib.hid hpg
    obtain ⟨UG, hUG⟩ : ∃ UG, U + G = UG := ⟨_, rfl⟩
    have g1 : (U : Int) + (G : Int) = (UG : Int) := by omega
    have g2 : (0 : Int) ≤ UG := by omega
    have g3 : (UG : Int) ≤ 100 := by omega
    have s0 : (0 : Int) ≤ s := by omega
    have s1 : (s : Int) < 6 := by omega
    have rf0 := intsV_at hO4.out hs6
    rw [hfs] at rf0
    have rf := fun W' (h : Below w4.heap.size w4 W') => Keeps.of_below h _ _ rf0
    clear hpg rf0
    repeat (first | refine kw_seq ?_ | refine kl_nil ?_ | refine kq_then ?_ | (first | refine kl_move rfl rfl (.inl rfl) rfl rfl ?_ | refine kl_move rfl rfl (.inr rfl) rfl rfl ?_ | refine kl_const rfl rfl (.inl rfl) rfl ?_ | refine kl_const rfl rfl (.inr rfl) rfl ?_) | ((first | refine kl_step rfl rfl rfl fun K hK => ?_ | refine kl_step0 rfl rfl rfl fun K hK => ?_); go_simp; (try go_bits); (first | refine hK _ _ ?_ | refine hK _ ?_); clear hK K))
    have hbd : Below w4.heap.size w4 w4.drew := (Below.refl _ _).drew
    obtain ⟨q, hqn⟩ : ∃ q, decide (64 < UG) = q := ⟨_, rfl⟩
    have hqi : decide ((64 : Int) < (UG : Int)) = q := by rw [← hqn]; exact decide_eq_decide.2 (by omega)
    have HQ := Lib.hid hqn
    refine kw_region_f (Below w4.heap.size w4) [true, true, true, true, false, true, true] (by kernel_rfl) (by kernel_rfl) hbd ?_
    have hO5 := Lib.hid (hO4.out.next hbd)
    have hT5 : Hid (Bs w4.drew (some ⟨gm, 0, none⟩) k bl ∧ TyB w4.drew (some ⟨gm, 0, none⟩)) := ⟨hT4.out.1.below hbd, hT4.out.2.below hbd⟩
    generalize w4.drew = w5 at hbd hO5 hT5 ⊢
    repeat (first | refine kf_nil ?_ | refine kf_ung rfl rfl ?_ | refine kf_skipg rfl rfl rfl rfl ?_ | (first | refine kf_move rfl rfl (.inl rfl) rfl rfl ?_ | refine kf_move rfl rfl (.inr rfl) rfl rfl ?_ | refine kf_const rfl rfl (.inl rfl) rfl ?_ | refine kf_const rfl rfl (.inr rfl) rfl ?_) | (refine kf_val rfl rfl rfl ?_; apply Exists.intro; refine And.intro (fun W hW N hN => ?_) ?_; · (go_simp; (try go_bits); exact hN)))
    refine kf_ch ?_
    refine kl_call rfl rfl rfl Try.func12 rfl (by kernel_rfl) rfl ?_
    refine Calls.mono (pages_all (k : Int) _ (by omega)) ?_
    rintro e _ ⟨rfl, rfl⟩
    rw [HPG.out]
    refine ⟨_, rfl, ?_⟩
    refine kl_nil ?_
    refine kq_f hbd ?_
    repeat (first | refine kf_nil ?_ | refine kf_ung rfl rfl ?_ | refine kf_skipg rfl rfl rfl rfl ?_ | (first | refine kf_move rfl rfl (.inl rfl) rfl rfl ?_ | refine kf_move rfl rfl (.inr rfl) rfl rfl ?_ | refine kf_const rfl rfl (.inl rfl) rfl ?_ | refine kf_const rfl rfl (.inr rfl) rfl ?_) | (refine kf_val rfl rfl rfl ?_; apply Exists.intro; refine And.intro (fun W hW N hN => ?_) ?_; · (go_simp; (try go_bits); exact hN)))
    refine kq_then ?_
    clear hbd rf hO4 hT4 hqi hqn
    by_cases hfull : 64 < UG
    case pos =>
      obtain rfl : q = true := by rw [← HQ.out]; exact decide_eq_true hfull
      have h1 := hF.out.full hs6 (b := bl) (by omega) (by rw [hU, hbl2, hG]; omega)
      rw [hap] at h1
      injection h1 with h1 h2
      subst h1
      subst h2
      clear hfull hap
      repeat (first | refine kw_seq ?_ | refine kw_region ?_ | refine kl_nil ?_ | refine kq_then ?_ | refine kw_ift rfl ?_ | refine kw_iff rfl ?_ | refine kw_skip ?_ | refine kw_exit ?_ | refine kq_then_exit ?_ | refine kq_block_here rfl ?_ | refine kq_block_far rfl ?_ | (first | refine kl_move rfl rfl (.inl rfl) rfl rfl ?_ | refine kl_move rfl rfl (.inr rfl) rfl rfl ?_ | refine kl_const rfl rfl (.inl rfl) rfl ?_ | refine kl_const rfl rfl (.inr rfl) rfl ?_) | ((first | refine kl_step rfl rfl rfl fun K hK => ?_ | refine kl_step0 rfl rfl rfl fun K hK => ?_); go_simp; (try go_bits); (first | refine hK _ _ ?_ | refine hK _ ?_); clear hK K))
      refine kq_again (40 - i1) [0, 3, 4, 5, 6] (by have := HI.out; omega) ?_
      exact ⟨i1, f2, vs, ws, fr, by have := HI.out; omega, by have := HI.out; omega, rfl, hO5, hF, hfr, rfl⟩
    obtain rfl : q = false := by rw [← HQ.out]; exact decide_eq_false hfull
    obtain ⟨f3, h1, h2⟩ := hF.out.next hs6 (b := bl) (by omega) (by rw [hU, hbl2, hG]; omega)
    rw [hap] at h1
    injection h1 with h1 h3
    subst h1
    subst h3
    have HN := Lib.hid (And.intro trivial h2)
    have HFR : Hid (fr.set s UG = (ws.set s (ws.getD s [] ++ [bl])).map usedP) := by
      show _ = _
      rw [← free_set hfr.out s bl, hU, hbl2, hG, hUG]
    obtain ⟨n, xs, hown, hps⟩ := hO5.out.row s hs6
    have hn64 : n ≤ 64 := by
      have h5 := len_used (ws.getD s [])
      have h6 := hps.1
      have h7 := hown.1
      omega
    have rw0 := wantV_at hO5.out hs6
    obtain ⟨v, hv⟩ : ∃ v, vs.getD s undef = v := ⟨_, rfl⟩
    rw [hv] at rw0 hown
    have HV := Lib.hid hv
    have HOW := Lib.hid hown
    have HPS := Lib.hid hps
    clear hfull hap h2 hown hps hv
    repeat (first | refine kw_seq ?_ | refine kw_region ?_ | refine kl_nil ?_ | refine kq_then ?_ | refine kw_iff rfl ?_ | refine kw_skip ?_ | (first | refine kl_move rfl rfl (.inl rfl) rfl rfl ?_ | refine kl_move rfl rfl (.inr rfl) rfl rfl ?_ | refine kl_const rfl rfl (.inl rfl) rfl ?_ | refine kl_const rfl rfl (.inr rfl) rfl ?_) | ((first | refine kl_step rfl rfl rfl fun K hK => ?_ | refine kl_step0 rfl rfl rfl fun K hK => ?_); go_simp; (try go_bits); (first | refine hK _ _ ?_ | refine hK _ ?_); clear hK K))
    obtain ⟨w6, hw6⟩ : ∃ w6, w6 = w5.alloc (.cells #[.slice (some ⟨gm, 0, none⟩) k k] 32) := ⟨_, rfl⟩
    have hb6 : Below w5.heap.size w5 w6 := by rw [hw6]; exact (Below.refl _ _).alloc (Nat.le_refl _) _
    have hv6 : Vs w6 (some ⟨w5.heap.size, 0, none⟩) 1 [.slice (some ⟨gm, 0, none⟩) k k] := by rw [hw6]; exact Vs.one (cell_new _ _ _ 0 rfl)
    rw [← hw6]
    have HOW6 := Lib.hid (own_below HOW.out hb6)
    have HPS6 := Lib.hid (HPS.out.below hb6)
    have hT6 : Hid (Bs w6 (some ⟨gm, 0, none⟩) k bl ∧ TyB w6 (some ⟨gm, 0, none⟩)) := ⟨hT5.out.1.below hb6, hT5.out.2.below hb6⟩
    have hO6 := Lib.hid (hO5.out.next hb6)
    clear hw6 hb6 HOW HPS hT5 hO5
    refine kl_appendV 29 32 (.slice none 0 0) 24 Try.underlying29 sliceInfo rfl B v n xs HOW6.out _ 1 1 [.slice (some ⟨gm, 0, none⟩) k k] hv6 (by simp [Value.oneCell']) (by omega) (by omega) hO6.out.ord.2.2.2.2 rfl rfl rfl rfl rfl rfl ?_
    intro v' w7 ho7 hg7 hob7
    obtain ⟨gk, ck, rfl, _⟩ := own_form ho7 (by omega)
    have hw7 := hO6.out.want' HOW6.out hg7
    have c7 : w7.cell? ⟨bw, s, none⟩ = some v := by
      refine cell_of_block hw7 ?_
      rw [List.getElem?_toArray, ← HV.out, List.getD_eq_getElem?_getD, List.getElem?_eq_getElem (show s < vs.length by rw [hO6.out.vlen]; exact hs6)]
      rfl
    have z7 : w7.frozen? ⟨bw, s, none⟩ = false := free_of_block hw7
    have HG7 := Lib.hid (And.intro hg7 (And.intro ho7 hob7))
    clear hv6 hw7 ho7 hg7 hob7 rw0
    repeat (first | refine kl_nil ?_ | (first | refine kl_move rfl rfl (.inl rfl) rfl rfl ?_ | refine kl_move rfl rfl (.inr rfl) rfl rfl ?_ | refine kl_const rfl rfl (.inl rfl) rfl ?_ | refine kl_const rfl rfl (.inr rfl) rfl ?_) | ((first | refine kl_step rfl rfl rfl fun K hK => ?_ | refine kl_step0 rfl rfl rfl fun K hK => ?_); go_simp; (try go_bits); (first | refine hK _ _ ?_ | refine hK _ ?_); clear hK K))
    have hO8 := Lib.hid (hO6.out.grew hs6 (v' := .slice (some ⟨gk, 0, none⟩) (n + 1) ck) (by rw [HV.out]; exact HOW6.out) HPS6.out hT6.out.1 (Nat.le_refl k) (by omega) hT6.out.2 (by rw [HV.out]; exact HG7.out.1) HG7.out.2.1 (by rw [HV.out]; exact HG7.out.2.2))
    clear HG7 HOW6 HPS6 hT6 hO6 c7 z7
    generalize w7.setCell ⟨bw, s, none⟩ (.slice (some ⟨gk, 0, none⟩) (n + 1) ck) = w8 at hO8 ⊢
    refine kq_then ?_
    repeat (first | refine kw_seq ?_ | refine kl_nil ?_ | refine kq_then ?_ | (first | refine kl_move rfl rfl (.inl rfl) rfl rfl ?_ | refine kl_move rfl rfl (.inr rfl) rfl rfl ?_ | refine kl_const rfl rfl (.inl rfl) rfl ?_ | refine kl_const rfl rfl (.inr rfl) rfl ?_) | ((first | refine kl_step rfl rfl rfl fun K hK => ?_ | refine kl_step0 rfl rfl rfl fun K hK => ?_); go_simp; (try go_bits); (first | refine hK _ _ ?_ | refine hK _ ?_); clear hK K))
    refine kw_region_o (fun _ => True) [true, true, true, false, true, false, true, true, false] (by kernel_rfl) (by kernel_rfl) trivial ?_
    have hO9 := Lib.hid (hO8.out.next (Below.refl w8.heap.size w8).drew)
    clear hO8
    generalize w8.drew = w9 at hO9 ⊢
    have c9 := intsV_at hO9.out hs6
    rw [hfs] at c9
    have z9 : w9.frozen? ⟨bf, s, none⟩ = false := free_of_block hO9.out.free
    refine kt_seg [0, 1, 2, 4] [3, 5, 6, 7, 8] (by kernel_rfl) ?_
    simp only [pickO, pickF, nthO, nthB]
    repeat (first | refine kf_nil ?_ | refine kf_ung rfl rfl ?_ | refine kf_skipg rfl rfl rfl rfl ?_ | (first | refine kf_move rfl rfl (.inl rfl) rfl rfl ?_ | refine kf_move rfl rfl (.inr rfl) rfl rfl ?_ | refine kf_const rfl rfl (.inl rfl) rfl ?_ | refine kf_const rfl rfl (.inr rfl) rfl ?_) | (refine kf_val rfl rfl rfl ?_; apply Exists.intro; refine And.intro (fun W hW N hN => ?_) ?_; · (go_simp; (try go_bits); exact hN)))
    refine kt_more ?_
    refine kt_fork2 3 5 (by kernel_rfl) ?_ ?_
    all_goals simp only [pickO, pickF, nthO, nthB]
    · refine kf_ch ?_
      ((first | refine kl_step rfl rfl rfl fun K hK => ?_ | refine kl_step0 rfl rfl rfl fun K hK => ?_); go_simp; (try go_bits); (first | refine hK _ _ ?_ | refine hK _ ?_); clear hK K)
      refine kl_nil ?_
      refine kq_f trivial ?_
      repeat (first | refine kf_nil ?_ | refine kf_ung rfl rfl ?_ | refine kf_skipg rfl rfl rfl rfl ?_ | (first | refine kf_move rfl rfl (.inl rfl) rfl rfl ?_ | refine kf_move rfl rfl (.inr rfl) rfl rfl ?_ | refine kf_const rfl rfl (.inl rfl) rfl ?_ | refine kf_const rfl rfl (.inr rfl) rfl ?_) | (refine kf_val rfl rfl rfl ?_; apply Exists.intro; refine And.intro (fun W hW N hN => ?_) ?_; · (go_simp; (try go_bits); exact hN)))
      refine kt_more ?_
      refine kt_seg [5, 6, 7, 8] [] (by kernel_rfl) ?_
      simp only [pickO, pickF, nthO, nthB]
      repeat (first | refine kf_nil ?_ | refine kf_ung rfl rfl ?_ | refine kf_skipg rfl rfl rfl rfl ?_ | (first | refine kf_move rfl rfl (.inl rfl) rfl rfl ?_ | refine kf_move rfl rfl (.inr rfl) rfl rfl ?_ | refine kf_const rfl rfl (.inl rfl) rfl ?_ | refine kf_const rfl rfl (.inr rfl) rfl ?_) | (refine kf_val rfl rfl rfl ?_; apply Exists.intro; refine And.intro (fun W hW N hN => ?_) ?_; · (go_simp; (try go_bits); exact hN)))
      refine kf_ch ?_
      refine kl_call rfl rfl rfl Try.func12 rfl (by kernel_rfl) rfl ?_
      refine Calls.mono (pages_all (k : Int) _ (by omega)) ?_
      rintro e _ ⟨rfl, rfl⟩
      rw [HPG.out]
      refine ⟨_, rfl, ?_⟩
      refine kl_nil ?_
      refine kq_f trivial ?_
      repeat (first | refine kf_nil ?_ | refine kf_ung rfl rfl ?_ | refine kf_skipg rfl rfl rfl rfl ?_ | (first | refine kf_move rfl rfl (.inl rfl) rfl rfl ?_ | refine kf_move rfl rfl (.inr rfl) rfl rfl ?_ | refine kf_const rfl rfl (.inl rfl) rfl ?_ | refine kf_const rfl rfl (.inr rfl) rfl ?_) | (refine kf_val rfl rfl rfl ?_; apply Exists.intro; refine And.intro (fun W hW N hN => ?_) ?_; · (go_simp; (try go_bits); exact hN)))
      refine kf_ch ?_
      ((first | refine kl_step rfl rfl rfl fun K hK => ?_ | refine kl_step0 rfl rfl rfl fun K hK => ?_); go_simp; (try go_bits); (first | refine hK _ _ ?_ | refine hK _ ?_); clear hK K)
      refine kl_nil ?_
      refine kq_f trivial ?_
      repeat (first | refine kf_nil ?_ | refine kf_ung rfl rfl ?_ | refine kf_skipg rfl rfl rfl rfl ?_ | (first | refine kf_move rfl rfl (.inl rfl) rfl rfl ?_ | refine kf_move rfl rfl (.inr rfl) rfl rfl ?_ | refine kf_const rfl rfl (.inl rfl) rfl ?_ | refine kf_const rfl rfl (.inr rfl) rfl ?_) | (refine kf_val rfl rfl rfl ?_; apply Exists.intro; refine And.intro (fun W hW N hN => ?_) ?_; · (go_simp; (try go_bits); exact hN)))
      refine kt_done ?_
      have hO7 := Lib.hid (hO9.out.setFree s UG)
      repeat (first | refine kw_seq ?_ | refine kw_region ?_ | refine kl_nil ?_ | refine kq_then ?_ | refine kq_block ?_ | refine kw_skip ?_ | (first | refine kl_move rfl rfl (.inl rfl) rfl rfl ?_ | refine kl_move rfl rfl (.inr rfl) rfl rfl ?_ | refine kl_const rfl rfl (.inl rfl) rfl ?_ | refine kl_const rfl rfl (.inr rfl) rfl ?_) | ((first | refine kl_step rfl rfl rfl fun K hK => ?_ | refine kl_step0 rfl rfl rfl fun K hK => ?_); go_simp; (try go_bits); (first | refine hK _ _ ?_ | refine hK _ ?_); clear hK K))
      refine kq_again (40 - i1) [0, 3, 4, 5, 6] (by have := HI.out; omega) ?_
      exact ⟨i1, f2, _, _, _, by have := HI.out; omega, by have := HI.out; omega, rfl, hO7, HN.out.2, HFR.out, rfl⟩
    · repeat (first | refine kf_nil ?_ | refine kf_ung rfl rfl ?_ | refine kf_skipg rfl rfl rfl rfl ?_ | (first | refine kf_move rfl rfl (.inl rfl) rfl rfl ?_ | refine kf_move rfl rfl (.inr rfl) rfl rfl ?_ | refine kf_const rfl rfl (.inl rfl) rfl ?_ | refine kf_const rfl rfl (.inr rfl) rfl ?_) | (refine kf_val rfl rfl rfl ?_; apply Exists.intro; refine And.intro (fun W hW N hN => ?_) ?_; · (go_simp; (try go_bits); exact hN)))
      refine kf_ch ?_
      refine kl_call rfl rfl rfl Try.func12 rfl (by kernel_rfl) rfl ?_
      refine Calls.mono (pages_all (k : Int) _ (by omega)) ?_
      rintro e _ ⟨rfl, rfl⟩
      rw [HPG.out]
      refine ⟨_, rfl, ?_⟩
      refine kl_nil ?_
      refine kq_f trivial ?_
      repeat (first | refine kf_nil ?_ | refine kf_ung rfl rfl ?_ | refine kf_skipg rfl rfl rfl rfl ?_ | (first | refine kf_move rfl rfl (.inl rfl) rfl rfl ?_ | refine kf_move rfl rfl (.inr rfl) rfl rfl ?_ | refine kf_const rfl rfl (.inl rfl) rfl ?_ | refine kf_const rfl rfl (.inr rfl) rfl ?_) | (refine kf_val rfl rfl rfl ?_; apply Exists.intro; refine And.intro (fun W hW N hN => ?_) ?_; · (go_simp; (try go_bits); exact hN)))
      refine kt_more ?_
      refine kt_seg [3, 6, 7, 8] [] (by kernel_rfl) ?_
      simp only [pickO, pickF, nthO, nthB]
      refine kf_ch ?_
      ((first | refine kl_step rfl rfl rfl fun K hK => ?_ | refine kl_step0 rfl rfl rfl fun K hK => ?_); go_simp; (try go_bits); (first | refine hK _ _ ?_ | refine hK _ ?_); clear hK K)
      refine kl_nil ?_
      refine kq_f trivial ?_
      repeat (first | refine kf_nil ?_ | refine kf_ung rfl rfl ?_ | refine kf_skipg rfl rfl rfl rfl ?_ | (first | refine kf_move rfl rfl (.inl rfl) rfl rfl ?_ | refine kf_move rfl rfl (.inr rfl) rfl rfl ?_ | refine kf_const rfl rfl (.inl rfl) rfl ?_ | refine kf_const rfl rfl (.inr rfl) rfl ?_) | (refine kf_val rfl rfl rfl ?_; apply Exists.intro; refine And.intro (fun W hW N hN => ?_) ?_; · (go_simp; (try go_bits); exact hN)))
      refine kf_ch ?_
      ((first | refine kl_step rfl rfl rfl fun K hK => ?_ | refine kl_step0 rfl rfl rfl fun K hK => ?_); go_simp; (try go_bits); (first | refine hK _ _ ?_ | refine hK _ ?_); clear hK K)
      refine kl_nil ?_
      refine kq_f trivial ?_
      repeat (first | refine kf_nil ?_ | refine kf_ung rfl rfl ?_ | refine kf_skipg rfl rfl rfl rfl ?_ | (first | refine kf_move rfl rfl (.inl rfl) rfl rfl ?_ | refine kf_move rfl rfl (.inr rfl) rfl rfl ?_ | refine kf_const rfl rfl (.inl rfl) rfl ?_ | refine kf_const rfl rfl (.inr rfl) rfl ?_) | (refine kf_val rfl rfl rfl ?_; apply Exists.intro; refine And.intro (fun W hW N hN => ?_) ?_; · (go_simp; (try go_bits); exact hN)))
      refine kt_done ?_
      have hO7 := Lib.hid (hO9.out.setFree s UG)
      repeat (first | refine kw_seq ?_ | refine kw_region ?_ | refine kl_nil ?_ | refine kq_then ?_ | refine kq_block ?_ | refine kw_skip ?_ | (first | refine kl_move rfl rfl (.inl rfl) rfl rfl ?_ | refine kl_move rfl rfl (.inr rfl) rfl rfl ?_ | refine kl_const rfl rfl (.inl rfl) rfl ?_ | refine kl_const rfl rfl (.inr rfl) rfl ?_) | ((first | refine kl_step rfl rfl rfl fun K hK => ?_ | refine kl_step0 rfl rfl rfl fun K hK => ?_); go_simp; (try go_bits); (first | refine hK _ _ ?_ | refine hK _ ?_); clear hK K))
      refine kq_again (40 - i1) [0, 3, 4, 5, 6] (by have := HI.out; omega) ?_
      exact ⟨i1, f2, _, _, _, by have := HI.out; omega, by have := HI.out; omega, rfl, hO7, HN.out.2, HFR.out, rfl⟩
  · rintro L W ⟨f, vs, ws, fr, hO, hF, hfr, rfl⟩
    repeat (first | refine kw_seq ?_ | refine kw_region ?_ | refine kl_nil ?_ | refine kq_then ?_ | (first | refine kl_move rfl rfl (.inl rfl) rfl rfl ?_ | refine kl_move rfl rfl (.inr rfl) rfl rfl ?_ | refine kl_const rfl rfl (.inl rfl) rfl ?_ | refine kl_const rfl rfl (.inr rfl) rfl ?_) | ((first | refine kl_step rfl rfl rfl fun K hK => ?_ | refine kl_step0 rfl rfl rfl fun K hK => ?_); go_simp; (try go_bits); (first | refine hK _ _ ?_ | refine hK _ ?_); clear hK K))
    refine KW.less [3, 4, 5, 12] ?_
    simp only [nrm, lk, Nat.reduceBEq, cond_true, cond_false]
    refine kw_block ?_
    refine kw_loop (fun mm L W => ∃ s, s ≤ 6 ∧ mm = 6 - s ∧ Hid (OrdM w W B g bw bf f vs ws fr) ∧ L = [(3, .pointer (some ⟨g, 0, none⟩)), (4, .pointer (some ⟨bw, 0, none⟩)), (5, .pointer (some ⟨bf, 0, none⟩)), (12, .int .i64 (s : Int))]) ⟨0, by omega, rfl, hO, rfl⟩ ?_
    clear hO
    rintro mm L W2 ⟨s, hs, rfl, hO, rfl⟩
    by_cases hlt : s < 6
    case neg =>
      have t1 : decide ((s : Int) < 6) = false := by rw [decide_eq_false_iff_not]; omega
      have t1n : decide (s < 6) = false := decide_eq_false hlt
      clear hlt
      repeat (first | refine kw_seq ?_ | refine kw_block ?_ | refine kw_skip ?_ | refine kw_region ?_ | refine kl_nil ?_ | refine kq_then ?_ | refine kq_block ?_ | refine kw_exit ?_ | refine kq_then_exit ?_ | refine kq_block_here rfl ?_ | refine kq_block_far rfl ?_ | refine kq_again_exit ?_ | refine kw_ret ?_ | refine kq_then_ret ?_ | refine kq_block_ret ?_ | refine kq_again_ret ?_ | refine kw_ift rfl ?_ | refine kw_iff rfl ?_ | refine kl_ung rfl rfl ?_ | refine kl_skipg rfl rfl rfl rfl ?_ | refine kl_skipg0 rfl rfl rfl ?_ | (first | refine kl_move rfl rfl (.inl rfl) rfl rfl ?_ | refine kl_move rfl rfl (.inr rfl) rfl rfl ?_ | refine kl_const rfl rfl (.inl rfl) rfl ?_ | refine kl_const rfl rfl (.inr rfl) rfl ?_) | ((first | refine kl_step rfl rfl rfl fun K hK => ?_ | refine kl_step0 rfl rfl rfl fun K hK => ?_); go_simp; (try go_bits); (first | refine hK _ _ ?_ | refine hK _ ?_); clear hK K))
      exact kq_ret1 rfl rfl ⟨rfl, hO.out.bel⟩
    have t1 : decide ((s : Int) < 6) = true := by rw [decide_eq_true_eq]; omega
    have t1n : decide (s < 6) = true := decide_eq_true hlt
    have s0 : (0 : Int) ≤ s := by omega
    have s1 : (s : Int) < 6 := by omega
    obtain ⟨s2, hs2⟩ : ∃ s2, s + 1 = s2 := ⟨_, rfl⟩
    have k1 : (s : Int) + 1 = (s2 : Int) := by omega
    have k2 : (0 : Int) ≤ s2 := by omega
    have k3 : (s2 : Int) ≤ 64 := by omega
    have HI := Lib.hid (And.intro hs2 hlt)
    clear hs2
    repeat (first | refine kw_seq ?_ | refine kw_block ?_ | refine kw_region ?_ | refine kl_nil ?_ | refine kq_then ?_ | refine kw_ift rfl ?_ | refine kw_skip ?_ | (first | refine kl_move rfl rfl (.inl rfl) rfl rfl ?_ | refine kl_move rfl rfl (.inr rfl) rfl rfl ?_ | refine kl_const rfl rfl (.inl rfl) rfl ?_ | refine kl_const rfl rfl (.inr rfl) rfl ?_) | ((first | refine kl_step rfl rfl rfl fun K hK => ?_ | refine kl_step0 rfl rfl rfl fun K hK => ?_); go_simp; (try go_bits); (first | refine hK _ _ ?_ | refine hK _ ?_); clear hK K))
    refine kl_call rfl rfl rfl Try.func16 rfl (by kernel_rfl) rfl ?_
    refine Calls.mono (load_any NoB g f (s : Int) W2 hO.out.flash) ?_
    rintro e w3 ⟨A2, n2, c2, rfl, hp2, hn2, hc2, hb3⟩
    refine ⟨_, rfl, ?_⟩
    have hO3 := Lib.hid (hO.out.next hb3)
    clear hO hb3
    have hload := (hF.out.pack s hlt).load
    rw [hload] at hp2 ⊢
    dsimp only at hp2 ⊢
    obtain ⟨n, xs, hown, hps⟩ := hO3.out.row s hlt
    obtain ⟨Av, cv, hv, hnv, hcv, hVs, _⟩ := own_slice hown
    have hpw := hps.ps hVs
    have r1 := wantV_at hO3.out hlt
    rw [hv] at r1
    have r2 := intsV_at hO3.out hlt
    rw [free_of hfr.out s] at r2
    have h64 := (hF.out.pack s hlt).used
    have hlu := len_used (ws.getD s [])
    have hlp := hp2.len
    obtain ⟨U, hU⟩ : ∃ U, usedP (ws.getD s []) = U := ⟨_, rfl⟩
    rw [hU] at r2 h64 hlu ⊢
    have v0 : ((U : Int) != (U : Int)) = false := by simp
    clear hload hown hps hv hVs hU
    repeat (first | refine kw_seq ?_ | refine kw_region ?_ | refine kl_nil ?_ | refine kq_then ?_ | (first | refine kl_move rfl rfl (.inl rfl) rfl rfl ?_ | refine kl_move rfl rfl (.inr rfl) rfl rfl ?_ | refine kl_const rfl rfl (.inl rfl) rfl ?_ | refine kl_const rfl rfl (.inr rfl) rfl ?_) | ((first | refine kl_step rfl rfl rfl fun K hK => ?_ | refine kl_step0 rfl rfl rfl fun K hK => ?_); go_simp; (try go_bits); (first | refine hK _ _ ?_ | refine hK _ ?_); clear hK K))
    refine kl_call rfl rfl rfl Try.func17 rfl (by kernel_rfl) rfl ?_
    refine Calls.mono (rows5_any A2 Av n2 c2 n cv _ _ w3 hp2 hpw (by omega)) ?_
    rintro e w4 ⟨rfl, hb4⟩
    refine ⟨_, rfl, ?_⟩
    have hO4 := Lib.hid (hO3.out.next hb4)
    have r3 := Keeps.of_below hb4 _ _ r2
    rw [decide_eq_true rfl]
    clear hO3 hb4 hp2 hpw r1 r2
    repeat (first | refine kw_seq ?_ | refine kw_region ?_ | refine kl_nil ?_ | refine kq_then ?_ | refine kq_block ?_ | refine kw_iff rfl ?_ | refine kw_skip ?_ | refine kl_ung rfl rfl ?_ | (first | refine kl_move rfl rfl (.inl rfl) rfl rfl ?_ | refine kl_move rfl rfl (.inr rfl) rfl rfl ?_ | refine kl_const rfl rfl (.inl rfl) rfl ?_ | refine kl_const rfl rfl (.inr rfl) rfl ?_) | ((first | refine kl_step rfl rfl rfl fun K hK => ?_ | refine kl_step0 rfl rfl rfl fun K hK => ?_); go_simp; (try go_bits); (first | refine hK _ _ ?_ | refine hK _ ?_); clear hK K))
    refine kq_again (6 - s2) [3, 4, 5, 12] (by have := HI.out; omega) ?_
    exact ⟨s2, by have := HI.out; omega, rfl, hO4, rfl⟩
end Go.Proofs.Ytblidiecahpekaa
