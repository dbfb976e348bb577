/- session.Chunk. session.Chunk: its first loop. -/
import Derived.Test.YtkgenkkcgegcbaaSesChunkP
import Derived.Test.YtkgenkkcgegcbaaKnR
namespace Go.Proofs.Ytkgenkkcgegcbaa
open Go.RowKit
attribute [local go_sem] ev_tmp ev_const ev_func ev_global lk_hit lk_miss uponK_value uponK_skip look_tmp look_const look_global look_func
/-- what stands in the two loops -/
structure ChM (w : World) (B n m : Nat) (s : Ses) (f : Frm) (g2 g3 g4 gd gg cd cg : Nat) (DF : Value) (Af : Option Addr) (cf : Nat) (dat : List UInt8) (gt : List Bool) (wr : World) : Prop where
  below : Below w.heap.size w wr
  h2 : wr.heap[g2]? = some (.cells (sesV s (.slice (some ⟨gd, 0, none⟩) n cd) (.slice (some ⟨gg, 0, none⟩) n cg)).toArray 32 (0, 0))
  h3 : wr.heap[g3]? = some (.cells (frmV f DF).toArray 29 (0, 0))
  h4 : wr.heap[g4]? = some (.cells zSes.toArray 32 (0, 0))
  data : wr.ownsRow B 5 1 (.slice (some ⟨gd, 0, none⟩) n cd) n (bv dat)
  got : wr.ownsRow B 4 1 (.slice (some ⟨gg, 0, none⟩) n cg) n (bls gt)
  bs : Bs wr Af m f.data
structure ChA (w : World) (B g2 g3 g4 gd gg : Nat) : Prop where
  n2d : g2 ≠ gd
  n2g : g2 ≠ gg
  n3d : g3 ≠ gd
  n3g : g3 ≠ gg
  n4d : g4 ≠ gd
  n4g : g4 ≠ gg
  n24 : g2 ≠ g4
  ndg : gd ≠ gg
  w2 : w.heap.size ≤ g2
  w4 : w.heap.size ≤ g4
  wd : w.heap.size ≤ gd
  wg : w.heap.size ≤ gg
set_option maxRecDepth 100000 in
set_option maxHeartbeats 2000000 in
theorem chunk_loop2 {Q : Exit → Act → World → Prop} {w wr : World} {B n m a g2 g3 g4 gd gg cd cg cf : Nat} {s : Ses} {f : Frm} {DF : Value} {Af : Option Addr} (ha : ChA w B g2 g3 g4 gd gg) (hAf : ∀ b o, Af = some ⟨b, o, none⟩ → b < w.heap.size) (hDF : DF = .slice Af m cf) (hnd : n ≤ cd) (hcd : cd ≤ 9223372036854775807) (hng : n ≤ cg) (hcg : cg ≤ 9223372036854775807) (hmc : m ≤ cf) (hcf : cf ≤ 9223372036854775807)
    (hn : n ≤ 1000000) (ham : a + m ≤ n) (hfa : f.at_ = a) (HS : Hid (s.sum.length = 32)) (HF : Hid (f.sum.length = 32)) (HD : Hid (s.data.length = n)) (HG : Hid (s.got.length = n)) (HM : Hid (f.data.length = m))
    (h : ChM w B n m s f g2 g3 g4 gd gg cd cg DF Af cf s.data s.got wr)
    (hQ : ∀ wr', ChM w B n m s f g2 g3 g4 gd gg cd cg DF Af cf (layK s.data a f.data m) (layK s.got a (List.replicate m true) m) wr' → KQ Q .normal 112 [(2, .pointer (some ⟨g2, 0, none⟩)), (4, .pointer (some ⟨g4, 0, none⟩))] wr') :
    KW Try.prog (blockOf Try.f16 3) Q 112 [(2, .pointer (some ⟨g2, 0, none⟩)), (3, .pointer (some ⟨g3, 0, none⟩)), (4, .pointer (some ⟨g4, 0, none⟩)), (88, .slice Af m cf), (89, .int .i64 (m : Int)), (90, .int .i64 0)] wr := by
  conv => arg 2; whnf
  have HQ := Lib.hid hQ
  clear hQ
  refine kw_block ?_
  refine kw_loop (fun mu L wr => ∃ k, k ≤ m ∧ mu = m - k ∧ ChM w B n m s f g2 g3 g4 gd gg cd cg DF Af cf (layK s.data a f.data k) (layK s.got a (List.replicate m true) k) wr ∧ L = [(2, .pointer (some ⟨g2, 0, none⟩)), (3, .pointer (some ⟨g3, 0, none⟩)), (4, .pointer (some ⟨g4, 0, none⟩)), (88, .slice Af m cf), (89, .int .i64 (m : Int)), (90, .int .i64 (k : Int))]) ⟨0, by omega, rfl, by rw [layK_zero, layK_zero]; exact h, rfl⟩ ?_
  clear h wr
  rintro mu L wr ⟨k, hk, rfl, h, rfl⟩
  by_cases hlt : k < m
  case neg =>
    obtain rfl : k = m := by omega
    have H := Lib.hid h
    clear h
    repeat (first | refine kw_seq ?_ | refine kw_block ?_ | refine kw_skip ?_ | refine kw_region ?_ | refine kl_nil ?_ | refine kq_then ?_ | refine kq_block ?_ | refine kw_exit ?_ | refine kq_then_exit ?_ | refine kq_block_here rfl ?_ | refine kq_block_far rfl ?_ | refine kq_again_exit ?_ | refine kw_ret ?_ | refine kq_then_ret ?_ | refine kq_block_ret ?_ | refine kq_again_ret ?_ | refine kw_ift rfl ?_ | refine kw_iff rfl ?_ | refine kl_ung rfl rfl ?_ | refine kl_skipg rfl rfl rfl rfl ?_ | refine kl_skipg0 rfl rfl rfl ?_ | (first | refine kl_move rfl rfl (.inl rfl) rfl rfl ?_ | refine kl_move rfl rfl (.inr rfl) rfl rfl ?_ | refine kl_const rfl rfl (.inl rfl) rfl ?_ | refine kl_const rfl rfl (.inr rfl) rfl ?_) | ((first | refine kl_step rfl rfl rfl fun K hK => ?_ | refine kl_step0 rfl rfl rfl fun K hK => ?_); go_simp; (try go_bits); (first | refine hK _ _ ?_ | refine hK _ ?_); clear hK K))
    refine KQ.less [2, 4] ?_
    simp only [nrm, lk, Nat.reduceBEq, cond_true, cond_false]
    exact HQ.out _ H.out
  have hk1 : (k : Int) < m := by omega
  have hk0 : (0 : Int) ≤ k := by omega
  obtain ⟨b, o, x, rfl, hcell, _, hgx⟩ := h.bs.next hlt
  have q0 : (0 : Int) ≤ a := by omega
  obtain ⟨q, hq⟩ : ∃ q, a + k = q := ⟨_, rfl⟩
  have e1 : IntKind.i64.wrap ((a : Int) + k) = q := by rw [IntWalk.i64_in _ (by omega)]; omega
  have e2 : (a : Int) + k = q := by omega
  have hqn : q < n := by omega
  have q1 : (q : Int) < n := by omega
  have q2 : (0 : Int) ≤ q := by omega
  have hld : (layK s.data a f.data k).length = n := by rw [length_layK _ _ _ _ (by rw [HM.out]; omega) (by rw [HD.out]; omega)]; exact HD.out
  have hlg : (layK s.got a (List.replicate m true) k).length = n := by rw [length_layK _ _ _ _ (by simp; omega) (by rw [HG.out]; omega)]; exact HG.out
  obtain ⟨y, hy⟩ : ∃ y, (layK s.data a f.data k)[q]? = some y := ⟨_, List.getElem?_eq_getElem (by rw [hld]; exact hqn)⟩
  obtain ⟨z, hz⟩ : ∃ z, (layK s.got a (List.replicate m true) k)[q]? = some z := ⟨_, List.getElem?_eq_getElem (by rw [hlg]; exact hqn)⟩
  have cy : wr.cell? ⟨gd, q, none⟩ = some (.int .u8 (y.toNat : Int)) := own_at h.data (by rw [bv_get _ _ (by rw [hld]; exact hqn)]; rw [List.getElem?_eq_getElem (by rw [hld]; exact hqn)] at hy; injection hy with hy; rw [hy])
  have cz : wr.cell? ⟨gg, q, none⟩ = some (.bool z) := own_at h.got (by rw [bls_get _ _ (by rw [hlg]; exact hqn)]; rw [List.getElem?_eq_getElem (by rw [hlg]; exact hqn)] at hz; injection hz with hz; rw [hz])
  have hsetd := layK_set s.data a f.data k x hgx.out (by rw [HD.out]; omega)
  have hsetg := layK_set s.got a (List.replicate m true) k true (by simp [hlt]) (by rw [HG.out]; omega)
  rw [hq] at hsetd hsetg
  have HSD := Lib.hid hsetd
  have HSG := Lib.hid hsetg
  have k34 := ses_cell h.h2 (ses_34 s _ _ HS.out)
  have k35 := ses_cell h.h2 (ses_35 s _ _ HS.out)
  have k3 := frm_cell h.h3 (frm_3 f _)
  rw [hfa] at k3
  have hfd : wr.frozen? ⟨gd, q, none⟩ = false := own_free h.data
  have hfg : wr.frozen? ⟨gg, q, none⟩ = false := own_free h.got
  have H := Lib.hid h
  have hrow : ∀ (p : Addr) (u : Value), wr.cell? p = some u → p.block ≠ gd → ∀ W, (W = wr.drew ∨ W = wr.drew.setCell ⟨gd, q, none⟩ (.int .u8 (x.toNat : Int))) → W.cell? p = some u := by
    intro p u hp hne W hW
    rcases hW with rfl | rfl
    · exact hp
    · exact cell_far (w := wr.drew) hp hne
  have c34 := hrow _ _ k34 ha.n2d
  have c35 := hrow _ _ k35 ha.n2d
  have c3 := hrow _ _ k3 ha.n3d
  have HD34 := Lib.hid c34
  clear hrow hsetd hsetg hq hld hlg hy hz k34 k35 k3 HD34 h
  have n1 : (n : Int) ≤ cd := by omega
  have n2 : (n : Int) ≤ cg := by omega
  repeat (first | refine kw_seq ?_ | refine kw_block ?_ | refine kw_skip ?_ | refine kw_region ?_ | refine kl_nil ?_ | refine kq_then ?_ | refine kq_block ?_ | refine kw_exit ?_ | refine kq_then_exit ?_ | refine kq_block_here rfl ?_ | refine kq_block_far rfl ?_ | refine kq_again_exit ?_ | refine kw_ret ?_ | refine kq_then_ret ?_ | refine kq_block_ret ?_ | refine kq_again_ret ?_ | refine kw_ift rfl ?_ | refine kw_iff rfl ?_ | refine kl_ung rfl rfl ?_ | refine kl_skipg rfl rfl rfl rfl ?_ | refine kl_skipg0 rfl rfl rfl ?_ | (first | refine kl_move rfl rfl (.inl rfl) rfl rfl ?_ | refine kl_move rfl rfl (.inr rfl) rfl rfl ?_ | refine kl_const rfl rfl (.inl rfl) rfl ?_ | refine kl_const rfl rfl (.inr rfl) rfl ?_) | ((first | refine kl_step rfl rfl rfl fun K hK => ?_ | refine kl_step0 rfl rfl rfl fun K hK => ?_); go_simp; (try go_bits); (first | refine hK _ _ ?_ | refine hK _ ?_); clear hK K))
  refine KW.less [2, 3, 4, 9, 10, 88, 89, 90] ?_
  simp only [nrm, lk, Nat.reduceBEq, cond_true, cond_false]
  clear hcell
  refine kw_region_rt 15 (fun W => W = wr.drew ∨ W = wr.drew.setCell ⟨gd, q, none⟩ (.int .u8 (x.toNat : Int))) (fun W W' => W' = W ∨ W' = wr.drew.setCell ⟨gd, q, none⟩ (.int .u8 (x.toNat : Int))) [none, none, none, none, none, none, none, none, none, none, none, none, none, none, some (fun W _ => W = wr.drew.setCell ⟨gd, q, none⟩ (.int .u8 (x.toNat : Int)))]
    [[(2, none)], [(95, some 0)], [(3, none)], [(97, some 2)], [(9, none)], [(98, some 3), (99, some 4)], [(2, none)], [(101, some 6)], [(3, none)], [(103, some 8)], [(9, none)], [(104, some 9), (105, some 10)], [(10, none)], [(96, some 1), (100, some 5)], [(108, some 13), (107, some 12)]]
    [2, 3, 4, 88, 89, 90] (by kernel_rfl) (by kernel_rfl) (by kernel_rfl) (by kernel_rfl) (by kernel_rfl)
    ⟨(fun W W' _ hst h => hst.elim (fun e => e.trans h) id), trivial⟩ (.inl rfl) ?_
  repeat (first | apply exs_none | apply exs_some)
  refine exs_nil (And.intro ?v1_vc ?v1_fin)
  case v1_vc =>
    refine ⟨?_, ?_, ?_, ?_, ?_, ?_, ?_, ?_, ?_, ?_, ?_, ?_, ?_, ?_, ?_, trivial⟩
    · refine vr_none rfl fun A W hR h N hN => ?_
      refine vk_of N ?_
      obtain ⟨h2, _⟩ := h
      replace h2 := h2 _ rfl
      go_simp
      (try go_bits)
      exact hN _ _ hR ((fun _ => .inl rfl) _) rfl
    · refine vr_none rfl fun A W hR h N hN => ?_
      refine vk_of N ?_
      obtain ⟨h95, _⟩ := h
      replace h95 : A.tmps[95]?.getD undef = _ := h95
      replace c34 := c34 W hR
      replace c35 := c35 W hR
      replace c3 := c3 W hR
      go_simp
      (try go_bits)
      exact hN _ _ hR ((fun _ => .inl rfl) _) rfl
    · refine vr_none rfl fun A W hR h N hN => ?_
      refine vk_of N ?_
      obtain ⟨h3, _⟩ := h
      replace h3 := h3 _ rfl
      go_simp
      (try go_bits)
      exact hN _ _ hR ((fun _ => .inl rfl) _) rfl
    · refine vr_none rfl fun A W hR h N hN => ?_
      refine vk_of N ?_
      obtain ⟨h97, _⟩ := h
      replace h97 : A.tmps[97]?.getD undef = _ := h97
      replace c34 := c34 W hR
      replace c35 := c35 W hR
      replace c3 := c3 W hR
      go_simp
      (try go_bits)
      exact hN _ _ hR ((fun _ => .inl rfl) _) rfl
    · exact vr_mov (fun _ => .inl rfl) rfl (.inl rfl) fun A W _ h => h.1 _ rfl
    · refine vr_none rfl fun A W hR h N hN => ?_
      refine vk_of N ?_
      obtain ⟨h98, h99, _⟩ := h
      replace h98 : A.tmps[98]?.getD undef = _ := h98
      replace h99 : A.tmps[99]?.getD undef = _ := h99
      go_simp
      (try go_bits)
      exact hN _ _ hR ((fun _ => .inl rfl) _) rfl
    · refine vr_none rfl fun A W hR h N hN => ?_
      refine vk_of N ?_
      obtain ⟨h2, _⟩ := h
      replace h2 := h2 _ rfl
      go_simp
      (try go_bits)
      exact hN _ _ hR ((fun _ => .inl rfl) _) rfl
    · refine vr_none rfl fun A W hR h N hN => ?_
      refine vk_of N ?_
      obtain ⟨h101, _⟩ := h
      replace h101 : A.tmps[101]?.getD undef = _ := h101
      replace c34 := c34 W hR
      replace c35 := c35 W hR
      replace c3 := c3 W hR
      go_simp
      (try go_bits)
      exact hN _ _ hR ((fun _ => .inl rfl) _) rfl
    · refine vr_none rfl fun A W hR h N hN => ?_
      refine vk_of N ?_
      obtain ⟨h3, _⟩ := h
      replace h3 := h3 _ rfl
      go_simp
      (try go_bits)
      exact hN _ _ hR ((fun _ => .inl rfl) _) rfl
    · refine vr_none rfl fun A W hR h N hN => ?_
      refine vk_of N ?_
      obtain ⟨h103, _⟩ := h
      replace h103 : A.tmps[103]?.getD undef = _ := h103
      replace c34 := c34 W hR
      replace c35 := c35 W hR
      replace c3 := c3 W hR
      go_simp
      (try go_bits)
      exact hN _ _ hR ((fun _ => .inl rfl) _) rfl
    · exact vr_mov (fun _ => .inl rfl) rfl (.inl rfl) fun A W _ h => h.1 _ rfl
    · refine vr_none rfl fun A W hR h N hN => ?_
      refine vk_of N ?_
      obtain ⟨h104, h105, _⟩ := h
      replace h104 : A.tmps[104]?.getD undef = _ := h104
      replace h105 : A.tmps[105]?.getD undef = _ := h105
      go_simp
      (try go_bits)
      exact hN _ _ hR ((fun _ => .inl rfl) _) rfl
    · exact vr_mov (fun _ => .inl rfl) rfl (.inl rfl) fun A W _ h => h.1 _ rfl
    · refine vr_none rfl fun A W hR h N hN => ?_
      refine vk_of N ?_
      obtain ⟨h96, h100, _⟩ := h
      replace h96 : A.tmps[96]?.getD undef = _ := h96
      replace h100 : A.tmps[100]?.getD undef = _ := h100
      go_simp
      (try go_bits)
      exact hN _ _ hR ((fun _ => .inl rfl) _) rfl
    · refine vr_none rfl fun A W hR h N hN => ?_
      refine vk_of N ?_
      obtain ⟨h108, h107, _⟩ := h
      replace h108 : A.tmps[108]?.getD undef = _ := h108
      replace h107 : A.tmps[107]?.getD undef = _ := h107
      have hW2 : W.setCell ⟨gd, q, none⟩ (.int .u8 (x.toNat : Int)) = wr.drew.setCell ⟨gd, q, none⟩ (.int .u8 (x.toNat : Int)) := by
        rcases hR with e | e
        · rw [e]
        · rw [e, setCell_twice]
      have hc : ∃ u, W.cell? ⟨gd, q, none⟩ = some u := by
        rcases hR with e | e
        · rw [e]; exact ⟨_, cy⟩
        · rw [e]; exact ⟨_, by apply World.cell?_setCell_same; exact cy⟩
      obtain ⟨u, hc⟩ := hc
      have hf : W.frozen? ⟨gd, q, none⟩ = false := by
        rcases hR with e | e
        · rw [e]; exact hfd
        · rw [e, World.frozen?_setCell]; exact hfd
      have hN' := hN undef _ (.inr hW2) (.inr hW2) hW2
      have HN' := Lib.hid hN'
      clear hN' hW2 hR c34 c35 c3
      go_simp
      exact HN'.out
  case v1_fin =>
    intro fa fW fk hR he
    have e7 := he.2.2.2.2.2.2.2.1
    have e11 := he.2.2.2.2.2.2.2.2.2.2.2.1
    clear he
    replace e7 : fa.tmps[102]?.getD undef = _ := e7
    replace fk := fk.more 102 _ e7
    clear e7
    replace e11 : fa.tmps[106]?.getD undef = _ := e11
    replace fk := fk.more 106 _ e11
    clear e11
    have hW : fW = wr.drew.setCell ⟨gd, q, none⟩ (.int .u8 (x.toNat : Int)) := by obtain ⟨_, h⟩ := hR.2 14 _ (by omega) rfl rfl; exact h
    clear c34 c35 c3 hR
    have cz' : fW.cell? ⟨gg, q, none⟩ = some (.bool z) := by rw [hW]; exact cell_far (w := wr.drew) cz (Ne.symm ha.ndg)
    have hfg' : fW.frozen? ⟨gg, q, none⟩ = false := by rw [hW, World.frozen?_setCell]; exact hfg
    have HW := Lib.hid hW
    clear hW cy cz hfd hfg
    refine kl_of _ _ ?_ fk
    clear fk fa
    simp only [nrm, lk, Nat.reduceBEq, cond_true, cond_false, List.take_succ_cons, List.take_zero, List.drop_succ_cons, List.drop_zero]
    repeat (first | refine kw_seq ?_ | refine kw_block ?_ | refine kw_skip ?_ | refine kw_region ?_ | refine kl_nil ?_ | refine kq_then ?_ | refine kq_block ?_ | refine kw_exit ?_ | refine kq_then_exit ?_ | refine kq_block_here rfl ?_ | refine kq_block_far rfl ?_ | refine kq_again_exit ?_ | refine kw_ret ?_ | refine kq_then_ret ?_ | refine kq_block_ret ?_ | refine kq_again_ret ?_ | refine kw_ift rfl ?_ | refine kw_iff rfl ?_ | refine kl_ung rfl rfl ?_ | refine kl_skipg rfl rfl rfl rfl ?_ | refine kl_skipg0 rfl rfl rfl ?_ | (first | refine kl_move rfl rfl (.inl rfl) rfl rfl ?_ | refine kl_move rfl rfl (.inr rfl) rfl rfl ?_ | refine kl_const rfl rfl (.inl rfl) rfl ?_ | refine kl_const rfl rfl (.inr rfl) rfl ?_) | ((first | refine kl_step rfl rfl rfl fun K hK => ?_ | refine kl_step0 rfl rfl rfl fun K hK => ?_); go_simp; (try go_bits); (first | refine hK _ _ ?_ | refine hK _ ?_); clear hK K))
    refine kq_again (m - (k + 1)) [2, 3, 4, 88, 89, 90] (by omega) ?_
    simp only [nrm, lk, Nat.reduceBEq, cond_true, cond_false]
    refine ⟨k + 1, by omega, rfl, ?_, by congr 1⟩
    rw [HW.out]
    have h := H.out
    have d1 := own_store (own_drew h.data) q (.int .u8 (x.toNat : Int))
    rw [bv_set', HSD.out] at d1
    have g1 := own_store (own_farCell (own_drew h.got) (p := ⟨gd, q, none⟩) (Ne.symm ha.ndg) (.int .u8 (x.toNat : Int))) q (.bool true)
    rw [show (bls (layK s.got a (List.replicate m true) k)).set q (.bool true) = bls ((layK s.got a (List.replicate m true) k).set q true) by simp [bls, List.map_set], HSG.out] at g1
    refine ⟨(h.below.drew.setCell ha.wd _).setCell ha.wg _, ?_, ?_, ?_, own_farCell d1 (p := ⟨gg, q, none⟩) ha.ndg _, g1, ?_⟩
    · rw [Below.heap_setCell _ _ _ _ ha.n2g, Below.heap_setCell _ _ _ _ ha.n2d]; exact h.h2
    · rw [Below.heap_setCell _ _ _ _ ha.n3g, Below.heap_setCell _ _ _ _ ha.n3d]; exact h.h3
    · rw [Below.heap_setCell _ _ _ _ ha.n4g, Below.heap_setCell _ _ _ _ ha.n4d]; exact h.h4
    · have hlt' := hAf b o rfl
      exact Vs.far (Vs.far (show Vs wr.drew _ _ _ from h.bs) (fun b' o' e => by injection e with e; injection e with e _; subst e; show b ≠ gd; have := ha.wd; omega) _) (fun b' o' e => by injection e with e; injection e with e _; subst e; show b ≠ gg; have := ha.wg; omega) _
end Go.Proofs.Ytkgenkkcgegcbaa
namespace Go.Proofs.Ytkgenkkcgegcbaa
open Go.RowKit
attribute [local go_sem] ev_tmp ev_const ev_func ev_global lk_hit lk_miss uponK_value uponK_skip look_tmp look_const look_global look_func
theorem clash_yes {s : Ses} {f : Frm} {a k : Nat} {x y : UInt8} (hfa : f.at_ = a) (hk : k < f.data.length) (hx : f.data[k]? = some x) (hg : s.got[a + k]? = some true) (hy : s.data[a + k]? = some y) (hne : y ≠ x) : clash s f = true := by
  refine List.any_eq_true.2 ⟨k, List.mem_range.2 hk, ?_⟩
  have ha : f.at_.toNat = a := by omega
  rw [ha, List.getD_eq_getElem?_getD, hg, List.getD_eq_getElem?_getD, hy, List.getD_eq_getElem?_getD, hx]
  simpa using hne
def noClash (s : Ses) (f : Frm) (a k : Nat) : Prop := ∀ i, i < k → ¬ (s.got.getD (a + i) false = true ∧ s.data.getD (a + i) 0 ≠ f.data.getD i 0)
theorem clash_no {s : Ses} {f : Frm} {a : Nat} (hfa : f.at_ = a) (h : noClash s f a f.data.length) : clash s f = false := by
  have ha : f.at_.toNat = a := by omega
  refine List.any_eq_false.2 fun i hi => ?_
  rw [ha]
  have := h i (List.mem_range.1 hi)
  simpa using this
set_option maxRecDepth 100000 in
set_option maxHeartbeats 2000000 in
theorem chunk_loop1 {Q : Exit → Act → World → Prop} {w wr : World} {B n m a g2 g3 g4 gd gg cd cg cf : Nat} {s : Ses} {f : Frm} {DF : Value} {Af : Option Addr} (hDF : DF = .slice Af m cf) (hnd : n ≤ cd) (hcd : cd ≤ 9223372036854775807) (hng : n ≤ cg) (hcg : cg ≤ 9223372036854775807) (hmc : m ≤ cf) (hcf : cf ≤ 9223372036854775807)
    (hn : n ≤ 1000000) (ham : a + m ≤ n) (hfa : f.at_ = a) (HS : Hid (s.sum.length = 32)) (HF : Hid (f.sum.length = 32)) (HD : Hid (s.data.length = n)) (HG : Hid (s.got.length = n)) (HM : Hid (f.data.length = m))
    (h : ChM w B n m s f g2 g3 g4 gd gg cd cg DF Af cf s.data s.got wr)
    (hR : clash s f = true → KQ Q .ret 112 [(4, .pointer (some ⟨g4, 0, none⟩)), (5, .int .i64 10)] (wr.setRow g4 (sesV s (.slice (some ⟨gd, 0, none⟩) n cd) (.slice (some ⟨gg, 0, none⟩) n cg)).toArray))
    (hQ : clash s f = false → KQ Q .normal 112 [(2, .pointer (some ⟨g2, 0, none⟩)), (3, .pointer (some ⟨g3, 0, none⟩)), (4, .pointer (some ⟨g4, 0, none⟩))] wr) :
    KW Try.prog (blockOf Try.f16 1) Q 112 [(2, .pointer (some ⟨g2, 0, none⟩)), (3, .pointer (some ⟨g3, 0, none⟩)), (4, .pointer (some ⟨g4, 0, none⟩)), (58, .slice Af m cf), (59, .int .i64 (m : Int)), (60, .int .i64 0)] wr := by
  conv => arg 2; whnf
  have HQ := Lib.hid hQ
  have HR := Lib.hid hR
  have H := Lib.hid h
  clear hQ hR
  refine kw_block ?_
  refine kw_loop (fun mu L wr' => ∃ k, k ≤ m ∧ mu = m - k ∧ wr' = wr ∧ noClash s f a k ∧ L = [(2, .pointer (some ⟨g2, 0, none⟩)), (3, .pointer (some ⟨g3, 0, none⟩)), (4, .pointer (some ⟨g4, 0, none⟩)), (58, .slice Af m cf), (59, .int .i64 (m : Int)), (60, .int .i64 (k : Int))]) ⟨0, by omega, rfl, rfl, fun i hi => by omega, rfl⟩ ?_
  rintro mu L wr' ⟨k, hk, rfl, rfl, hno, rfl⟩
  have HNO := Lib.hid hno
  clear hno
  by_cases hlt : k < m
  case neg =>
    obtain rfl : k = m := by omega
    have hc := clash_no hfa (by rw [HM.out]; exact HNO.out)
    have HC := Lib.hid hc
    clear hc h
    repeat (first | refine kw_seq ?_ | refine kw_block ?_ | refine kw_skip ?_ | refine kw_region ?_ | refine kl_nil ?_ | refine kq_then ?_ | refine kq_block ?_ | refine kw_exit ?_ | refine kq_then_exit ?_ | refine kq_block_here rfl ?_ | refine kq_block_far rfl ?_ | refine kq_again_exit ?_ | refine kw_ret ?_ | refine kq_then_ret ?_ | refine kq_block_ret ?_ | refine kq_again_ret ?_ | refine kw_ift rfl ?_ | refine kw_iff rfl ?_ | refine kl_ung rfl rfl ?_ | refine kl_skipg rfl rfl rfl rfl ?_ | refine kl_skipg0 rfl rfl rfl ?_ | (first | refine kl_move rfl rfl (.inl rfl) rfl rfl ?_ | refine kl_move rfl rfl (.inr rfl) rfl rfl ?_ | refine kl_const rfl rfl (.inl rfl) rfl ?_ | refine kl_const rfl rfl (.inr rfl) rfl ?_) | ((first | refine kl_step rfl rfl rfl fun K hK => ?_ | refine kl_step0 rfl rfl rfl fun K hK => ?_); go_simp; (try go_bits); (first | refine hK _ _ ?_ | refine hK _ ?_); clear hK K))
    refine KQ.less [2, 3, 4] ?_
    simp only [nrm, lk, Nat.reduceBEq, cond_true, cond_false]
    exact HQ.out HC.out
  have hk1 : (k : Int) < m := by omega
  have hk0 : (0 : Int) ≤ k := by omega
  obtain ⟨b, o, x, rfl, hcell, _, hgx⟩ := h.bs.next hlt
  obtain ⟨q, hq⟩ : ∃ q, a + k = q := ⟨_, rfl⟩
  have q0 : (0 : Int) ≤ a := by omega
  have e1 : IntKind.i64.wrap ((a : Int) + k) = q := by rw [IntWalk.i64_in _ (by omega)]; omega
  have e2 : (a : Int) + k = q := by omega
  have hqn : q < n := by omega
  have q1 : (q : Int) < n := by omega
  have q2 : (0 : Int) ≤ q := by omega
  obtain ⟨y, hy⟩ : ∃ y, s.data[q]? = some y := ⟨_, List.getElem?_eq_getElem (by rw [HD.out]; exact hqn)⟩
  obtain ⟨z, hz⟩ : ∃ z, s.got[q]? = some z := ⟨_, List.getElem?_eq_getElem (by rw [HG.out]; exact hqn)⟩
  have cy : wr'.cell? ⟨gd, q, none⟩ = some (.int .u8 (y.toNat : Int)) := own_at h.data (by rw [bv_get _ _ (by rw [HD.out]; exact hqn)]; rw [List.getElem?_eq_getElem (by rw [HD.out]; exact hqn)] at hy; injection hy with hy; rw [hy])
  have cz : wr'.cell? ⟨gg, q, none⟩ = some (.bool z) := own_at h.got (by rw [bls_get _ _ (by rw [HG.out]; exact hqn)]; rw [List.getElem?_eq_getElem (by rw [HG.out]; exact hqn)] at hz; injection hz with hz; rw [hz])
  have k34 := ses_cell h.h2 (ses_34 s _ _ HS.out)
  have k35 := ses_cell h.h2 (ses_35 s _ _ HS.out)
  have k3 := frm_cell h.h3 (frm_3 f _)
  rw [hfa] at k3
  have HY := Lib.hid hy
  have HZ := Lib.hid hz
  have n1 : (n : Int) ≤ cd := by omega
  have n2 : (n : Int) ≤ cg := by omega
  have H2 := Lib.hid h.h2
  have H4 := Lib.hid h.h4
  have HQE := Lib.hid hq
  clear hy hz hq h
  by_cases hcl : z = true ∧ y ≠ x
  · obtain ⟨rfl, hne⟩ := hcl
    have d1 : ((y.toNat : Int) != x.toNat) = true := by rw [bne_iff_ne]; intro h; exact hne (UInt8.toNat_inj.1 (by omega))
    have hc : clash s f = true := clash_yes hfa (by rw [HM.out]; exact hlt) hgx.out (by rw [HQE.out]; exact HZ.out) (by rw [HQE.out]; exact HY.out) hne
    have HC := Lib.hid hc
    clear hne hc
    repeat (first | refine kw_seq ?_ | refine kw_block ?_ | refine kw_skip ?_ | refine kw_region ?_ | refine kl_nil ?_ | refine kq_then ?_ | refine kq_block ?_ | refine kw_exit ?_ | refine kq_then_exit ?_ | refine kq_block_here rfl ?_ | refine kq_block_far rfl ?_ | refine kq_again_exit ?_ | refine kw_ret ?_ | refine kq_then_ret ?_ | refine kq_block_ret ?_ | refine kq_again_ret ?_ | refine kw_ift rfl ?_ | refine kw_iff rfl ?_ | refine kl_ung rfl rfl ?_ | refine kl_skipg rfl rfl rfl rfl ?_ | refine kl_skipg0 rfl rfl rfl ?_ | (first | refine kl_move rfl rfl (.inl rfl) rfl rfl ?_ | refine kl_move rfl rfl (.inr rfl) rfl rfl ?_ | refine kl_const rfl rfl (.inl rfl) rfl ?_ | refine kl_const rfl rfl (.inr rfl) rfl ?_) | ((first | refine kl_step rfl rfl rfl fun K hK => ?_ | refine kl_step0 rfl rfl rfl fun K hK => ?_); go_simp; (try go_bits); (first | refine hK _ _ ?_ | refine hK _ ?_); clear hK K))
    refine kl_load_row 32 g2 _ _ _ _ H2.out Try.underlying32 rfl (infoS s _ _ HS.out) rfl rfl rfl rfl rfl ?_
    refine kl_store_row 32 g4 _ _ zSes.toArray H4.out (infoS s _ _ HS.out) (sizeZ s _ _ HS.out) (sesV_one _ _ _ rfl rfl) rfl rfl rfl rfl rfl ?_
    repeat (first | refine kw_seq ?_ | refine kw_block ?_ | refine kw_skip ?_ | refine kw_region ?_ | refine kl_nil ?_ | refine kq_then ?_ | refine kq_block ?_ | refine kw_exit ?_ | refine kq_then_exit ?_ | refine kq_block_here rfl ?_ | refine kq_block_far rfl ?_ | refine kq_again_exit ?_ | refine kw_ret ?_ | refine kq_then_ret ?_ | refine kq_block_ret ?_ | refine kq_again_ret ?_ | refine kw_ift rfl ?_ | refine kw_iff rfl ?_ | refine kl_ung rfl rfl ?_ | refine kl_skipg rfl rfl rfl rfl ?_ | refine kl_skipg0 rfl rfl rfl ?_ | (first | refine kl_move rfl rfl (.inl rfl) rfl rfl ?_ | refine kl_move rfl rfl (.inr rfl) rfl rfl ?_ | refine kl_const rfl rfl (.inl rfl) rfl ?_ | refine kl_const rfl rfl (.inr rfl) rfl ?_) | ((first | refine kl_step rfl rfl rfl fun K hK => ?_ | refine kl_step0 rfl rfl rfl fun K hK => ?_); go_simp; (try go_bits); (first | refine hK _ _ ?_ | refine hK _ ?_); clear hK K))
    refine KQ.less [4, 5] ?_
    simp only [nrm, lk, Nat.reduceBEq, cond_true, cond_false]
    exact HR.out HC.out
  · have hno : noClash s f a (k + 1) := by
      intro i hi
      rcases Nat.lt_or_ge i k with h | h
      · exact HNO.out i h
      · obtain rfl : i = k := by omega
        rw [HQE.out, List.getD_eq_getElem?_getD, HZ.out, List.getD_eq_getElem?_getD, HY.out, List.getD_eq_getElem?_getD, hgx.out]
        exact hcl
    have HN2 := Lib.hid hno
    clear hno
    have hcase : z = false ∨ (z = true ∧ y = x) := by
      cases z
      · exact .inl rfl
      · refine .inr ⟨rfl, Classical.byContradiction fun h => hcl ⟨rfl, h⟩⟩
    clear hcl
    rcases hcase with rfl | ⟨rfl, rfl⟩
    all_goals
      repeat (first | refine kw_seq ?_ | refine kw_block ?_ | refine kw_skip ?_ | refine kw_region ?_ | refine kl_nil ?_ | refine kq_then ?_ | refine kq_block ?_ | refine kw_exit ?_ | refine kq_then_exit ?_ | refine kq_block_here rfl ?_ | refine kq_block_far rfl ?_ | refine kq_again_exit ?_ | refine kw_ret ?_ | refine kq_then_ret ?_ | refine kq_block_ret ?_ | refine kq_again_ret ?_ | refine kw_ift rfl ?_ | refine kw_iff rfl ?_ | refine kl_ung rfl rfl ?_ | refine kl_skipg rfl rfl rfl rfl ?_ | refine kl_skipg0 rfl rfl rfl ?_ | (first | refine kl_move rfl rfl (.inl rfl) rfl rfl ?_ | refine kl_move rfl rfl (.inr rfl) rfl rfl ?_ | refine kl_const rfl rfl (.inl rfl) rfl ?_ | refine kl_const rfl rfl (.inr rfl) rfl ?_) | ((first | refine kl_step rfl rfl rfl fun K hK => ?_ | refine kl_step0 rfl rfl rfl fun K hK => ?_); go_simp; (try go_bits); (first | refine hK _ _ ?_ | refine hK _ ?_); clear hK K))
      refine kq_again (m - (k + 1)) [2, 3, 4, 58, 59, 60] (by omega) ?_
      simp only [nrm, lk, Nat.reduceBEq, cond_true, cond_false]
      exact ⟨k + 1, by omega, rfl, trivial, HN2.out, by congr 1⟩
end Go.Proofs.Ytkgenkkcgegcbaa
