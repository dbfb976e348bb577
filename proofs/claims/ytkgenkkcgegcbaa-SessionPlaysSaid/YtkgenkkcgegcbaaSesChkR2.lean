/- The document's Chunk (chapter 17): its second loop. -/
import Derived.Test.YtkgenkkcgegcbaaSesChkR1
namespace Go.Proofs.Ytkgenkkcgegcbaa
open Go.RowKit
attribute [local go_sem] ev_tmp ev_const ev_func ev_global lk_hit lk_miss uponK_value uponK_skip look_tmp look_const look_global look_func valP_value
theorem bls_set' (l : List Bool) (i : Nat) (x : Bool) : (bls l).set i (.bool x) = bls (l.set i x) := by simp [bls, List.map_set]
structure CkW (w : World) (B n g2 g3 g4 gd gg cd cg : Nat) (s : Ses) (f : Frm) (DF : Value) (dat : List UInt8) (gt : List Bool) (wr : World) : Prop where
  lay : Lay w wr [(g4, zSes.toArray, 36), (g3, (frmV f DF).toArray, 39), (g2, (sesV s (.slice (some ⟨gd, 0, none⟩) n cd) (.slice (some ⟨gg, 0, none⟩) n cg)).toArray, 36)]
  data : wr.ownsRow B 5 1 (.slice (some ⟨gd, 0, none⟩) n cd) n (bv dat)
  got : wr.ownsRow B 4 1 (.slice (some ⟨gg, 0, none⟩) n cg) n (bls gt)
  frm : FrmM wr f DF
structure CkA (w : World) (B g2 g3 g4 gd gg : Nat) (DF : Value) : Prop where
  ndg : gd ≠ gg
  bd : B ≤ gd
  bg : B ≤ gg
  b2 : g2 < B
  b3 : g3 < B
  b4 : g4 < B
  w0 : w.heap.size ≤ B
  fd : ∀ b o n c, DF = .slice (some ⟨b, o, none⟩) n c → b < B
set_option maxRecDepth 100000 in
set_option maxHeartbeats 1000000 in
theorem chkR_loop2 {Q : Exit → Act → World → Prop} {w wr : World} {B n m a g2 g3 g4 gd gg cd cg : Nat} {s : Ses} {f : Frm} {DF : Value} (ha : CkA w B g2 g3 g4 gd gg DF) (hcd : n ≤ cd) (hcd2 : cd ≤ 9223372036854775807) (hcg : n ≤ cg) (hcg2 : cg ≤ 9223372036854775807)
    (hn : n ≤ 1000000) (ham : a + m ≤ n) (hfa : f.at_ = a) (HS : Hid (s.sum.length = 32)) (HD : Hid (s.data.length = n)) (HG : Hid (s.got.length = n)) (HM : Hid (f.data.length = m)) (h : CkW w B n g2 g3 g4 gd gg cd cg s f DF s.data s.got wr)
    (hQ : ∀ wr', CkW w B n g2 g3 g4 gd gg cd cg s f DF (layK s.data a f.data m) (layK s.got a (List.replicate m true) m) wr' → KQ Q .normal 111 [(2, .pointer (some ⟨g2, 0, none⟩)), (4, .pointer (some ⟨g4, 0, none⟩))] wr') :
    KW Try.prog (blockOf Try.f17 2) Q 111 [(2, .pointer (some ⟨g2, 0, none⟩)), (3, .pointer (some ⟨g3, 0, none⟩)), (4, .pointer (some ⟨g4, 0, none⟩)), (7, .int .i64 0)] wr := by
  conv => arg 2; whnf
  have HQ := Lib.hid hQ
  have H := Lib.hid h
  have HA := Lib.hid ha
  clear hQ h ha
  refine kw_block ?_
  refine kw_loop (fun mm L W => ∃ k, k ≤ m ∧ mm = m - k ∧ CkW w B n g2 g3 g4 gd gg cd cg s f DF (layK s.data a f.data k) (layK s.got a (List.replicate m true) k) W ∧ L = [(2, .pointer (some ⟨g2, 0, none⟩)), (3, .pointer (some ⟨g3, 0, none⟩)), (4, .pointer (some ⟨g4, 0, none⟩)), (7, .int .i64 (k : Int))]) ⟨0, by omega, rfl, by rw [layK_zero, layK_zero]; exact H.out, rfl⟩ ?_
  clear H
  rintro mm L W ⟨k, hk, rfl, hC, rfl⟩
  have H := Lib.hid hC
  obtain ⟨hL, hD, hG, hF⟩ := hC
  have HFL := Lib.hid hF.sum
  obtain ⟨AF, nF, cF, eF, hBF, hF1, hF2⟩ := hF.data
  have enF : nF = m := by rw [← hBF.len]; exact HM.out
  subst eF
  subst enF
  have z36 := hL.get (j := 36) 1 rfl (frm_36 f (.slice AF nF cF) HFL.out)
  by_cases hlt : k < nF
  · have hk1 : (k : Int) < nF := by omega
    have hk0 : (0 : Int) ≤ k := by omega
    have t1 : decide ((k : Int) < (nF : Int)) = true := by rw [decide_eq_true_eq]; omega
    obtain ⟨ak, hak⟩ : ∃ ak, a + k = ak := ⟨_, rfl⟩
    have j3 : (a : Int) + (k : Int) = (ak : Int) := by omega
    have j4 : IntKind.i64.wrap ((a : Int) + (k : Int)) = (ak : Int) := by rw [j3, IntWalk.i64_in _ (by omega)]
    have j0 : (0 : Int) ≤ ak := by omega
    have j1 : (ak : Int) < n := by omega
    have hakn : ak < n := by omega
    have HAK := Lib.hid hak
    obtain ⟨b3, o3, z, eb3, hcz, _, hgz⟩ := hBF.next hlt
    subst eb3
    have HZ := Lib.hid hgz.out
    have ld : (layK s.data a f.data k).length = n := by rw [length_layK _ _ _ _ (by rw [HM.out]; omega) (by rw [HD.out]; omega)]; exact HD.out
    have lg : (layK s.got a (List.replicate nF true) k).length = n := by rw [length_layK _ _ _ _ (by simp; omega) (by rw [HG.out]; omega)]; exact HG.out
    obtain ⟨x, hx⟩ : ∃ x, (layK s.data a f.data k)[ak]? = some x := ⟨_, List.getElem?_eq_getElem (by omega)⟩
    obtain ⟨y, hy⟩ : ∃ y, (layK s.got a (List.replicate nF true) k)[ak]? = some y := ⟨_, List.getElem?_eq_getElem (by omega)⟩
    have cd1 : W.cell? ⟨gd, ak, none⟩ = some (.int .u8 (x.toNat : Int)) := own_cell hD hx
    have cg1 : W.cell? ⟨gg, ak, none⟩ = some (.bool y) := own_at hG (by simp [bls, hy])
    have fd1 : W.frozen? ⟨gd, ak, none⟩ = false := own_free hD
    have fg1 : W.frozen? ⟨gg, ak, none⟩ = false := own_free hG
    have hsD : (layK s.data a f.data k).set ak z = layK s.data a f.data (k + 1) := by rw [← hak]; exact layK_set _ _ _ _ _ HZ.out (by rw [HD.out]; omega)
    have hsG : (layK s.got a (List.replicate nF true) k).set ak true = layK s.got a (List.replicate nF true) (k + 1) := by rw [← hak]; exact layK_set _ _ _ _ _ (by rw [List.getElem?_replicate, if_pos hlt]) (by rw [HG.out]; omega)
    have ndg := HA.out.ndg
    have hb3 : b3 < B := HA.out.fd _ _ _ _ rfl
    have n3d : b3 ≠ gd := by have := HA.out.bd; omega
    have hL2 : Lay w (W.drew.setCell ⟨gd, ak, none⟩ (.int .u8 (z.toNat : Int))) _ := hL.drew.far ⟨gd, ak, none⟩ (.int .u8 (z.toNat : Int)) (by have h1 := HA.out.b2; have h2 := HA.out.b3; have h3 := HA.out.b4; have h4 := HA.out.bd; intro p hp; simp only [List.mem_cons, List.not_mem_nil, or_false] at hp; rcases hp with rfl | rfl | rfl <;> simp only <;> omega) (by have h1 := HA.out.w0; have h2 := HA.out.bd; show w.heap.size ≤ gd; omega)
    have hL3 : Lay w ((W.drew.setCell ⟨gd, ak, none⟩ (.int .u8 (z.toNat : Int))).setCell ⟨gg, ak, none⟩ (.bool true)) _ := hL2.far ⟨gg, ak, none⟩ (.bool true) (by have h1 := HA.out.b2; have h2 := HA.out.b3; have h3 := HA.out.b4; have h4 := HA.out.bg; intro p hp; simp only [List.mem_cons, List.not_mem_nil, or_false] at hp; rcases hp with rfl | rfl | rfl <;> simp only <;> omega) (by have h1 := HA.out.w0; have h2 := HA.out.bg; show w.heap.size ≤ gg; omega)
    have hD2 : (W.drew.setCell ⟨gd, ak, none⟩ (.int .u8 (z.toNat : Int))).ownsRow B 5 1 (.slice (some ⟨gd, 0, none⟩) n cd) n (bv (layK s.data a f.data (k + 1))) := by rw [← hsD, ← bv_set']; exact own_store (own_drew hD) _ _
    have hD3 : ((W.drew.setCell ⟨gd, ak, none⟩ (.int .u8 (z.toNat : Int))).setCell ⟨gg, ak, none⟩ (.bool true)).ownsRow B 5 1 (.slice (some ⟨gd, 0, none⟩) n cd) n (bv (layK s.data a f.data (k + 1))) := own_farCell hD2 ndg _
    have hG2 : (W.drew.setCell ⟨gd, ak, none⟩ (.int .u8 (z.toNat : Int))).ownsRow B 4 1 (.slice (some ⟨gg, 0, none⟩) n cg) n (bls (layK s.got a (List.replicate nF true) k)) := own_farCell (own_drew hG) (Ne.symm ndg) _
    have hG3 : ((W.drew.setCell ⟨gd, ak, none⟩ (.int .u8 (z.toNat : Int))).setCell ⟨gg, ak, none⟩ (.bool true)).ownsRow B 4 1 (.slice (some ⟨gg, 0, none⟩) n cg) n (bls (layK s.got a (List.replicate nF true) (k + 1))) := by rw [← hsG, ← bls_set']; exact own_store hG2 _ _
    have cg2 : (W.drew.setCell ⟨gd, ak, none⟩ (.int .u8 (z.toNat : Int))).cell? ⟨gg, ak, none⟩ = some (.bool y) := own_at hG2 (by simp [bls, hy])
    have fg2 : (W.drew.setCell ⟨gd, ak, none⟩ (.int .u8 (z.toNat : Int))).frozen? ⟨gg, ak, none⟩ = false := own_free hG2
    have hF2' : FrmM (W.drew.setCell ⟨gd, ak, none⟩ (.int .u8 (z.toNat : Int))) f (.slice (some ⟨b3, o3, none⟩) nF cF) := ⟨hF.kind, hF.id, hF.size, hF.at_, hF.sum, hF.data.set (fun b o n c e => by injection e with e _ _; injection e with e; injection e with e _; rw [← e]; exact n3d) _⟩
    have hF3' : FrmM ((W.drew.setCell ⟨gd, ak, none⟩ (.int .u8 (z.toNat : Int))).setCell ⟨gg, ak, none⟩ (.bool true)) f (.slice (some ⟨b3, o3, none⟩) nF cF) := ⟨hF.kind, hF.id, hF.size, hF.at_, hF.sum, hF2'.data.set (fun b o n c e => by injection e with e _ _; injection e with e; injection e with e _; rw [← e]; have := HA.out.bg; show b3 ≠ gg; omega) _⟩
    have R1 : Hold [(g2, .cells (sesV s (.slice (some ⟨gd, 0, none⟩) n cd) (.slice (some ⟨gg, 0, none⟩) n cg)).toArray 36 (0, 0)), (g3, .cells (frmV f (.slice (some ⟨b3, o3, none⟩) nF cF)).toArray 39 (0, 0))] W.drew ∧ W.drew.cell? ⟨b3, o3 + k, none⟩ = some (.int .u8 (z.toNat : Int)) := ⟨.cons (hL.at_ 2 rfl) (.cons (hL.at_ 1 rfl) (.nil _)), hcz⟩
    have R2 : Hold [(g2, .cells (sesV s (.slice (some ⟨gd, 0, none⟩) n cd) (.slice (some ⟨gg, 0, none⟩) n cg)).toArray 36 (0, 0)), (g3, .cells (frmV f (.slice (some ⟨b3, o3, none⟩) nF cF)).toArray 39 (0, 0))] (W.drew.setCell ⟨gd, ak, none⟩ (.int .u8 (z.toNat : Int))) ∧ (W.drew.setCell ⟨gd, ak, none⟩ (.int .u8 (z.toNat : Int))).cell? ⟨b3, o3 + k, none⟩ = some (.int .u8 (z.toNat : Int)) := ⟨.cons (hL2.at_ 2 rfl) (.cons (hL2.at_ 1 rfl) (.nil _)), cell_far hcz n3d⟩
    have R3 : Hold [(g2, .cells (sesV s (.slice (some ⟨gd, 0, none⟩) n cd) (.slice (some ⟨gg, 0, none⟩) n cg)).toArray 36 (0, 0)), (g3, .cells (frmV f (.slice (some ⟨b3, o3, none⟩) nF cF)).toArray 39 (0, 0))] ((W.drew.setCell ⟨gd, ak, none⟩ (.int .u8 (z.toNat : Int))).setCell ⟨gg, ak, none⟩ (.bool true)) ∧ ((W.drew.setCell ⟨gd, ak, none⟩ (.int .u8 (z.toNat : Int))).setCell ⟨gg, ak, none⟩ (.bool true)).cell? ⟨b3, o3 + k, none⟩ = some (.int .u8 (z.toNat : Int)) := ⟨.cons (hL3.at_ 2 rfl) (.cons (hL3.at_ 1 rfl) (.nil _)), cell_far R2.2 (by have := HA.out.bg; show b3 ≠ gg; omega)⟩
    have H3 : Hid (CkW w B n g2 g3 g4 gd gg cd cg s f (.slice (some ⟨b3, o3, none⟩) nF cF) (layK s.data a f.data (k + 1)) (layK s.got a (List.replicate nF true) (k + 1)) ((W.drew.setCell ⟨gd, ak, none⟩ (.int .u8 (z.toNat : Int))).setCell ⟨gg, ak, none⟩ (.bool true))) := ⟨hL3, hD3, hG3, hF3'⟩
    have HR1 := Lib.hid R1
    have HR2 := Lib.hid R2
    have HR3 := Lib.hid R3
    clear hL2 hL3 hD2 hD3 hG2 hG3 hF2' hF3' R1 R2 R3 hsD hsG hx hy ld lg hak hcz hgz hBF hL hD hG hF
    repeat (first | refine kw_seq ?_ | refine kw_region ?_ | refine kl_nil ?_ | refine kq_then ?_ | refine kw_ift rfl ?_ | refine kw_skip ?_ | (first | refine kl_move rfl rfl (.inl rfl) rfl rfl ?_ | refine kl_move rfl rfl (.inr rfl) rfl rfl ?_ | refine kl_const rfl rfl (.inl rfl) rfl ?_ | refine kl_const rfl rfl (.inr rfl) rfl ?_) | ((first | refine kl_step rfl rfl rfl fun K hK => ?_ | refine kl_step0 rfl rfl rfl fun K hK => ?_); go_simp; (try go_bits); (first | refine hK _ _ ?_ | refine hK _ ?_); clear hK K))
    refine kw_block ?_
    repeat (refine kw_seq ?_)
    clear z36
    refine kw_region_f (fun W' => Hold [(g2, .cells (sesV s (.slice (some ⟨gd, 0, none⟩) n cd) (.slice (some ⟨gg, 0, none⟩) n cg)).toArray 36 (0, 0)), (g3, .cells (frmV f (.slice (some ⟨b3, o3, none⟩) nF cF)).toArray 39 (0, 0))] W' ∧ W'.cell? ⟨b3, o3 + k, none⟩ = some (.int .u8 (z.toNat : Int))) [true, true, true, true, true, true, true, true, true, true, true, true, true, true, true, true, true, true, false, true, false] (by kernel_rfl) (by kernel_rfl) HR1.out ?_
    have q34 := fun W' (h : Hold [(g2, .cells (sesV s (.slice (some ⟨gd, 0, none⟩) n cd) (.slice (some ⟨gg, 0, none⟩) n cg)).toArray 36 (0, 0)), (g3, .cells (frmV f (.slice (some ⟨b3, o3, none⟩) nF cF)).toArray 39 (0, 0))] W' ∧ W'.cell? ⟨b3, o3 + k, none⟩ = some (.int .u8 (z.toNat : Int))) => Hold.cell 0 rfl (ses_34 s (.slice (some ⟨gd, 0, none⟩) n cd) (.slice (some ⟨gg, 0, none⟩) n cg) HS.out) W' h.1
    have q35 := fun W' (h : Hold [(g2, .cells (sesV s (.slice (some ⟨gd, 0, none⟩) n cd) (.slice (some ⟨gg, 0, none⟩) n cg)).toArray 36 (0, 0)), (g3, .cells (frmV f (.slice (some ⟨b3, o3, none⟩) nF cF)).toArray 39 (0, 0))] W' ∧ W'.cell? ⟨b3, o3 + k, none⟩ = some (.int .u8 (z.toNat : Int))) => Hold.cell 0 rfl (ses_35 s (.slice (some ⟨gd, 0, none⟩) n cd) (.slice (some ⟨gg, 0, none⟩) n cg) HS.out) W' h.1
    have p3 := fun W' (h : Hold [(g2, .cells (sesV s (.slice (some ⟨gd, 0, none⟩) n cd) (.slice (some ⟨gg, 0, none⟩) n cg)).toArray 36 (0, 0)), (g3, .cells (frmV f (.slice (some ⟨b3, o3, none⟩) nF cF)).toArray 39 (0, 0))] W' ∧ W'.cell? ⟨b3, o3 + k, none⟩ = some (.int .u8 (z.toNat : Int))) => Hold.cell 1 rfl (frm_3 f (.slice (some ⟨b3, o3, none⟩) nF cF)) W' h.1
    have p36 := fun W' (h : Hold [(g2, .cells (sesV s (.slice (some ⟨gd, 0, none⟩) n cd) (.slice (some ⟨gg, 0, none⟩) n cg)).toArray 36 (0, 0)), (g3, .cells (frmV f (.slice (some ⟨b3, o3, none⟩) nF cF)).toArray 39 (0, 0))] W' ∧ W'.cell? ⟨b3, o3 + k, none⟩ = some (.int .u8 (z.toNat : Int))) => Hold.cell 1 rfl (frm_36 f (.slice (some ⟨b3, o3, none⟩) nF cF) HFL.out) W' h.1
    have p0 := fun W' (h : Hold [(g2, .cells (sesV s (.slice (some ⟨gd, 0, none⟩) n cd) (.slice (some ⟨gg, 0, none⟩) n cg)).toArray 36 (0, 0)), (g3, .cells (frmV f (.slice (some ⟨b3, o3, none⟩) nF cF)).toArray 39 (0, 0))] W' ∧ W'.cell? ⟨b3, o3 + k, none⟩ = some (.int .u8 (z.toNat : Int))) => h.2
    rw [hfa] at p3
    repeat (first | refine kf_nil ?_ | refine kf_ung rfl rfl ?_ | refine kf_skipg rfl rfl rfl rfl ?_ | (first | refine kf_move rfl rfl (.inl rfl) rfl rfl ?_ | refine kf_move rfl rfl (.inr rfl) rfl rfl ?_ | refine kf_const rfl rfl (.inl rfl) rfl ?_ | refine kf_const rfl rfl (.inr rfl) rfl ?_) | (refine kf_val rfl rfl rfl ?_; apply Exists.intro; refine And.intro (fun W hW N hN => ?_) ?_; · (go_simp; (try go_bits); exact hN)))
    refine kf_ch ?_
    ((first | refine kl_step rfl rfl rfl fun K hK => ?_ | refine kl_step0 rfl rfl rfl fun K hK => ?_); go_simp; (try go_bits); (first | refine hK _ _ ?_ | refine hK _ ?_); clear hK K)
    refine kl_nil ?_
    refine kq_f HR2.out ?_
    repeat (first | refine kf_nil ?_ | refine kf_ung rfl rfl ?_ | refine kf_skipg rfl rfl rfl rfl ?_ | (first | refine kf_move rfl rfl (.inl rfl) rfl rfl ?_ | refine kf_move rfl rfl (.inr rfl) rfl rfl ?_ | refine kf_const rfl rfl (.inl rfl) rfl ?_ | refine kf_const rfl rfl (.inr rfl) rfl ?_) | (refine kf_val rfl rfl rfl ?_; apply Exists.intro; refine And.intro (fun W hW N hN => ?_) ?_; · (go_simp; (try go_bits); exact hN)))
    refine kf_ch ?_
    ((first | refine kl_step rfl rfl rfl fun K hK => ?_ | refine kl_step0 rfl rfl rfl fun K hK => ?_); go_simp; (try go_bits); (first | refine hK _ _ ?_ | refine hK _ ?_); clear hK K)
    refine kl_nil ?_
    refine kq_f HR3.out ?_
    repeat (first | refine kf_nil ?_ | refine kf_ung rfl rfl ?_ | refine kf_skipg rfl rfl rfl rfl ?_ | (first | refine kf_move rfl rfl (.inl rfl) rfl rfl ?_ | refine kf_move rfl rfl (.inr rfl) rfl rfl ?_ | refine kf_const rfl rfl (.inl rfl) rfl ?_ | refine kf_const rfl rfl (.inr rfl) rfl ?_) | (refine kf_val rfl rfl rfl ?_; apply Exists.intro; refine And.intro (fun W hW N hN => ?_) ?_; · (go_simp; (try go_bits); exact hN)))
    refine kq_block ?_
    refine kq_then ?_
    clear q34 q35 p3 p36 p0 cd1 cg1 fd1 fg1 cg2 fg2 HR1 HR2 HR3
    obtain ⟨nk, hnk⟩ : ∃ nk, k + 1 = nk := ⟨_, rfl⟩
    have i3 : (k : Int) + 1 = (nk : Int) := by omega
    have i4 : IntKind.i64.wrap ((k : Int) + 1) = (nk : Int) := by rw [i3, IntWalk.i64_in _ (by omega)]
    rw [hnk] at H3
    have HNK := Lib.hid hnk
    clear hnk
    repeat (first | refine kw_seq ?_ | refine kw_region ?_ | (first | refine kl_move rfl rfl (.inl rfl) rfl rfl ?_ | refine kl_move rfl rfl (.inr rfl) rfl rfl ?_ | refine kl_const rfl rfl (.inl rfl) rfl ?_ | refine kl_const rfl rfl (.inr rfl) rfl ?_) | ((first | refine kl_step rfl rfl rfl fun K hK => ?_ | refine kl_step0 rfl rfl rfl fun K hK => ?_); go_simp; (try go_bits); (first | refine hK _ _ ?_ | refine hK _ ?_); clear hK K))
    refine kl_nil ?_
    have hnk := HNK.out
    refine kq_again (nF - nk) [2, 3, 4, 7] (by omega) ?_
    exact ⟨nk, by omega, rfl, H3.out, rfl⟩
  · obtain rfl : k = nF := by omega
    have t1 : decide ((k : Int) < (k : Int)) = false := by simp
    clear hlt hL hD hG hF hBF
    repeat (first | refine kw_seq ?_ | refine kw_block ?_ | refine kw_skip ?_ | refine kw_region ?_ | refine kl_nil ?_ | refine kq_then ?_ | refine kq_block ?_ | refine kw_exit ?_ | refine kq_then_exit ?_ | refine kq_block_here rfl ?_ | refine kq_block_far rfl ?_ | refine kq_again_exit ?_ | refine kw_ret ?_ | refine kq_then_ret ?_ | refine kq_block_ret ?_ | refine kq_again_ret ?_ | refine kw_ift rfl ?_ | refine kw_iff rfl ?_ | refine kl_ung rfl rfl ?_ | refine kl_skipg rfl rfl rfl rfl ?_ | refine kl_skipg0 rfl rfl rfl ?_ | (first | refine kl_move rfl rfl (.inl rfl) rfl rfl ?_ | refine kl_move rfl rfl (.inr rfl) rfl rfl ?_ | refine kl_const rfl rfl (.inl rfl) rfl ?_ | refine kl_const rfl rfl (.inr rfl) rfl ?_) | ((first | refine kl_step rfl rfl rfl fun K hK => ?_ | refine kl_step0 rfl rfl rfl fun K hK => ?_); go_simp; (try go_bits); (first | refine hK _ _ ?_ | refine hK _ ?_); clear hK K))
    refine KQ.less [2, 4] ?_
    simp only [nrm, lk, Nat.reduceBEq, cond_true, cond_false]
    exact HQ.out _ H.out
end Go.Proofs.Ytkgenkkcgegcbaa
