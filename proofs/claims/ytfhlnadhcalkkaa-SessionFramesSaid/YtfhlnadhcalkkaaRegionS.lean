/- SessionKinds: frames that are not too much, good ones. A region that draws its order: an operation that stores. No program in sight. -/
import Derived.Test.YtfhlnadhcalkkaaSesLong
import Derived.Test.YtfhlnadhcalkkaaRegionL
namespace Go.Proofs.Ytfhlnadhcalkkaa
open Go.RowKit
attribute [local go_sem] ev_tmp ev_const ev_func ev_global lk_hit lk_miss uponK_value uponK_skip look_tmp look_const look_global look_func valP_value
theorem few17_any (f : Frm) (D : Value) (w : World) (hM : FrmM w f D) :
    Calls Try.prog 15 #[.agg (frmV f D).toArray] w fun e w' => e = .returned (.bool (decide (f.data.length ≤ 120))) ∧ Below w.heap.size w w' := by
  have HS := Lib.hid hM.sum
  obtain ⟨AD, nD, cD, rfl, hBD, _, _⟩ := hM.data
  have HL := Lib.hid hBD.len
  refine calls_kw Try.func15 rfl Try.ntmps15 rfl [(0, .agg (frmV f (.slice AD nD cD)).toArray)] rfl ?_
  refine kw_seq ?_
  refine kw_region ?_
  refine kl_boxL (Lay.start w) rfl rfl rfl rfl rfl ?_
  intro g1 w1 eg1 hb1 hL
  clear eg1 hb1 hM hBD
  have c36 := hL.get (j := 36) 0 rfl (frm_36 f _ HS.out)
  rw [HL.out]
  have t1 : decide ((nD : Int) ≤ 120) = decide (nD ≤ 120) := by
    by_cases h : nD ≤ 120
    · rw [decide_eq_true h, decide_eq_true_eq]; omega
    · rw [decide_eq_false h, decide_eq_false_iff_not]; omega
  repeat (first | refine kw_seq ?_ | refine kw_block ?_ | refine kw_skip ?_ | refine kw_region ?_ | refine kl_nil ?_ | refine kq_then ?_ | refine kq_block ?_ | refine kw_exit ?_ | refine kq_then_exit ?_ | refine kq_block_here rfl ?_ | refine kq_block_far rfl ?_ | refine kq_again_exit ?_ | refine kw_ret ?_ | refine kq_then_ret ?_ | refine kq_block_ret ?_ | refine kq_again_ret ?_ | refine kw_ift rfl ?_ | refine kw_iff rfl ?_ | refine kl_ung rfl rfl ?_ | refine kl_skipg rfl rfl rfl rfl ?_ | refine kl_skipg0 rfl rfl rfl ?_ | (first | refine kl_move rfl rfl (.inl rfl) rfl rfl ?_ | refine kl_move rfl rfl (.inr rfl) rfl rfl ?_ | refine kl_const rfl rfl (.inl rfl) rfl ?_ | refine kl_const rfl rfl (.inr rfl) rfl ?_) | ((first | refine kl_step rfl rfl rfl fun K hK => ?_ | refine kl_step0 rfl rfl rfl fun K hK => ?_); go_simp; (try go_bits); (first | refine hK _ _ ?_ | refine hK _ ?_); clear hK K))
  exact kq_ret1 rfl rfl ⟨rfl, hL.below⟩
def goodF (f : Frm) : Frm := ⟨((1 + within f.kind 5 : Nat) : Int), f.id, f.size, f.at_, f.sum, f.data.take 64⟩
def GoodP (f : Frm) (D0 : Value) (w : World) (e : Ending) (w' : World) : Prop := ∃ D, e = .returned (.agg (frmV (goodF f) D).toArray) ∧ FrmM w' (goodF f) D ∧ Below w.heap.size w w' ∧ ∀ b o n c, D = .slice (some ⟨b, o, none⟩) n c → ∃ n' c', D0 = .slice (some ⟨b, o, none⟩) n' c'
theorem goodF_kind (f : Frm) : 1 ≤ (goodF f).kind ∧ (goodF f).kind ≤ 5 := by
  have := within_lt f.kind 5 (by omega)
  unfold goodF
  simp only
  omega
theorem goodF_data (f : Frm) : (goodF f).data.length ≤ 64 := by unfold goodF; simp only [List.length_take]; omega
set_option maxRecDepth 100000 in
set_option maxHeartbeats 1000000 in
theorem good17_any (f : Frm) (D : Value) (w : World) (hM : FrmM w f D) (hn : f.data.length ≤ 140737488355328) :
    Calls Try.prog 30 #[.agg (frmV f D).toArray] w (GoodP f D w) := by
  have HS := Lib.hid hM.sum
  have HM := Lib.hid hM
  obtain ⟨AD, nD, cD, rfl, hBD, hnD, hcD⟩ := hM.data
  have HL := Lib.hid hBD.len
  have hn' : nD ≤ 140737488355328 := by rw [← hBD.len]; exact hn
  have HBD := Lib.hid hBD
  refine calls_kw Try.func30 rfl Try.ntmps30 rfl [(0, .agg (frmV f (.slice AD nD cD)).toArray)] rfl ?_
  refine kw_seq ?_
  refine kw_region ?_
  refine kl_boxL (Lay.start w) rfl rfl rfl rfl rfl ?_
  intro g1 w1 eg1 hb1 hL
  refine kl_zeroL hL frmZero rfl rfl rfl rfl ?_
  intro g2 w2 eg2 hb2 hL
  clear eg1 eg2 hb1 hb2 hM hBD hn
  have c0 := hL.get (j := 0) 1 rfl (frm_0 f _)
  have f0 := hL.free 1 rfl 0
  repeat (first | refine kw_seq ?_ | refine kw_block ?_ | refine kw_skip ?_ | refine kw_region ?_ | refine kl_nil ?_ | refine kq_then ?_ | refine kq_block ?_ | refine kw_exit ?_ | refine kq_then_exit ?_ | refine kq_block_here rfl ?_ | refine kq_block_far rfl ?_ | refine kq_again_exit ?_ | refine kw_ret ?_ | refine kq_then_ret ?_ | refine kq_block_ret ?_ | refine kq_again_ret ?_ | refine kw_ift rfl ?_ | refine kw_iff rfl ?_ | refine kl_ung rfl rfl ?_ | refine kl_skipg rfl rfl rfl rfl ?_ | refine kl_skipg0 rfl rfl rfl ?_ | (first | refine kl_move rfl rfl (.inl rfl) rfl rfl ?_ | refine kl_move rfl rfl (.inr rfl) rfl rfl ?_ | refine kl_const rfl rfl (.inl rfl) rfl ?_ | refine kl_const rfl rfl (.inr rfl) rfl ?_) | ((first | refine kl_step rfl rfl rfl fun K hK => ?_ | refine kl_step0 rfl rfl rfl fun K hK => ?_); go_simp; (try go_bits); (first | refine hK _ _ ?_ | refine hK _ ?_); clear hK K))
  refine kl_call rfl rfl rfl Try.func16 rfl (by kernel_rfl) rfl ?_
  refine Calls.mono (within_any f.kind 5 _ _ rfl (by omega) (by omega)) ?_
  rintro e _ ⟨rfl, rfl⟩
  refine ⟨_, rfl, ?_⟩
  have hu := within_lt f.kind 5 (by omega)
  obtain ⟨K, hK⟩ : ∃ K, 1 + within f.kind 5 = K := ⟨_, rfl⟩
  have s1 : (1 : Int) + (within f.kind 5 : Nat) = (K : Int) := by omega
  have s2 : IntKind.i64.wrap ((1 : Int) + (within f.kind 5 : Nat)) = (K : Int) := by rw [s1, IntWalk.i64_in _ (by omega)]
  have hK1 : 1 ≤ K := by omega
  have hK5 : K ≤ 5 := by omega
  have HK := Lib.hid hK
  generalize within f.kind 5 = W5 at s1 s2 ⊢
  clear hK hu
  have hL3 : Lay w (w2.setCell ⟨g1, 0, none⟩ (.int .i64 (K : Int))) [(g2, zFrm.toArray, 29), (g1, (frmV ⟨(K : Int), f.id, f.size, f.at_, f.sum, f.data⟩ (.slice AD nD cD)).toArray, 29)] := hL.cell 1 rfl 0 (.int .i64 (K : Int))
  clear hL
  repeat (first | (first | refine kl_move rfl rfl (.inl rfl) rfl rfl ?_ | refine kl_move rfl rfl (.inr rfl) rfl rfl ?_ | refine kl_const rfl rfl (.inl rfl) rfl ?_ | refine kl_const rfl rfl (.inr rfl) rfl ?_) | ((first | refine kl_step rfl rfl rfl fun K hK => ?_ | refine kl_step0 rfl rfl rfl fun K hK => ?_); go_simp; (try go_bits); (first | refine hK _ _ ?_ | refine hK _ ?_); clear hK K))
  refine kl_nil ?_
  refine kq_then ?_
  clear c0 f0 s1 s2
  have hL := hL3
  clear hL3
  generalize w2.setCell ⟨g1, 0, none⟩ _ = w3 at *
  have hS : (Frm.mk (K : Int) f.id f.size f.at_ f.sum f.data).sum.length = 32 := HS.out
  have c36 := hL.get (j := 36) 1 rfl (frm_36 _ _ hS)
  have f36 := hL.free 1 rfl 36
  obtain ⟨m, hm⟩ : ∃ m, min nD 64 = m := ⟨_, rfl⟩
  have m1 : (if (64 : Int) < (nD : Int) then (64 : Int) else (nD : Int)) = (m : Int) := by split <;> omega
  have m2 : (0 : Int) ≤ m := by omega
  have m3 : (m : Int) ≤ cD := by omega
  have hmn : m ≤ nD := by omega
  have HMM := Lib.hid hm
  have HMn := Lib.hid hmn
  have HHS := Lib.hid hS
  clear hm hS
  have hL3 := hL.cell 1 rfl 36 (.slice AD m cD)
  rw [frm_set36 _ _ _ HHS.out] at hL3
  clear hL
  clear hL
  repeat (first | refine kw_seq ?_ | refine kw_region ?_ | (first | refine kl_move rfl rfl (.inl rfl) rfl rfl ?_ | refine kl_move rfl rfl (.inr rfl) rfl rfl ?_ | refine kl_const rfl rfl (.inl rfl) rfl ?_ | refine kl_const rfl rfl (.inr rfl) rfl ?_) | ((first | refine kl_step rfl rfl rfl fun K hK => ?_ | refine kl_step0 rfl rfl rfl fun K hK => ?_); go_simp; (try go_bits); (first | refine hK _ _ ?_ | refine hK _ ?_); clear hK K))
  refine kl_nil ?_
  refine kq_then ?_
  clear c36 f36 m1 m2 m3
  have hL := hL3
  clear hL3
  generalize w3.setCell ⟨g1, 36, none⟩ _ = w4 at *
  repeat (first | refine kw_seq ?_ | refine kw_block ?_ | refine kw_skip ?_ | refine kw_region ?_ | refine kl_nil ?_ | refine kq_then ?_ | refine kq_block ?_ | refine kw_exit ?_ | refine kq_then_exit ?_ | refine kq_block_here rfl ?_ | refine kq_block_far rfl ?_ | refine kq_again_exit ?_ | refine kw_ret ?_ | refine kq_then_ret ?_ | refine kq_block_ret ?_ | refine kq_again_ret ?_ | refine kw_ift rfl ?_ | refine kw_iff rfl ?_ | refine kl_ung rfl rfl ?_ | refine kl_skipg rfl rfl rfl rfl ?_ | refine kl_skipg0 rfl rfl rfl ?_ | refine kl_getL hL 1 rfl Try.underlying29 rfl (infoF _ _ HHS.out) rfl rfl rfl rfl rfl ?_ | refine kl_putL (cells := (frmV ⟨(K : Int), f.id, f.size, f.at_, f.sum, f.data⟩ (.slice AD m cD)).toArray) hL 0 rfl (infoF _ _ HHS.out) (sizeZF _ _ HHS.out) (frmV_one _ _ rfl) rfl rfl rfl rfl rfl (fun hL2 => ?_) | (first | refine kl_move rfl rfl (.inl rfl) rfl rfl ?_ | refine kl_move rfl rfl (.inr rfl) rfl rfl ?_ | refine kl_const rfl rfl (.inl rfl) rfl ?_ | refine kl_const rfl rfl (.inr rfl) rfl ?_) | ((first | refine kl_step rfl rfl rfl fun K hK => ?_ | refine kl_step0 rfl rfl rfl fun K hK => ?_); go_simp; (try go_bits); (first | refine hK _ _ ?_ | refine hK _ ?_); clear hK K))
  refine kq_retv (fun a k => results_cell_row rfl _ _ g2 29 (frmV ⟨(K : Int), f.id, f.size, f.at_, f.sum, f.data⟩ (.slice AD m cD)).toArray (0, 0) _ (k.slot 2 rfl) (hL2.at_ 0 rfl) Try.underlying29 rfl (infoF _ _ HHS.out)) ?_
  have hb := hL2.below
  generalize World.setRow _ _ _ = w5 at hb
  refine ⟨.slice AD m cD, ?_⟩
  have e : goodF f = ⟨(K : Int), f.id, f.size, f.at_, f.sum, f.data.take m⟩ := by
    unfold goodF
    rw [HK.out]
    congr 1
    rw [List.take_eq_take_iff, HL.out, ← HMM.out]
    omega
  rw [e]
  exact ⟨rfl, ⟨by show I64 (K : Int); unfold I64; omega, HM.out.id, HM.out.size, HM.out.at_, HS.out, ⟨AD, m, cD, rfl, (HBD.out.to_ HMn.out).keep (.of_below hb), by have := HMn.out; omega, hcD⟩⟩, hb, fun b o n c e => by injection e with e1 e2 e3; subst e1; exact ⟨_, _, rfl⟩⟩
end Go.Proofs.Ytfhlnadhcalkkaa
namespace Go.Proofs.Ytfhlnadhcalkkaa
open Go.RowKit
section
variable {P : Program} {ops : List Oper} {Q : Exit → Act → World → Prop} {a : Act} {Ss : List SPred} {R : (Nat → Bool) → World → Prop}
theorem vl_store {src : List (Nat × Option Nat)} {i : Nat} {o : Oper} (hw : ∀ L A W, Src (SLL Ss L) a A W src → Region.wanted o (yielded ops.toArray A.tmps) = true)
    (h : ∀ L A W, Closed ops L → L i = false → (∀ j, bindsTo o j = true → L j = true) → R L W → Src (SLL Ss L) a A W src →
      ∃ W', (execOp A.eval o).run P W = .ok .skip W' ∧ R (upd L i) W' ∧ Pres L i W W' 0 Ss ∧ SLL Ss (upd L i) i W' undef) : VL1 P Q a (SLL Ss) R ops src i o := by
  intro L A W K hd hc hl hpre hR0 hs hK
  rw [if_pos (hw L A W hs)]
  obtain ⟨W', hr, hR', hp, hS⟩ := h L A W hc hl hpre hR0 hs
  unfold Oper.wp
  rw [hr]
  exact hK undef W' hR' (fun j u hne hlj hsj => hp.get j u (by omega) (by rw [Nat.zero_add]; exact hlj) hsj) hS
end
theorem pres_true {L : Nat → Bool} {i k : Nat} {W W' : World} : k ≠ i → L k = true → ∀ u, (fun _ _ _ => True : SPred) L W u → (fun _ _ _ => True : SPred) (upd L i) W' u := fun _ _ _ _ => trivial
theorem mono_trueL : MonoL (fun _ _ _ => True) := fun _ _ _ _ _ _ _ => trivial
end Go.Proofs.Ytfhlnadhcalkkaa
