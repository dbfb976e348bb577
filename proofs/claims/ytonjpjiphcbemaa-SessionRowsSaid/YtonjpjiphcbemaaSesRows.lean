/- SessionRows: the walk. -/
import Derived.Test.YtonjpjiphcbemaaSesKnown
import Derived.Test.YtonjpjiphcbemaaLay
namespace Go.Proofs.Ytonjpjiphcbemaa
open Go.RowKit
attribute [local go_sem] ev_tmp ev_const ev_func ev_global lk_hit lk_miss uponK_value uponK_skip look_tmp look_const look_global look_func
def fR : Frm := ⟨1, 4, 100, 0, z32, []⟩
def cR : Frm := ⟨2, 4, 0, 90, z32, [1, 2, 3]⟩
def s0R : Ses := ⟨4, 100, z32, List.replicate 100 0, List.replicate 100 false⟩
def s1R : Ses := ⟨4, 100, z32, layK (List.replicate 100 0) 90 [1, 2, 3] 3, layK (List.replicate 100 false) 90 (List.replicate 3 true) 3⟩
theorem begin_fR : beginS fR = s0R ∧ beginE fR = 0 := ⟨by unfold beginS; rw [if_neg (show ¬ badF fR by unfold badF; decide)]; rfl, by decide⟩
theorem chunk_cR : chunkE s0R cR = 0 := by decide
theorem chunkS_cR : chunkS s0R cR = s1R := by unfold chunkS; rw [if_pos chunk_cR]; rfl
theorem left_s1 : cnt false s1R.got = 97 := by decide
theorem err_id (q : Nat) : chunkE s1R ⟨2, 5 + q, 0, 90, z32, [1, 2, 3]⟩ = 2 := if_pos (by show ¬ ((5 : Int) + q = 4); omega)
theorem err_nil : chunkE s1R ⟨2, 4, 0, 90, z32, []⟩ = 1 := by decide
theorem err_lo (q : Nat) : chunkE s1R ⟨2, 4, 0, -1 - q, z32, [1, 2, 3]⟩ = 1 := by
  exact (if_neg (fun h => h rfl)).trans (if_pos (.inr (.inl (by show (-1 : Int) - q < 0; omega))))
theorem err_hi (q : Nat) : chunkE s1R ⟨2, 4, 0, 98 + q, z32, [1, 2, 3]⟩ = 1 := by
  exact (if_neg (fun h => h rfl)).trans (if_pos (.inr (.inr (.inr (by show (100 : Int) - 3 < 98 + q; omega)))))
theorem err_bad : chunkE s1R ⟨2, 4, 0, 90, z32, [1, 2, 4]⟩ = 10 := by decide
theorem b_id (q : Nat) : beginE ⟨1, -1 - q, 100, 0, z32, []⟩ = 1 := if_pos (.inl (by show (-1 : Int) - q < 0; omega))
theorem b_lo (q : Nat) : beginE ⟨1, 4, -(q : Int), 0, z32, []⟩ = 1 := if_pos (.inr (.inl (by show -(q : Int) < 1; omega)))
theorem b_hi (q : Nat) : beginE ⟨1, 4, 1001 + q, 0, z32, []⟩ = 1 := if_pos (.inr (.inr (by show (1000 : Int) < 1001 + q; omega)))
theorem same_refl (s : Ses) : decide (SameS s s) = true := decide_eq_true ⟨rfl, rfl, rfl, rfl, rfl⟩
def RowsP (w : World) (e : Ending) (w' : World) : Prop := e = .returned (.bool true) ∧ Below w.heap.size w w'
theorem frmM_lit (w : World) (a b c d : Int) (D : Value) (l : List UInt8) (h1 : I64 a) (h2 : I64 b) (h3 : I64 c) (h4 : I64 d) (hD : SlB w l D) : FrmM w ⟨a, b, c, d, z32, l⟩ D := ⟨h1, h2, h3, h4, z32_len, hD⟩
set_option maxRecDepth 100000 in
set_option maxHeartbeats 16000000 in
theorem sessionRows_top (x y : Int) (w : World) (hx : -9223372036854775808 ≤ x ∧ x ≤ 9223372036854775807) (hy : -9223372036854775808 ≤ y ∧ y ≤ 9223372036854775807) :
    Calls Try.prog 6 #[.int .i64 x, .int .i64 y] w (RowsP w) := by
  have HX := Lib.hid hx
  have HY := Lib.hid hy
  clear hx hy
  refine calls_kw Try.func6 rfl Try.ntmps6 rfl [(0, .int .i64 x), (1, .int .i64 y)] rfl ?_
  repeat (first | refine kw_seq ?_ | refine kw_block ?_ | refine kw_skip ?_ | refine kw_region ?_ | refine kl_nil ?_ | refine kq_then ?_ | refine kq_block ?_ | refine kw_exit ?_ | refine kq_then_exit ?_ | refine kq_block_here rfl ?_ | refine kq_block_far rfl ?_ | refine kq_again_exit ?_ | refine kw_ret ?_ | refine kq_then_ret ?_ | refine kq_block_ret ?_ | refine kq_again_ret ?_ | refine kw_ift rfl ?_ | refine kw_iff rfl ?_ | refine kl_ung rfl rfl ?_ | refine kl_skipg rfl rfl rfl rfl ?_ | refine kl_skipg0 rfl rfl rfl ?_ | (first | refine kl_move rfl rfl (.inl rfl) rfl rfl ?_ | refine kl_move rfl rfl (.inr rfl) rfl rfl ?_ | refine kl_const rfl rfl (.inl rfl) rfl ?_ | refine kl_const rfl rfl (.inr rfl) rfl ?_) | ((first | refine kl_step rfl rfl rfl fun K hK => ?_ | refine kl_step0 rfl rfl rfl fun K hK => ?_); go_simp; (try go_bits); (first | refine hK _ _ ?_ | refine hK _ ?_); clear hK K))
  refine kl_call rfl rfl rfl Try.func11 rfl (by kernel_rfl) rfl ?_
  refine Calls.mono (known17_any _) ?_
  rintro e w1 ⟨rfl, hb1⟩
  refine ⟨_, rfl, ?_⟩
  repeat (first | refine kw_seq ?_ | refine kw_block ?_ | refine kw_skip ?_ | refine kw_region ?_ | refine kl_nil ?_ | refine kq_then ?_ | refine kq_block ?_ | refine kw_exit ?_ | refine kq_then_exit ?_ | refine kq_block_here rfl ?_ | refine kq_block_far rfl ?_ | refine kq_again_exit ?_ | refine kw_ret ?_ | refine kq_then_ret ?_ | refine kq_block_ret ?_ | refine kq_again_ret ?_ | refine kw_ift rfl ?_ | refine kw_iff rfl ?_ | refine kl_ung rfl rfl ?_ | refine kl_skipg rfl rfl rfl rfl ?_ | refine kl_skipg0 rfl rfl rfl ?_ | (first | refine kl_move rfl rfl (.inl rfl) rfl rfl ?_ | refine kl_move rfl rfl (.inr rfl) rfl rfl ?_ | refine kl_const rfl rfl (.inl rfl) rfl ?_ | refine kl_const rfl rfl (.inr rfl) rfl ?_) | ((first | refine kl_step rfl rfl rfl fun K hK => ?_ | refine kl_step0 rfl rfl rfl fun K hK => ?_); go_simp; (try go_bits); (first | refine hK _ _ ?_ | refine hK _ ?_); clear hK K))
  refine kl_call rfl rfl rfl Try.func12 rfl (by kernel_rfl) rfl ?_
  refine Calls.mono (within_any y 9 _ _ rfl (by omega) (by omega)) ?_
  rintro e _ ⟨rfl, rfl⟩
  refine ⟨_, rfl, ?_⟩
  have hq := within_lt y 9 (by omega)
  obtain ⟨q, hqE⟩ : ∃ q, within y 9 = q := ⟨_, rfl⟩
  rw [hqE] at hq ⊢
  clear hqE
  have q0 : (0 : Int) ≤ q := by omega
  have q9 : (q : Int) < 9 := by omega
  have hL := (Lay.start w).next hb1
  repeat (first | refine kw_seq ?_ | refine kw_block ?_ | refine kw_skip ?_ | refine kw_region ?_ | refine kl_nil ?_ | refine kq_then ?_ | refine kq_block ?_ | refine kw_exit ?_ | refine kq_then_exit ?_ | refine kq_block_here rfl ?_ | refine kq_block_far rfl ?_ | refine kq_again_exit ?_ | refine kw_ret ?_ | refine kq_then_ret ?_ | refine kq_block_ret ?_ | refine kq_again_ret ?_ | refine kw_ift rfl ?_ | refine kw_iff rfl ?_ | refine kl_ung rfl rfl ?_ | refine kl_skipg rfl rfl rfl rfl ?_ | refine kl_skipg0 rfl rfl rfl ?_ | (first | refine kl_move rfl rfl (.inl rfl) rfl rfl ?_ | refine kl_move rfl rfl (.inr rfl) rfl rfl ?_ | refine kl_const rfl rfl (.inl rfl) rfl ?_ | refine kl_const rfl rfl (.inr rfl) rfl ?_) | ((first | refine kl_step rfl rfl rfl fun K hK => ?_ | refine kl_step0 rfl rfl rfl fun K hK => ?_); go_simp; (try go_bits); (first | refine hK _ _ ?_ | refine hK _ ?_); clear hK K))
  refine kl_varL (d := 5) (y := 19) (cells := (frmV fR (.slice none 0 0)).toArray) hL frmZero (infoF fR (.slice none 0 0) z32_len) (sizeZF fR (.slice none 0 0) z32_len) (frmV_one _ _ rfl) rfl rfl rfl rfl rfl rfl rfl rfl rfl ?_
  intro g5 w2 eg5 hb2 hL
  repeat (first | refine kw_seq ?_ | refine kw_block ?_ | refine kw_skip ?_ | refine kw_region ?_ | refine kl_nil ?_ | refine kq_then ?_ | refine kq_block ?_ | refine kw_exit ?_ | refine kq_then_exit ?_ | refine kq_block_here rfl ?_ | refine kq_block_far rfl ?_ | refine kq_again_exit ?_ | refine kw_ret ?_ | refine kq_then_ret ?_ | refine kq_block_ret ?_ | refine kq_again_ret ?_ | refine kw_ift rfl ?_ | refine kw_iff rfl ?_ | refine kl_ung rfl rfl ?_ | refine kl_skipg rfl rfl rfl rfl ?_ | refine kl_skipg0 rfl rfl rfl ?_ | refine kl_getL hL 0 rfl Try.underlying36 rfl (infoF _ _ z32_len) rfl rfl rfl rfl rfl ?_ | (first | refine kl_move rfl rfl (.inl rfl) rfl rfl ?_ | refine kl_move rfl rfl (.inr rfl) rfl rfl ?_ | refine kl_const rfl rfl (.inl rfl) rfl ?_ | refine kl_const rfl rfl (.inr rfl) rfl ?_) | ((first | refine kl_step rfl rfl rfl fun K hK => ?_ | refine kl_step0 rfl rfl rfl fun K hK => ?_); go_simp; (try go_bits); (first | refine hK _ _ ?_ | refine hK _ ?_); clear hK K))
  refine kl_call rfl rfl rfl Try.func13 rfl (by kernel_rfl) rfl ?_
  refine Calls.mono (begin_any fR (.slice none 0 0) w2 (frmM_lit w2 1 4 100 0 _ [] (by show I64 (1); unfold I64; omega) (by show I64 (4); unfold I64; omega) (by show I64 (100); unfold I64; omega) (by show I64 (0); unfold I64; omega) (SlB.nil _))) ?_
  rintro e w3 ⟨D, G, rfl, hM, hb3, fD, fG⟩
  rw [begin_fR.1, begin_fR.2]
  rw [begin_fR.1] at hM
  refine ⟨_, rfl, ?_⟩
  have HS0 : Hid (s0R.sum.length = 32) := z32_len
  have HS1 : Hid (s1R.sum.length = 32) := z32_len
  have HM := Lib.hid hM
  have hL := hL.next hb3
  clear hM hb1 hb2 hb3
  repeat (first | refine kw_seq ?_ | refine kw_block ?_ | refine kw_skip ?_ | refine kw_region ?_ | refine kl_nil ?_ | refine kq_then ?_ | refine kq_block ?_ | refine kw_exit ?_ | refine kq_then_exit ?_ | refine kq_block_here rfl ?_ | refine kq_block_far rfl ?_ | refine kq_again_exit ?_ | refine kw_ret ?_ | refine kq_then_ret ?_ | refine kq_block_ret ?_ | refine kq_again_ret ?_ | refine kw_ift rfl ?_ | refine kw_iff rfl ?_ | refine kl_ung rfl rfl ?_ | refine kl_skipg rfl rfl rfl rfl ?_ | refine kl_skipg0 rfl rfl rfl ?_ | (first | refine kl_move rfl rfl (.inl rfl) rfl rfl ?_ | refine kl_move rfl rfl (.inr rfl) rfl rfl ?_ | refine kl_const rfl rfl (.inl rfl) rfl ?_ | refine kl_const rfl rfl (.inr rfl) rfl ?_) | ((first | refine kl_step rfl rfl rfl fun K hK => ?_ | refine kl_step0 rfl rfl rfl fun K hK => ?_); go_simp; (try go_bits); (first | refine hK _ _ ?_ | refine hK _ ?_); clear hK K))
  refine kl_varL (d := 6) (y := 23) (cells := (sesV s0R D G).toArray) hL sesZero (infoS s0R D G z32_len) (sizeZ s0R D G z32_len) (sesV_one _ _ _ HM.out.data.one HM.out.got.one) rfl rfl rfl rfl rfl rfl rfl rfl rfl ?_
  intro g6 w4 eg6 hb4 hL
  have HM := Lib.hid (HM.out.keep (.of_below hb4))
  clear hb4
  have EG5 := Lib.hid eg5
  have EG6 := Lib.hid eg6
  have l56 : g5 < g6 := by exact hL.vars.2.2.1 _ List.mem_cons_self
  have l64 : g6 < w4.heap.size := hL.lt 0 rfl
  clear eg5 eg6
  repeat (first | refine kw_seq ?_ | refine kw_block ?_ | refine kw_skip ?_ | refine kw_region ?_ | refine kl_nil ?_ | refine kq_then ?_ | refine kq_block ?_ | refine kw_exit ?_ | refine kq_then_exit ?_ | refine kq_block_here rfl ?_ | refine kq_block_far rfl ?_ | refine kq_again_exit ?_ | refine kw_ret ?_ | refine kq_then_ret ?_ | refine kq_block_ret ?_ | refine kq_again_ret ?_ | refine kw_ift rfl ?_ | refine kw_iff rfl ?_ | refine kl_ung rfl rfl ?_ | refine kl_skipg rfl rfl rfl rfl ?_ | refine kl_skipg0 rfl rfl rfl ?_ | (first | refine kl_move rfl rfl (.inl rfl) rfl rfl ?_ | refine kl_move rfl rfl (.inr rfl) rfl rfl ?_ | refine kl_const rfl rfl (.inl rfl) rfl ?_ | refine kl_const rfl rfl (.inr rfl) rfl ?_) | ((first | refine kl_step rfl rfl rfl fun K hK => ?_ | refine kl_step0 rfl rfl rfl fun K hK => ?_); go_simp; (try go_bits); (first | refine hK _ _ ?_ | refine hK _ ?_); clear hK K))
  obtain ⟨w5, hw5⟩ : ∃ w5, w5 = w4.alloc (.cells #[.int .u8 1, .int .u8 2, .int .u8 3] 5) := ⟨_, rfl⟩
  have hb5 : Below w4.heap.size w4 w5 := by rw [hw5]; exact (Below.refl _ _).alloc (Nat.le_refl _) _
  have hC : SlB w5 [1, 2, 3] (.slice (some ⟨w4.heap.size, 0, none⟩) 3 3) := by rw [hw5]; exact SlB.lit 5 [1, 2, 3] rfl (by decide)
  rw [← hw5]
  clear hw5
  obtain ⟨g25, hg25⟩ : ∃ g, w4.heap.size = g := ⟨_, rfl⟩
  rw [hg25] at hC l64 ⊢
  have hL := hL.next hb5
  have HM := Lib.hid (HM.out.keep (.of_below hb5))
  clear hg25 hb5
  refine kl_varL (d := 8) (y := 26) (cells := (frmV cR (.slice (some ⟨g25, 0, none⟩) 3 3)).toArray) hL frmZero (infoF cR (.slice (some ⟨g25, 0, none⟩) 3 3) z32_len) (sizeZF cR (.slice (some ⟨g25, 0, none⟩) 3 3) z32_len) (frmV_one _ _ rfl) rfl rfl rfl rfl rfl rfl rfl rfl rfl ?_
  intro g8 w6 eg8 hb6 hL
  have HM := Lib.hid (HM.out.keep (.of_below hb6))
  have HC := Lib.hid (hC.keep (.of_below hb6))
  have l258 : g25 < g8 := by rw [eg8]; exact hC.lt (by decide)
  clear hC hb6 eg8
  repeat (first | refine kw_seq ?_ | refine kw_block ?_ | refine kw_skip ?_ | refine kw_region ?_ | refine kl_nil ?_ | refine kq_then ?_ | refine kq_block ?_ | refine kw_exit ?_ | refine kq_then_exit ?_ | refine kq_block_here rfl ?_ | refine kq_block_far rfl ?_ | refine kq_again_exit ?_ | refine kw_ret ?_ | refine kq_then_ret ?_ | refine kq_block_ret ?_ | refine kq_again_ret ?_ | refine kw_ift rfl ?_ | refine kw_iff rfl ?_ | refine kl_ung rfl rfl ?_ | refine kl_skipg rfl rfl rfl rfl ?_ | refine kl_skipg0 rfl rfl rfl ?_ | refine kl_getL hL 1 rfl Try.underlying30 rfl (infoS _ _ _ z32_len) rfl rfl rfl rfl rfl ?_ | refine kl_getL hL 0 rfl Try.underlying36 rfl (infoF _ _ z32_len) rfl rfl rfl rfl rfl ?_ | (first | refine kl_move rfl rfl (.inl rfl) rfl rfl ?_ | refine kl_move rfl rfl (.inr rfl) rfl rfl ?_ | refine kl_const rfl rfl (.inl rfl) rfl ?_ | refine kl_const rfl rfl (.inr rfl) rfl ?_) | ((first | refine kl_step rfl rfl rfl fun K hK => ?_ | refine kl_step0 rfl rfl rfl fun K hK => ?_); go_simp; (try go_bits); (first | refine hK _ _ ?_ | refine hK _ ?_); clear hK K))
  refine kl_call rfl rfl rfl Try.func15 rfl (by kernel_rfl) rfl ?_
  refine Calls.mono (chunk_any s0R D G cR _ 100 w6 HM.out (frmM_lit w6 2 4 0 90 _ [1, 2, 3] (by show I64 (2); unfold I64; omega) (by show I64 (4); unfold I64; omega) (by show I64 (0); unfold I64; omega) (by show I64 (90); unfold I64; omega) HC.out) rfl (by decide) (by decide) (by omega) (by omega)) ?_
  rintro e w7 ⟨D2, G2, rfl, hM2, hb7, fD2, fG2⟩
  rw [chunkS_cR, chunk_cR]
  rw [chunkS_cR] at hM2
  refine ⟨_, rfl, ?_⟩
  have l68 : g6 < w6.heap.size := hL.lt 1 rfl
  have L86 : g8 < w6.heap.size := hL.lt 0 rfl
  have l58 : g5 < w6.heap.size := hL.lt 2 rfl
  have hL := hL.next hb7
  have HM2 := Lib.hid hM2
  have HC := Lib.hid (HC.out.keep (.of_below hb7))
  clear hM2 hb7
  repeat (first | refine kw_seq ?_ | refine kw_block ?_ | refine kw_skip ?_ | refine kw_region ?_ | refine kl_nil ?_ | refine kq_then ?_ | refine kq_block ?_ | refine kw_exit ?_ | refine kq_then_exit ?_ | refine kq_block_here rfl ?_ | refine kq_block_far rfl ?_ | refine kq_again_exit ?_ | refine kw_ret ?_ | refine kq_then_ret ?_ | refine kq_block_ret ?_ | refine kq_again_ret ?_ | refine kw_ift rfl ?_ | refine kw_iff rfl ?_ | refine kl_ung rfl rfl ?_ | refine kl_skipg rfl rfl rfl rfl ?_ | refine kl_skipg0 rfl rfl rfl ?_ | (first | refine kl_move rfl rfl (.inl rfl) rfl rfl ?_ | refine kl_move rfl rfl (.inr rfl) rfl rfl ?_ | refine kl_const rfl rfl (.inl rfl) rfl ?_ | refine kl_const rfl rfl (.inr rfl) rfl ?_) | ((first | refine kl_step rfl rfl rfl fun K hK => ?_ | refine kl_step0 rfl rfl rfl fun K hK => ?_); go_simp; (try go_bits); (first | refine hK _ _ ?_ | refine hK _ ?_); clear hK K))
  refine kl_putL (cells := (sesV s1R D2 G2).toArray) hL 1 rfl (infoS s1R D2 G2 z32_len) (sizeS s0R s1R _ _ _ _ z32_len z32_len) (sesV_one _ _ _ HM2.out.data.one HM2.out.got.one) rfl rfl rfl rfl rfl (fun hL' => ?_)
  have HL := Lib.hid hL'
  have HM3 : Hid (SesM (w7.setRow g6 (sesV s1R D2 G2).toArray) s1R D2 G2) := ⟨HM2.out.id, HM2.out.size, HM2.out.sum, HM2.out.data.row (fD2.ne l68) _, HM2.out.got.row (fG2.ne l68) _⟩
  have HC := Lib.hid (HC.out.row (g := g6) (fun b o n c e => by injection e with e _ _; injection e with e; injection e with e _; omega) (sesV s1R D2 G2).toArray)
  clear hL hL'
  generalize w7.setRow g6 (sesV s1R D2 G2).toArray = w8 at *
  have hL : Lay w w8 [(g8, (frmV cR (.slice (some ⟨g25, 0, none⟩) 3 3)).toArray, 36), (g6, (sesV s1R D2 G2).toArray, 30), (g5, (frmV fR (.slice none 0 0)).toArray, 36)] := HL.out
  clear HL HM HM2
  have n5 : ∀ b o n c, D2 = .slice (some ⟨b, o, none⟩) n c → b ≠ g5 := fD2.ne l58
  have n5' : ∀ b o n c, G2 = .slice (some ⟨b, o, none⟩) n c → b ≠ g5 := fG2.ne l58
  have l86 : g8 < w6.heap.size := L86
  repeat (first | refine kw_seq ?_ | refine kw_block ?_ | refine kw_skip ?_ | refine kw_region ?_ | refine kl_nil ?_ | refine kq_then ?_ | refine kq_block ?_ | refine kw_exit ?_ | refine kq_then_exit ?_ | refine kq_block_here rfl ?_ | refine kq_block_far rfl ?_ | refine kq_again_exit ?_ | refine kw_ret ?_ | refine kq_then_ret ?_ | refine kq_block_ret ?_ | refine kq_again_ret ?_ | refine kw_ift rfl ?_ | refine kw_iff rfl ?_ | refine kl_ung rfl rfl ?_ | refine kl_skipg rfl rfl rfl rfl ?_ | refine kl_skipg0 rfl rfl rfl ?_ | (first | refine kl_move rfl rfl (.inl rfl) rfl rfl ?_ | refine kl_move rfl rfl (.inr rfl) rfl rfl ?_ | refine kl_const rfl rfl (.inl rfl) rfl ?_ | refine kl_const rfl rfl (.inr rfl) rfl ?_) | ((first | refine kl_step rfl rfl rfl fun K hK => ?_ | refine kl_step0 rfl rfl rfl fun K hK => ?_); go_simp; (try go_bits); (first | refine hK _ _ ?_ | refine hK _ ?_); clear hK K))
  refine kl_call rfl rfl rfl Try.func12 rfl (by kernel_rfl) rfl ?_
  refine Calls.mono (within_any x 8 _ _ rfl (by omega) (by omega)) ?_
  rintro e _ ⟨rfl, rfl⟩
  refine ⟨_, rfl, ?_⟩
  have hk := within_lt x 8 (by omega)
  obtain ⟨k, hkE⟩ : ∃ k, within x 8 = k := ⟨_, rfl⟩
  have HK := Lib.hid hkE
  rw [hkE] at hk ⊢
  clear hkE
  have hcase : k = 0 ∨ k = 1 ∨ k = 2 ∨ k = 3 ∨ k = 4 ∨ k = 5 ∨ k = 6 ∨ k = 7 := by omega
  rcases hcase with rfl | rfl | rfl | rfl | rfl | rfl | rfl | rfl
  · have cA := hL.get 2 rfl (frm_1 fR _)
    have fA := hL.free 2 rfl 1
    repeat (first | refine kw_seq ?_ | refine kw_block ?_ | refine kw_skip ?_ | refine kw_region ?_ | refine kl_nil ?_ | refine kq_then ?_ | refine kq_block ?_ | refine kw_exit ?_ | refine kq_then_exit ?_ | refine kq_block_here rfl ?_ | refine kq_block_far rfl ?_ | refine kq_again_exit ?_ | refine kw_ret ?_ | refine kq_then_ret ?_ | refine kq_block_ret ?_ | refine kq_again_ret ?_ | refine kw_ift rfl ?_ | refine kw_iff rfl ?_ | refine kl_ung rfl rfl ?_ | refine kl_skipg rfl rfl rfl rfl ?_ | refine kl_skipg0 rfl rfl rfl ?_ | (first | refine kl_move rfl rfl (.inl rfl) rfl rfl ?_ | refine kl_move rfl rfl (.inr rfl) rfl rfl ?_ | refine kl_const rfl rfl (.inl rfl) rfl ?_ | refine kl_const rfl rfl (.inr rfl) rfl ?_) | ((first | refine kl_step rfl rfl rfl fun K hK => ?_ | refine kl_step0 rfl rfl rfl fun K hK => ?_); go_simp; (try go_bits); (first | refine hK _ _ ?_ | refine hK _ ?_); clear hK K))
    have HL : Hid (Lay w (w8.setCell (⟨g5, 1, none⟩ : Addr) (.int .i64 (-1 - (q : Int)))) [(g8, (frmV cR (.slice (some ⟨g25, 0, none⟩) 3 3)).toArray, 36), (g6, (sesV s1R D2 G2).toArray, 30), (g5, (frmV ⟨1, -1 - (q : Int), 100, 0, z32, []⟩ (.slice none 0 0)).toArray, 36)]) := hL.cell 2 rfl 1 (.int .i64 (-1 - (q : Int)))
    have HM4 : Hid (SesM (w8.setCell (⟨g5, 1, none⟩ : Addr) (.int .i64 (-1 - (q : Int)))) s1R D2 G2) := ⟨HM3.out.id, HM3.out.size, HM3.out.sum, HM3.out.data.set n5 _, HM3.out.got.set n5' _⟩
    have HC4 : Hid (SlB (w8.setCell (⟨g5, 1, none⟩ : Addr) (.int .i64 (-1 - (q : Int)))) [1, 2, 3] (.slice (some ⟨g25, 0, none⟩) 3 3)) := HC.out.set (fun b o n c e => by injection e with e _ _; injection e with e; injection e with e _; show b ≠ g5; omega) _
    clear hL cA fA
    generalize w8.setCell (⟨g5, 1, none⟩ : Addr) (.int .i64 (-1 - (q : Int))) = w9 at *
    have hL := HL.out
    refine kl_call rfl rfl rfl Try.func12 rfl (by kernel_rfl) rfl ?_
    refine Calls.mono (within_any x 8 _ _ rfl (by omega) (by omega)) ?_
    rw [HK.out]
    rintro e _ ⟨rfl, rfl⟩
    refine ⟨_, rfl, ?_⟩
    repeat (first | refine kw_seq ?_ | refine kw_block ?_ | refine kw_skip ?_ | refine kw_region ?_ | refine kl_nil ?_ | refine kq_then ?_ | refine kq_block ?_ | refine kw_exit ?_ | refine kq_then_exit ?_ | refine kq_block_here rfl ?_ | refine kq_block_far rfl ?_ | refine kq_again_exit ?_ | refine kw_ret ?_ | refine kq_then_ret ?_ | refine kq_block_ret ?_ | refine kq_again_ret ?_ | refine kw_ift rfl ?_ | refine kw_iff rfl ?_ | refine kl_ung rfl rfl ?_ | refine kl_skipg rfl rfl rfl rfl ?_ | refine kl_skipg0 rfl rfl rfl ?_ | refine kl_getL hL 2 rfl Try.underlying36 rfl (infoF _ _ z32_len) rfl rfl rfl rfl rfl ?_ | (first | refine kl_move rfl rfl (.inl rfl) rfl rfl ?_ | refine kl_move rfl rfl (.inr rfl) rfl rfl ?_ | refine kl_const rfl rfl (.inl rfl) rfl ?_ | refine kl_const rfl rfl (.inr rfl) rfl ?_) | ((first | refine kl_step rfl rfl rfl fun K hK => ?_ | refine kl_step0 rfl rfl rfl fun K hK => ?_); go_simp; (try go_bits); (first | refine hK _ _ ?_ | refine hK _ ?_); clear hK K))
    refine kl_call rfl rfl rfl Try.func13 rfl (by kernel_rfl) rfl ?_
    refine Calls.mono (begin_any ⟨1, -1 - (q : Int), 100, 0, z32, []⟩ (.slice none 0 0) w9 (frmM_lit w9 (1) (-1 - (q : Int)) (100) (0) _ [] (by show I64 (1); unfold I64; omega) (by show I64 (-1 - (q : Int)); unfold I64; omega) (by show I64 (100); unfold I64; omega) (by show I64 (0); unfold I64; omega) (SlB.nil _))) ?_
    rintro e w10 ⟨D3, G3, rfl, hM5, hb10, _⟩
    rw [b_id q]
    obtain ⟨S3, hS3⟩ : ∃ S, beginS ⟨1, -1 - (q : Int), 100, 0, z32, []⟩ = S := ⟨_, rfl⟩
    rw [hS3] at hM5 ⊢
    refine ⟨_, rfl, ?_⟩
    have HM5 := Lib.hid hM5
    have hL := hL.next hb10
    clear hM5 hb10 hS3
    repeat (first | refine kw_seq ?_ | refine kw_block ?_ | refine kw_skip ?_ | refine kw_region ?_ | refine kl_nil ?_ | refine kq_then ?_ | refine kq_block ?_ | refine kw_exit ?_ | refine kq_then_exit ?_ | refine kq_block_here rfl ?_ | refine kq_block_far rfl ?_ | refine kq_again_exit ?_ | refine kw_ret ?_ | refine kq_then_ret ?_ | refine kq_block_ret ?_ | refine kq_again_ret ?_ | refine kw_ift rfl ?_ | refine kw_iff rfl ?_ | refine kl_ung rfl rfl ?_ | refine kl_skipg rfl rfl rfl rfl ?_ | refine kl_skipg0 rfl rfl rfl ?_ | (first | refine kl_move rfl rfl (.inl rfl) rfl rfl ?_ | refine kl_move rfl rfl (.inr rfl) rfl rfl ?_ | refine kl_const rfl rfl (.inl rfl) rfl ?_ | refine kl_const rfl rfl (.inr rfl) rfl ?_) | ((first | refine kl_step rfl rfl rfl fun K hK => ?_ | refine kl_step0 rfl rfl rfl fun K hK => ?_); go_simp; (try go_bits); (first | refine hK _ _ ?_ | refine hK _ ?_); clear hK K))
    refine kl_varL (d := 11) (y := 84) (cells := (sesV S3 D3 G3).toArray) hL sesZero (infoS S3 D3 G3 HM5.out.sum) (sizeZ S3 D3 G3 HM5.out.sum) (sesV_one _ _ _ HM5.out.data.one HM5.out.got.one) rfl rfl rfl rfl rfl rfl rfl rfl rfl ?_
    intro g11 w11 _ _ hL
    repeat (first | refine kw_seq ?_ | refine kw_block ?_ | refine kw_skip ?_ | refine kw_region ?_ | refine kl_nil ?_ | refine kq_then ?_ | refine kq_block ?_ | refine kw_exit ?_ | refine kq_then_exit ?_ | refine kq_block_here rfl ?_ | refine kq_block_far rfl ?_ | refine kq_again_exit ?_ | refine kw_ret ?_ | refine kq_then_ret ?_ | refine kq_block_ret ?_ | refine kq_again_ret ?_ | refine kw_ift rfl ?_ | refine kw_iff rfl ?_ | refine kl_ung rfl rfl ?_ | refine kl_skipg rfl rfl rfl rfl ?_ | refine kl_skipg0 rfl rfl rfl ?_ | (first | refine kl_move rfl rfl (.inl rfl) rfl rfl ?_ | refine kl_move rfl rfl (.inr rfl) rfl rfl ?_ | refine kl_const rfl rfl (.inl rfl) rfl ?_ | refine kl_const rfl rfl (.inr rfl) rfl ?_) | ((first | refine kl_step rfl rfl rfl fun K hK => ?_ | refine kl_step0 rfl rfl rfl fun K hK => ?_); go_simp; (try go_bits); (first | refine hK _ _ ?_ | refine hK _ ?_); clear hK K))
    exact kq_ret1 rfl rfl ⟨rfl, hL.below⟩
  · have cA := hL.get 2 rfl (frm_2 fR _)
    have fA := hL.free 2 rfl 2
    repeat (first | refine kw_seq ?_ | refine kw_block ?_ | refine kw_skip ?_ | refine kw_region ?_ | refine kl_nil ?_ | refine kq_then ?_ | refine kq_block ?_ | refine kw_exit ?_ | refine kq_then_exit ?_ | refine kq_block_here rfl ?_ | refine kq_block_far rfl ?_ | refine kq_again_exit ?_ | refine kw_ret ?_ | refine kq_then_ret ?_ | refine kq_block_ret ?_ | refine kq_again_ret ?_ | refine kw_ift rfl ?_ | refine kw_iff rfl ?_ | refine kl_ung rfl rfl ?_ | refine kl_skipg rfl rfl rfl rfl ?_ | refine kl_skipg0 rfl rfl rfl ?_ | (first | refine kl_move rfl rfl (.inl rfl) rfl rfl ?_ | refine kl_move rfl rfl (.inr rfl) rfl rfl ?_ | refine kl_const rfl rfl (.inl rfl) rfl ?_ | refine kl_const rfl rfl (.inr rfl) rfl ?_) | ((first | refine kl_step rfl rfl rfl fun K hK => ?_ | refine kl_step0 rfl rfl rfl fun K hK => ?_); go_simp; (try go_bits); (first | refine hK _ _ ?_ | refine hK _ ?_); clear hK K))
    have HL : Hid (Lay w (w8.setCell (⟨g5, 2, none⟩ : Addr) (.int .i64 (-(q : Int)))) [(g8, (frmV cR (.slice (some ⟨g25, 0, none⟩) 3 3)).toArray, 36), (g6, (sesV s1R D2 G2).toArray, 30), (g5, (frmV ⟨1, 4, -(q : Int), 0, z32, []⟩ (.slice none 0 0)).toArray, 36)]) := hL.cell 2 rfl 2 (.int .i64 (-(q : Int)))
    have HM4 : Hid (SesM (w8.setCell (⟨g5, 2, none⟩ : Addr) (.int .i64 (-(q : Int)))) s1R D2 G2) := ⟨HM3.out.id, HM3.out.size, HM3.out.sum, HM3.out.data.set n5 _, HM3.out.got.set n5' _⟩
    have HC4 : Hid (SlB (w8.setCell (⟨g5, 2, none⟩ : Addr) (.int .i64 (-(q : Int)))) [1, 2, 3] (.slice (some ⟨g25, 0, none⟩) 3 3)) := HC.out.set (fun b o n c e => by injection e with e _ _; injection e with e; injection e with e _; show b ≠ g5; omega) _
    clear hL cA fA
    generalize w8.setCell (⟨g5, 2, none⟩ : Addr) (.int .i64 (-(q : Int))) = w9 at *
    have hL := HL.out
    refine kl_call rfl rfl rfl Try.func12 rfl (by kernel_rfl) rfl ?_
    refine Calls.mono (within_any x 8 _ _ rfl (by omega) (by omega)) ?_
    rw [HK.out]
    rintro e _ ⟨rfl, rfl⟩
    refine ⟨_, rfl, ?_⟩
    repeat (first | refine kw_seq ?_ | refine kw_block ?_ | refine kw_skip ?_ | refine kw_region ?_ | refine kl_nil ?_ | refine kq_then ?_ | refine kq_block ?_ | refine kw_exit ?_ | refine kq_then_exit ?_ | refine kq_block_here rfl ?_ | refine kq_block_far rfl ?_ | refine kq_again_exit ?_ | refine kw_ret ?_ | refine kq_then_ret ?_ | refine kq_block_ret ?_ | refine kq_again_ret ?_ | refine kw_ift rfl ?_ | refine kw_iff rfl ?_ | refine kl_ung rfl rfl ?_ | refine kl_skipg rfl rfl rfl rfl ?_ | refine kl_skipg0 rfl rfl rfl ?_ | refine kl_getL hL 2 rfl Try.underlying36 rfl (infoF _ _ z32_len) rfl rfl rfl rfl rfl ?_ | (first | refine kl_move rfl rfl (.inl rfl) rfl rfl ?_ | refine kl_move rfl rfl (.inr rfl) rfl rfl ?_ | refine kl_const rfl rfl (.inl rfl) rfl ?_ | refine kl_const rfl rfl (.inr rfl) rfl ?_) | ((first | refine kl_step rfl rfl rfl fun K hK => ?_ | refine kl_step0 rfl rfl rfl fun K hK => ?_); go_simp; (try go_bits); (first | refine hK _ _ ?_ | refine hK _ ?_); clear hK K))
    refine kl_call rfl rfl rfl Try.func13 rfl (by kernel_rfl) rfl ?_
    refine Calls.mono (begin_any ⟨1, 4, -(q : Int), 0, z32, []⟩ (.slice none 0 0) w9 (frmM_lit w9 (1) (4) (-(q : Int)) (0) _ [] (by show I64 (1); unfold I64; omega) (by show I64 (4); unfold I64; omega) (by show I64 (-(q : Int)); unfold I64; omega) (by show I64 (0); unfold I64; omega) (SlB.nil _))) ?_
    rintro e w10 ⟨D3, G3, rfl, hM5, hb10, _⟩
    rw [b_lo q]
    obtain ⟨S3, hS3⟩ : ∃ S, beginS ⟨1, 4, -(q : Int), 0, z32, []⟩ = S := ⟨_, rfl⟩
    rw [hS3] at hM5 ⊢
    refine ⟨_, rfl, ?_⟩
    have HM5 := Lib.hid hM5
    have hL := hL.next hb10
    clear hM5 hb10 hS3
    repeat (first | refine kw_seq ?_ | refine kw_block ?_ | refine kw_skip ?_ | refine kw_region ?_ | refine kl_nil ?_ | refine kq_then ?_ | refine kq_block ?_ | refine kw_exit ?_ | refine kq_then_exit ?_ | refine kq_block_here rfl ?_ | refine kq_block_far rfl ?_ | refine kq_again_exit ?_ | refine kw_ret ?_ | refine kq_then_ret ?_ | refine kq_block_ret ?_ | refine kq_again_ret ?_ | refine kw_ift rfl ?_ | refine kw_iff rfl ?_ | refine kl_ung rfl rfl ?_ | refine kl_skipg rfl rfl rfl rfl ?_ | refine kl_skipg0 rfl rfl rfl ?_ | (first | refine kl_move rfl rfl (.inl rfl) rfl rfl ?_ | refine kl_move rfl rfl (.inr rfl) rfl rfl ?_ | refine kl_const rfl rfl (.inl rfl) rfl ?_ | refine kl_const rfl rfl (.inr rfl) rfl ?_) | ((first | refine kl_step rfl rfl rfl fun K hK => ?_ | refine kl_step0 rfl rfl rfl fun K hK => ?_); go_simp; (try go_bits); (first | refine hK _ _ ?_ | refine hK _ ?_); clear hK K))
    refine kl_varL (d := 11) (y := 84) (cells := (sesV S3 D3 G3).toArray) hL sesZero (infoS S3 D3 G3 HM5.out.sum) (sizeZ S3 D3 G3 HM5.out.sum) (sesV_one _ _ _ HM5.out.data.one HM5.out.got.one) rfl rfl rfl rfl rfl rfl rfl rfl rfl ?_
    intro g11 w11 _ _ hL
    repeat (first | refine kw_seq ?_ | refine kw_block ?_ | refine kw_skip ?_ | refine kw_region ?_ | refine kl_nil ?_ | refine kq_then ?_ | refine kq_block ?_ | refine kw_exit ?_ | refine kq_then_exit ?_ | refine kq_block_here rfl ?_ | refine kq_block_far rfl ?_ | refine kq_again_exit ?_ | refine kw_ret ?_ | refine kq_then_ret ?_ | refine kq_block_ret ?_ | refine kq_again_ret ?_ | refine kw_ift rfl ?_ | refine kw_iff rfl ?_ | refine kl_ung rfl rfl ?_ | refine kl_skipg rfl rfl rfl rfl ?_ | refine kl_skipg0 rfl rfl rfl ?_ | (first | refine kl_move rfl rfl (.inl rfl) rfl rfl ?_ | refine kl_move rfl rfl (.inr rfl) rfl rfl ?_ | refine kl_const rfl rfl (.inl rfl) rfl ?_ | refine kl_const rfl rfl (.inr rfl) rfl ?_) | ((first | refine kl_step rfl rfl rfl fun K hK => ?_ | refine kl_step0 rfl rfl rfl fun K hK => ?_); go_simp; (try go_bits); (first | refine hK _ _ ?_ | refine hK _ ?_); clear hK K))
    exact kq_ret1 rfl rfl ⟨rfl, hL.below⟩
  · have cA := hL.get 2 rfl (frm_2 fR _)
    have fA := hL.free 2 rfl 2
    repeat (first | refine kw_seq ?_ | refine kw_block ?_ | refine kw_skip ?_ | refine kw_region ?_ | refine kl_nil ?_ | refine kq_then ?_ | refine kq_block ?_ | refine kw_exit ?_ | refine kq_then_exit ?_ | refine kq_block_here rfl ?_ | refine kq_block_far rfl ?_ | refine kq_again_exit ?_ | refine kw_ret ?_ | refine kq_then_ret ?_ | refine kq_block_ret ?_ | refine kq_again_ret ?_ | refine kw_ift rfl ?_ | refine kw_iff rfl ?_ | refine kl_ung rfl rfl ?_ | refine kl_skipg rfl rfl rfl rfl ?_ | refine kl_skipg0 rfl rfl rfl ?_ | (first | refine kl_move rfl rfl (.inl rfl) rfl rfl ?_ | refine kl_move rfl rfl (.inr rfl) rfl rfl ?_ | refine kl_const rfl rfl (.inl rfl) rfl ?_ | refine kl_const rfl rfl (.inr rfl) rfl ?_) | ((first | refine kl_step rfl rfl rfl fun K hK => ?_ | refine kl_step0 rfl rfl rfl fun K hK => ?_); go_simp; (try go_bits); (first | refine hK _ _ ?_ | refine hK _ ?_); clear hK K))
    have HL : Hid (Lay w (w8.setCell (⟨g5, 2, none⟩ : Addr) (.int .i64 (1001 + (q : Int)))) [(g8, (frmV cR (.slice (some ⟨g25, 0, none⟩) 3 3)).toArray, 36), (g6, (sesV s1R D2 G2).toArray, 30), (g5, (frmV ⟨1, 4, 1001 + (q : Int), 0, z32, []⟩ (.slice none 0 0)).toArray, 36)]) := hL.cell 2 rfl 2 (.int .i64 (1001 + (q : Int)))
    have HM4 : Hid (SesM (w8.setCell (⟨g5, 2, none⟩ : Addr) (.int .i64 (1001 + (q : Int)))) s1R D2 G2) := ⟨HM3.out.id, HM3.out.size, HM3.out.sum, HM3.out.data.set n5 _, HM3.out.got.set n5' _⟩
    have HC4 : Hid (SlB (w8.setCell (⟨g5, 2, none⟩ : Addr) (.int .i64 (1001 + (q : Int)))) [1, 2, 3] (.slice (some ⟨g25, 0, none⟩) 3 3)) := HC.out.set (fun b o n c e => by injection e with e _ _; injection e with e; injection e with e _; show b ≠ g5; omega) _
    clear hL cA fA
    generalize w8.setCell (⟨g5, 2, none⟩ : Addr) (.int .i64 (1001 + (q : Int))) = w9 at *
    have hL := HL.out
    refine kl_call rfl rfl rfl Try.func12 rfl (by kernel_rfl) rfl ?_
    refine Calls.mono (within_any x 8 _ _ rfl (by omega) (by omega)) ?_
    rw [HK.out]
    rintro e _ ⟨rfl, rfl⟩
    refine ⟨_, rfl, ?_⟩
    repeat (first | refine kw_seq ?_ | refine kw_block ?_ | refine kw_skip ?_ | refine kw_region ?_ | refine kl_nil ?_ | refine kq_then ?_ | refine kq_block ?_ | refine kw_exit ?_ | refine kq_then_exit ?_ | refine kq_block_here rfl ?_ | refine kq_block_far rfl ?_ | refine kq_again_exit ?_ | refine kw_ret ?_ | refine kq_then_ret ?_ | refine kq_block_ret ?_ | refine kq_again_ret ?_ | refine kw_ift rfl ?_ | refine kw_iff rfl ?_ | refine kl_ung rfl rfl ?_ | refine kl_skipg rfl rfl rfl rfl ?_ | refine kl_skipg0 rfl rfl rfl ?_ | refine kl_getL hL 2 rfl Try.underlying36 rfl (infoF _ _ z32_len) rfl rfl rfl rfl rfl ?_ | (first | refine kl_move rfl rfl (.inl rfl) rfl rfl ?_ | refine kl_move rfl rfl (.inr rfl) rfl rfl ?_ | refine kl_const rfl rfl (.inl rfl) rfl ?_ | refine kl_const rfl rfl (.inr rfl) rfl ?_) | ((first | refine kl_step rfl rfl rfl fun K hK => ?_ | refine kl_step0 rfl rfl rfl fun K hK => ?_); go_simp; (try go_bits); (first | refine hK _ _ ?_ | refine hK _ ?_); clear hK K))
    refine kl_call rfl rfl rfl Try.func13 rfl (by kernel_rfl) rfl ?_
    refine Calls.mono (begin_any ⟨1, 4, 1001 + (q : Int), 0, z32, []⟩ (.slice none 0 0) w9 (frmM_lit w9 (1) (4) (1001 + (q : Int)) (0) _ [] (by show I64 (1); unfold I64; omega) (by show I64 (4); unfold I64; omega) (by show I64 (1001 + (q : Int)); unfold I64; omega) (by show I64 (0); unfold I64; omega) (SlB.nil _))) ?_
    rintro e w10 ⟨D3, G3, rfl, hM5, hb10, _⟩
    rw [b_hi q]
    obtain ⟨S3, hS3⟩ : ∃ S, beginS ⟨1, 4, 1001 + (q : Int), 0, z32, []⟩ = S := ⟨_, rfl⟩
    rw [hS3] at hM5 ⊢
    refine ⟨_, rfl, ?_⟩
    have HM5 := Lib.hid hM5
    have hL := hL.next hb10
    clear hM5 hb10 hS3
    repeat (first | refine kw_seq ?_ | refine kw_block ?_ | refine kw_skip ?_ | refine kw_region ?_ | refine kl_nil ?_ | refine kq_then ?_ | refine kq_block ?_ | refine kw_exit ?_ | refine kq_then_exit ?_ | refine kq_block_here rfl ?_ | refine kq_block_far rfl ?_ | refine kq_again_exit ?_ | refine kw_ret ?_ | refine kq_then_ret ?_ | refine kq_block_ret ?_ | refine kq_again_ret ?_ | refine kw_ift rfl ?_ | refine kw_iff rfl ?_ | refine kl_ung rfl rfl ?_ | refine kl_skipg rfl rfl rfl rfl ?_ | refine kl_skipg0 rfl rfl rfl ?_ | (first | refine kl_move rfl rfl (.inl rfl) rfl rfl ?_ | refine kl_move rfl rfl (.inr rfl) rfl rfl ?_ | refine kl_const rfl rfl (.inl rfl) rfl ?_ | refine kl_const rfl rfl (.inr rfl) rfl ?_) | ((first | refine kl_step rfl rfl rfl fun K hK => ?_ | refine kl_step0 rfl rfl rfl fun K hK => ?_); go_simp; (try go_bits); (first | refine hK _ _ ?_ | refine hK _ ?_); clear hK K))
    refine kl_varL (d := 11) (y := 84) (cells := (sesV S3 D3 G3).toArray) hL sesZero (infoS S3 D3 G3 HM5.out.sum) (sizeZ S3 D3 G3 HM5.out.sum) (sesV_one _ _ _ HM5.out.data.one HM5.out.got.one) rfl rfl rfl rfl rfl rfl rfl rfl rfl ?_
    intro g11 w11 _ _ hL
    repeat (first | refine kw_seq ?_ | refine kw_block ?_ | refine kw_skip ?_ | refine kw_region ?_ | refine kl_nil ?_ | refine kq_then ?_ | refine kq_block ?_ | refine kw_exit ?_ | refine kq_then_exit ?_ | refine kq_block_here rfl ?_ | refine kq_block_far rfl ?_ | refine kq_again_exit ?_ | refine kw_ret ?_ | refine kq_then_ret ?_ | refine kq_block_ret ?_ | refine kq_again_ret ?_ | refine kw_ift rfl ?_ | refine kw_iff rfl ?_ | refine kl_ung rfl rfl ?_ | refine kl_skipg rfl rfl rfl rfl ?_ | refine kl_skipg0 rfl rfl rfl ?_ | (first | refine kl_move rfl rfl (.inl rfl) rfl rfl ?_ | refine kl_move rfl rfl (.inr rfl) rfl rfl ?_ | refine kl_const rfl rfl (.inl rfl) rfl ?_ | refine kl_const rfl rfl (.inr rfl) rfl ?_) | ((first | refine kl_step rfl rfl rfl fun K hK => ?_ | refine kl_step0 rfl rfl rfl fun K hK => ?_); go_simp; (try go_bits); (first | refine hK _ _ ?_ | refine hK _ ?_); clear hK K))
    exact kq_ret1 rfl rfl ⟨rfl, hL.below⟩
  · have cA := hL.get 0 rfl (frm_1 cR _)
    have fA := hL.free 0 rfl 1
    repeat (first | refine kw_seq ?_ | refine kw_block ?_ | refine kw_skip ?_ | refine kw_region ?_ | refine kl_nil ?_ | refine kq_then ?_ | refine kq_block ?_ | refine kw_exit ?_ | refine kq_then_exit ?_ | refine kq_block_here rfl ?_ | refine kq_block_far rfl ?_ | refine kq_again_exit ?_ | refine kw_ret ?_ | refine kq_then_ret ?_ | refine kq_block_ret ?_ | refine kq_again_ret ?_ | refine kw_ift rfl ?_ | refine kw_iff rfl ?_ | refine kl_ung rfl rfl ?_ | refine kl_skipg rfl rfl rfl rfl ?_ | refine kl_skipg0 rfl rfl rfl ?_ | (first | refine kl_move rfl rfl (.inl rfl) rfl rfl ?_ | refine kl_move rfl rfl (.inr rfl) rfl rfl ?_ | refine kl_const rfl rfl (.inl rfl) rfl ?_ | refine kl_const rfl rfl (.inr rfl) rfl ?_) | ((first | refine kl_step rfl rfl rfl fun K hK => ?_ | refine kl_step0 rfl rfl rfl fun K hK => ?_); go_simp; (try go_bits); (first | refine hK _ _ ?_ | refine hK _ ?_); clear hK K))
    have HL : Hid (Lay w (w8.setCell (⟨g8, 1, none⟩ : Addr) (.int .i64 (5 + (q : Int)))) [(g8, (frmV ⟨2, 5 + (q : Int), 0, 90, z32, [1, 2, 3]⟩ (.slice (some ⟨g25, 0, none⟩) 3 3)).toArray, 36), (g6, (sesV s1R D2 G2).toArray, 30), (g5, (frmV fR (.slice none 0 0)).toArray, 36)]) := hL.cell 0 rfl 1 (.int .i64 (5 + (q : Int)))
    have HM4 : Hid (SesM (w8.setCell (⟨g8, 1, none⟩ : Addr) (.int .i64 (5 + (q : Int)))) s1R D2 G2) := ⟨HM3.out.id, HM3.out.size, HM3.out.sum, HM3.out.data.set (fD2.ne l86) _, HM3.out.got.set (fG2.ne l86) _⟩
    have HC4 : Hid (SlB (w8.setCell (⟨g8, 1, none⟩ : Addr) (.int .i64 (5 + (q : Int)))) [1, 2, 3] (.slice (some ⟨g25, 0, none⟩) 3 3)) := HC.out.set (fun b o n c e => by injection e with e _ _; injection e with e; injection e with e _; show b ≠ g8; omega) _
    clear hL cA fA
    generalize w8.setCell (⟨g8, 1, none⟩ : Addr) (.int .i64 (5 + (q : Int))) = w9 at *
    have hL := HL.out
    refine kl_call rfl rfl rfl Try.func12 rfl (by kernel_rfl) rfl ?_
    refine Calls.mono (within_any x 8 _ _ rfl (by omega) (by omega)) ?_
    rw [HK.out]
    rintro e _ ⟨rfl, rfl⟩
    refine ⟨_, rfl, ?_⟩
    repeat (first | refine kw_seq ?_ | refine kw_block ?_ | refine kw_skip ?_ | refine kw_region ?_ | refine kl_nil ?_ | refine kq_then ?_ | refine kq_block ?_ | refine kw_exit ?_ | refine kq_then_exit ?_ | refine kq_block_here rfl ?_ | refine kq_block_far rfl ?_ | refine kq_again_exit ?_ | refine kw_ret ?_ | refine kq_then_ret ?_ | refine kq_block_ret ?_ | refine kq_again_ret ?_ | refine kw_ift rfl ?_ | refine kw_iff rfl ?_ | refine kl_ung rfl rfl ?_ | refine kl_skipg rfl rfl rfl rfl ?_ | refine kl_skipg0 rfl rfl rfl ?_ | refine kl_getL hL 1 rfl Try.underlying30 rfl (infoS _ _ _ z32_len) rfl rfl rfl rfl rfl ?_ | refine kl_getL hL 0 rfl Try.underlying36 rfl (infoF _ _ z32_len) rfl rfl rfl rfl rfl ?_ | (first | refine kl_move rfl rfl (.inl rfl) rfl rfl ?_ | refine kl_move rfl rfl (.inr rfl) rfl rfl ?_ | refine kl_const rfl rfl (.inl rfl) rfl ?_ | refine kl_const rfl rfl (.inr rfl) rfl ?_) | ((first | refine kl_step rfl rfl rfl fun K hK => ?_ | refine kl_step0 rfl rfl rfl fun K hK => ?_); go_simp; (try go_bits); (first | refine hK _ _ ?_ | refine hK _ ?_); clear hK K))
    refine kl_call rfl rfl rfl Try.func15 rfl (by kernel_rfl) rfl ?_
    refine Calls.mono (chunk_any s1R D2 G2 ⟨2, 5 + (q : Int), 0, 90, z32, [1, 2, 3]⟩ (.slice (some ⟨g25, 0, none⟩) 3 3) 100 w9 HM4.out (frmM_lit w9 (2) (5 + (q : Int)) (0) (90) _ [1, 2, 3] (by show I64 (2); unfold I64; omega) (by show I64 (5 + (q : Int)); unfold I64; omega) (by show I64 (0); unfold I64; omega) (by show I64 (90); unfold I64; omega) HC4.out) rfl (by decide) (by decide) (by omega) (by omega)) ?_
    rintro e w10 ⟨D4, G4, rfl, hM5, hb10, _⟩
    rw [chunkS_err (by rw [err_id q]; decide)] at hM5
    rw [chunkS_err (by rw [err_id q]; decide), err_id q]
    refine ⟨_, rfl, ?_⟩
    have HM5 := Lib.hid hM5
    have HM6 := Lib.hid (HM4.out.keep (.of_below hb10))
    have hL := hL.next hb10
    clear hM5 hb10
    repeat (first | refine kw_seq ?_ | refine kw_block ?_ | refine kw_skip ?_ | refine kw_region ?_ | refine kl_nil ?_ | refine kq_then ?_ | refine kq_block ?_ | refine kw_exit ?_ | refine kq_then_exit ?_ | refine kq_block_here rfl ?_ | refine kq_block_far rfl ?_ | refine kq_again_exit ?_ | refine kw_ret ?_ | refine kq_then_ret ?_ | refine kq_block_ret ?_ | refine kq_again_ret ?_ | refine kw_ift rfl ?_ | refine kw_iff rfl ?_ | refine kl_ung rfl rfl ?_ | refine kl_skipg rfl rfl rfl rfl ?_ | refine kl_skipg0 rfl rfl rfl ?_ | (first | refine kl_move rfl rfl (.inl rfl) rfl rfl ?_ | refine kl_move rfl rfl (.inr rfl) rfl rfl ?_ | refine kl_const rfl rfl (.inl rfl) rfl ?_ | refine kl_const rfl rfl (.inr rfl) rfl ?_) | ((first | refine kl_step rfl rfl rfl fun K hK => ?_ | refine kl_step0 rfl rfl rfl fun K hK => ?_); go_simp; (try go_bits); (first | refine hK _ _ ?_ | refine hK _ ?_); clear hK K))
    refine kl_varL (d := 13) (y := 93) (cells := (sesV s1R D4 G4).toArray) hL sesZero (infoS s1R D4 G4 z32_len) (sizeZ s1R D4 G4 z32_len) (sesV_one _ _ _ HM5.out.data.one HM5.out.got.one) rfl rfl rfl rfl rfl rfl rfl rfl rfl ?_
    intro g13 w11 _ hb11 hL
    have HM5 := Lib.hid (HM5.out.keep (.of_below hb11))
    have HM6 := Lib.hid (HM6.out.keep (.of_below hb11))
    clear hb11
    repeat (first | refine kw_seq ?_ | refine kw_block ?_ | refine kw_skip ?_ | refine kw_region ?_ | refine kl_nil ?_ | refine kq_then ?_ | refine kq_block ?_ | refine kw_exit ?_ | refine kq_then_exit ?_ | refine kq_block_here rfl ?_ | refine kq_block_far rfl ?_ | refine kq_again_exit ?_ | refine kw_ret ?_ | refine kq_then_ret ?_ | refine kq_block_ret ?_ | refine kq_again_ret ?_ | refine kw_ift rfl ?_ | refine kw_iff rfl ?_ | refine kl_ung rfl rfl ?_ | refine kl_skipg rfl rfl rfl rfl ?_ | refine kl_skipg0 rfl rfl rfl ?_ | refine kl_getL hL 0 rfl Try.underlying30 rfl (infoS _ _ _ z32_len) rfl rfl rfl rfl rfl ?_ | refine kl_getL hL 2 rfl Try.underlying30 rfl (infoS _ _ _ z32_len) rfl rfl rfl rfl rfl ?_ | (first | refine kl_move rfl rfl (.inl rfl) rfl rfl ?_ | refine kl_move rfl rfl (.inr rfl) rfl rfl ?_ | refine kl_const rfl rfl (.inl rfl) rfl ?_ | refine kl_const rfl rfl (.inr rfl) rfl ?_) | ((first | refine kl_step rfl rfl rfl fun K hK => ?_ | refine kl_step0 rfl rfl rfl fun K hK => ?_); go_simp; (try go_bits); (first | refine hK _ _ ?_ | refine hK _ ?_); clear hK K))
    refine kl_call rfl rfl rfl Try.func24 rfl (by kernel_rfl) rfl ?_
    refine Calls.mono (same_any s1R s1R D4 G4 D2 G2 w11 HM5.out HM6.out (by decide) (by decide)) ?_
    rw [same_refl]
    rintro e w12 ⟨rfl, hb12⟩
    refine ⟨_, rfl, ?_⟩
    have HM5 := Lib.hid (HM5.out.keep (.of_below hb12))
    have hL := hL.next hb12
    clear hb12
    repeat (first | refine kw_seq ?_ | refine kw_block ?_ | refine kw_skip ?_ | refine kw_region ?_ | refine kl_nil ?_ | refine kq_then ?_ | refine kq_block ?_ | refine kw_exit ?_ | refine kq_then_exit ?_ | refine kq_block_here rfl ?_ | refine kq_block_far rfl ?_ | refine kq_again_exit ?_ | refine kw_ret ?_ | refine kq_then_ret ?_ | refine kq_block_ret ?_ | refine kq_again_ret ?_ | refine kw_ift rfl ?_ | refine kw_iff rfl ?_ | refine kl_ung rfl rfl ?_ | refine kl_skipg rfl rfl rfl rfl ?_ | refine kl_skipg0 rfl rfl rfl ?_ | refine kl_getL hL 0 rfl Try.underlying30 rfl (infoS _ _ _ z32_len) rfl rfl rfl rfl rfl ?_ | (first | refine kl_move rfl rfl (.inl rfl) rfl rfl ?_ | refine kl_move rfl rfl (.inr rfl) rfl rfl ?_ | refine kl_const rfl rfl (.inl rfl) rfl ?_ | refine kl_const rfl rfl (.inr rfl) rfl ?_) | ((first | refine kl_step rfl rfl rfl fun K hK => ?_ | refine kl_step0 rfl rfl rfl fun K hK => ?_); go_simp; (try go_bits); (first | refine hK _ _ ?_ | refine hK _ ?_); clear hK K))
    refine kl_call rfl rfl rfl Try.func17 rfl (by kernel_rfl) rfl ?_
    refine Calls.mono (left_any s1R D4 G4 w12 HM5.out (by decide)) ?_
    rw [left_s1]
    rintro e w13 ⟨rfl, hb13⟩
    refine ⟨_, rfl, ?_⟩
    have hL := hL.next hb13
    repeat (first | refine kw_seq ?_ | refine kw_block ?_ | refine kw_skip ?_ | refine kw_region ?_ | refine kl_nil ?_ | refine kq_then ?_ | refine kq_block ?_ | refine kw_exit ?_ | refine kq_then_exit ?_ | refine kq_block_here rfl ?_ | refine kq_block_far rfl ?_ | refine kq_again_exit ?_ | refine kw_ret ?_ | refine kq_then_ret ?_ | refine kq_block_ret ?_ | refine kq_again_ret ?_ | refine kw_ift rfl ?_ | refine kw_iff rfl ?_ | refine kl_ung rfl rfl ?_ | refine kl_skipg rfl rfl rfl rfl ?_ | refine kl_skipg0 rfl rfl rfl ?_ | (first | refine kl_move rfl rfl (.inl rfl) rfl rfl ?_ | refine kl_move rfl rfl (.inr rfl) rfl rfl ?_ | refine kl_const rfl rfl (.inl rfl) rfl ?_ | refine kl_const rfl rfl (.inr rfl) rfl ?_) | ((first | refine kl_step rfl rfl rfl fun K hK => ?_ | refine kl_step0 rfl rfl rfl fun K hK => ?_); go_simp; (try go_bits); (first | refine hK _ _ ?_ | refine hK _ ?_); clear hK K))
    exact kq_ret1 rfl rfl ⟨rfl, hL.below⟩
  · have cA := hL.get 0 rfl (frm_36 cR _ z32_len)
    have fA := hL.free 0 rfl 36
    repeat (first | refine kw_seq ?_ | refine kw_block ?_ | refine kw_skip ?_ | refine kw_region ?_ | refine kl_nil ?_ | refine kq_then ?_ | refine kq_block ?_ | refine kw_exit ?_ | refine kq_then_exit ?_ | refine kq_block_here rfl ?_ | refine kq_block_far rfl ?_ | refine kq_again_exit ?_ | refine kw_ret ?_ | refine kq_then_ret ?_ | refine kq_block_ret ?_ | refine kq_again_ret ?_ | refine kw_ift rfl ?_ | refine kw_iff rfl ?_ | refine kl_ung rfl rfl ?_ | refine kl_skipg rfl rfl rfl rfl ?_ | refine kl_skipg0 rfl rfl rfl ?_ | (first | refine kl_move rfl rfl (.inl rfl) rfl rfl ?_ | refine kl_move rfl rfl (.inr rfl) rfl rfl ?_ | refine kl_const rfl rfl (.inl rfl) rfl ?_ | refine kl_const rfl rfl (.inr rfl) rfl ?_) | ((first | refine kl_step rfl rfl rfl fun K hK => ?_ | refine kl_step0 rfl rfl rfl fun K hK => ?_); go_simp; (try go_bits); (first | refine hK _ _ ?_ | refine hK _ ?_); clear hK K))
    have HL : Hid (Lay w (w8.setCell (⟨g8, 36, none⟩ : Addr) (.slice none 0 0)) [(g8, (frmV ⟨2, 4, 0, 90, z32, []⟩ (.slice none 0 0)).toArray, 36), (g6, (sesV s1R D2 G2).toArray, 30), (g5, (frmV fR (.slice none 0 0)).toArray, 36)]) := hL.cell 0 rfl 36 (.slice none 0 0)
    have HM4 : Hid (SesM (w8.setCell (⟨g8, 36, none⟩ : Addr) (.slice none 0 0)) s1R D2 G2) := ⟨HM3.out.id, HM3.out.size, HM3.out.sum, HM3.out.data.set (fD2.ne l86) _, HM3.out.got.set (fG2.ne l86) _⟩
    have HC4 : Hid (SlB (w8.setCell (⟨g8, 36, none⟩ : Addr) (.slice none 0 0)) [1, 2, 3] (.slice (some ⟨g25, 0, none⟩) 3 3)) := HC.out.set (fun b o n c e => by injection e with e _ _; injection e with e; injection e with e _; show b ≠ g8; omega) _
    clear hL cA fA
    generalize w8.setCell (⟨g8, 36, none⟩ : Addr) (.slice none 0 0) = w9 at *
    have hL := HL.out
    refine kl_call rfl rfl rfl Try.func12 rfl (by kernel_rfl) rfl ?_
    refine Calls.mono (within_any x 8 _ _ rfl (by omega) (by omega)) ?_
    rw [HK.out]
    rintro e _ ⟨rfl, rfl⟩
    refine ⟨_, rfl, ?_⟩
    repeat (first | refine kw_seq ?_ | refine kw_block ?_ | refine kw_skip ?_ | refine kw_region ?_ | refine kl_nil ?_ | refine kq_then ?_ | refine kq_block ?_ | refine kw_exit ?_ | refine kq_then_exit ?_ | refine kq_block_here rfl ?_ | refine kq_block_far rfl ?_ | refine kq_again_exit ?_ | refine kw_ret ?_ | refine kq_then_ret ?_ | refine kq_block_ret ?_ | refine kq_again_ret ?_ | refine kw_ift rfl ?_ | refine kw_iff rfl ?_ | refine kl_ung rfl rfl ?_ | refine kl_skipg rfl rfl rfl rfl ?_ | refine kl_skipg0 rfl rfl rfl ?_ | refine kl_getL hL 1 rfl Try.underlying30 rfl (infoS _ _ _ z32_len) rfl rfl rfl rfl rfl ?_ | refine kl_getL hL 0 rfl Try.underlying36 rfl (infoF _ _ z32_len) rfl rfl rfl rfl rfl ?_ | (first | refine kl_move rfl rfl (.inl rfl) rfl rfl ?_ | refine kl_move rfl rfl (.inr rfl) rfl rfl ?_ | refine kl_const rfl rfl (.inl rfl) rfl ?_ | refine kl_const rfl rfl (.inr rfl) rfl ?_) | ((first | refine kl_step rfl rfl rfl fun K hK => ?_ | refine kl_step0 rfl rfl rfl fun K hK => ?_); go_simp; (try go_bits); (first | refine hK _ _ ?_ | refine hK _ ?_); clear hK K))
    refine kl_call rfl rfl rfl Try.func15 rfl (by kernel_rfl) rfl ?_
    refine Calls.mono (chunk_any s1R D2 G2 ⟨2, 4, 0, 90, z32, []⟩ (.slice none 0 0) 100 w9 HM4.out (frmM_lit w9 (2) (4) (0) (90) _ [] (by show I64 (2); unfold I64; omega) (by show I64 (4); unfold I64; omega) (by show I64 (0); unfold I64; omega) (by show I64 (90); unfold I64; omega) (SlB.nil _)) rfl (by decide) (by decide) (by omega) (by omega)) ?_
    rintro e w10 ⟨D4, G4, rfl, hM5, hb10, _⟩
    rw [chunkS_err (by rw [err_nil]; decide)] at hM5
    rw [chunkS_err (by rw [err_nil]; decide), err_nil]
    refine ⟨_, rfl, ?_⟩
    have HM5 := Lib.hid hM5
    have HM6 := Lib.hid (HM4.out.keep (.of_below hb10))
    have hL := hL.next hb10
    clear hM5 hb10
    repeat (first | refine kw_seq ?_ | refine kw_block ?_ | refine kw_skip ?_ | refine kw_region ?_ | refine kl_nil ?_ | refine kq_then ?_ | refine kq_block ?_ | refine kw_exit ?_ | refine kq_then_exit ?_ | refine kq_block_here rfl ?_ | refine kq_block_far rfl ?_ | refine kq_again_exit ?_ | refine kw_ret ?_ | refine kq_then_ret ?_ | refine kq_block_ret ?_ | refine kq_again_ret ?_ | refine kw_ift rfl ?_ | refine kw_iff rfl ?_ | refine kl_ung rfl rfl ?_ | refine kl_skipg rfl rfl rfl rfl ?_ | refine kl_skipg0 rfl rfl rfl ?_ | (first | refine kl_move rfl rfl (.inl rfl) rfl rfl ?_ | refine kl_move rfl rfl (.inr rfl) rfl rfl ?_ | refine kl_const rfl rfl (.inl rfl) rfl ?_ | refine kl_const rfl rfl (.inr rfl) rfl ?_) | ((first | refine kl_step rfl rfl rfl fun K hK => ?_ | refine kl_step0 rfl rfl rfl fun K hK => ?_); go_simp; (try go_bits); (first | refine hK _ _ ?_ | refine hK _ ?_); clear hK K))
    refine kl_varL (d := 13) (y := 93) (cells := (sesV s1R D4 G4).toArray) hL sesZero (infoS s1R D4 G4 z32_len) (sizeZ s1R D4 G4 z32_len) (sesV_one _ _ _ HM5.out.data.one HM5.out.got.one) rfl rfl rfl rfl rfl rfl rfl rfl rfl ?_
    intro g13 w11 _ hb11 hL
    have HM5 := Lib.hid (HM5.out.keep (.of_below hb11))
    have HM6 := Lib.hid (HM6.out.keep (.of_below hb11))
    clear hb11
    repeat (first | refine kw_seq ?_ | refine kw_block ?_ | refine kw_skip ?_ | refine kw_region ?_ | refine kl_nil ?_ | refine kq_then ?_ | refine kq_block ?_ | refine kw_exit ?_ | refine kq_then_exit ?_ | refine kq_block_here rfl ?_ | refine kq_block_far rfl ?_ | refine kq_again_exit ?_ | refine kw_ret ?_ | refine kq_then_ret ?_ | refine kq_block_ret ?_ | refine kq_again_ret ?_ | refine kw_ift rfl ?_ | refine kw_iff rfl ?_ | refine kl_ung rfl rfl ?_ | refine kl_skipg rfl rfl rfl rfl ?_ | refine kl_skipg0 rfl rfl rfl ?_ | refine kl_getL hL 0 rfl Try.underlying30 rfl (infoS _ _ _ z32_len) rfl rfl rfl rfl rfl ?_ | refine kl_getL hL 2 rfl Try.underlying30 rfl (infoS _ _ _ z32_len) rfl rfl rfl rfl rfl ?_ | (first | refine kl_move rfl rfl (.inl rfl) rfl rfl ?_ | refine kl_move rfl rfl (.inr rfl) rfl rfl ?_ | refine kl_const rfl rfl (.inl rfl) rfl ?_ | refine kl_const rfl rfl (.inr rfl) rfl ?_) | ((first | refine kl_step rfl rfl rfl fun K hK => ?_ | refine kl_step0 rfl rfl rfl fun K hK => ?_); go_simp; (try go_bits); (first | refine hK _ _ ?_ | refine hK _ ?_); clear hK K))
    refine kl_call rfl rfl rfl Try.func24 rfl (by kernel_rfl) rfl ?_
    refine Calls.mono (same_any s1R s1R D4 G4 D2 G2 w11 HM5.out HM6.out (by decide) (by decide)) ?_
    rw [same_refl]
    rintro e w12 ⟨rfl, hb12⟩
    refine ⟨_, rfl, ?_⟩
    have HM5 := Lib.hid (HM5.out.keep (.of_below hb12))
    have hL := hL.next hb12
    clear hb12
    repeat (first | refine kw_seq ?_ | refine kw_block ?_ | refine kw_skip ?_ | refine kw_region ?_ | refine kl_nil ?_ | refine kq_then ?_ | refine kq_block ?_ | refine kw_exit ?_ | refine kq_then_exit ?_ | refine kq_block_here rfl ?_ | refine kq_block_far rfl ?_ | refine kq_again_exit ?_ | refine kw_ret ?_ | refine kq_then_ret ?_ | refine kq_block_ret ?_ | refine kq_again_ret ?_ | refine kw_ift rfl ?_ | refine kw_iff rfl ?_ | refine kl_ung rfl rfl ?_ | refine kl_skipg rfl rfl rfl rfl ?_ | refine kl_skipg0 rfl rfl rfl ?_ | refine kl_getL hL 0 rfl Try.underlying30 rfl (infoS _ _ _ z32_len) rfl rfl rfl rfl rfl ?_ | (first | refine kl_move rfl rfl (.inl rfl) rfl rfl ?_ | refine kl_move rfl rfl (.inr rfl) rfl rfl ?_ | refine kl_const rfl rfl (.inl rfl) rfl ?_ | refine kl_const rfl rfl (.inr rfl) rfl ?_) | ((first | refine kl_step rfl rfl rfl fun K hK => ?_ | refine kl_step0 rfl rfl rfl fun K hK => ?_); go_simp; (try go_bits); (first | refine hK _ _ ?_ | refine hK _ ?_); clear hK K))
    refine kl_call rfl rfl rfl Try.func17 rfl (by kernel_rfl) rfl ?_
    refine Calls.mono (left_any s1R D4 G4 w12 HM5.out (by decide)) ?_
    rw [left_s1]
    rintro e w13 ⟨rfl, hb13⟩
    refine ⟨_, rfl, ?_⟩
    have hL := hL.next hb13
    repeat (first | refine kw_seq ?_ | refine kw_block ?_ | refine kw_skip ?_ | refine kw_region ?_ | refine kl_nil ?_ | refine kq_then ?_ | refine kq_block ?_ | refine kw_exit ?_ | refine kq_then_exit ?_ | refine kq_block_here rfl ?_ | refine kq_block_far rfl ?_ | refine kq_again_exit ?_ | refine kw_ret ?_ | refine kq_then_ret ?_ | refine kq_block_ret ?_ | refine kq_again_ret ?_ | refine kw_ift rfl ?_ | refine kw_iff rfl ?_ | refine kl_ung rfl rfl ?_ | refine kl_skipg rfl rfl rfl rfl ?_ | refine kl_skipg0 rfl rfl rfl ?_ | (first | refine kl_move rfl rfl (.inl rfl) rfl rfl ?_ | refine kl_move rfl rfl (.inr rfl) rfl rfl ?_ | refine kl_const rfl rfl (.inl rfl) rfl ?_ | refine kl_const rfl rfl (.inr rfl) rfl ?_) | ((first | refine kl_step rfl rfl rfl fun K hK => ?_ | refine kl_step0 rfl rfl rfl fun K hK => ?_); go_simp; (try go_bits); (first | refine hK _ _ ?_ | refine hK _ ?_); clear hK K))
    exact kq_ret1 rfl rfl ⟨rfl, hL.below⟩
  · have cA := hL.get 0 rfl (frm_3 cR _)
    have fA := hL.free 0 rfl 3
    repeat (first | refine kw_seq ?_ | refine kw_block ?_ | refine kw_skip ?_ | refine kw_region ?_ | refine kl_nil ?_ | refine kq_then ?_ | refine kq_block ?_ | refine kw_exit ?_ | refine kq_then_exit ?_ | refine kq_block_here rfl ?_ | refine kq_block_far rfl ?_ | refine kq_again_exit ?_ | refine kw_ret ?_ | refine kq_then_ret ?_ | refine kq_block_ret ?_ | refine kq_again_ret ?_ | refine kw_ift rfl ?_ | refine kw_iff rfl ?_ | refine kl_ung rfl rfl ?_ | refine kl_skipg rfl rfl rfl rfl ?_ | refine kl_skipg0 rfl rfl rfl ?_ | (first | refine kl_move rfl rfl (.inl rfl) rfl rfl ?_ | refine kl_move rfl rfl (.inr rfl) rfl rfl ?_ | refine kl_const rfl rfl (.inl rfl) rfl ?_ | refine kl_const rfl rfl (.inr rfl) rfl ?_) | ((first | refine kl_step rfl rfl rfl fun K hK => ?_ | refine kl_step0 rfl rfl rfl fun K hK => ?_); go_simp; (try go_bits); (first | refine hK _ _ ?_ | refine hK _ ?_); clear hK K))
    have HL : Hid (Lay w (w8.setCell (⟨g8, 3, none⟩ : Addr) (.int .i64 (-1 - (q : Int)))) [(g8, (frmV ⟨2, 4, 0, -1 - (q : Int), z32, [1, 2, 3]⟩ (.slice (some ⟨g25, 0, none⟩) 3 3)).toArray, 36), (g6, (sesV s1R D2 G2).toArray, 30), (g5, (frmV fR (.slice none 0 0)).toArray, 36)]) := hL.cell 0 rfl 3 (.int .i64 (-1 - (q : Int)))
    have HM4 : Hid (SesM (w8.setCell (⟨g8, 3, none⟩ : Addr) (.int .i64 (-1 - (q : Int)))) s1R D2 G2) := ⟨HM3.out.id, HM3.out.size, HM3.out.sum, HM3.out.data.set (fD2.ne l86) _, HM3.out.got.set (fG2.ne l86) _⟩
    have HC4 : Hid (SlB (w8.setCell (⟨g8, 3, none⟩ : Addr) (.int .i64 (-1 - (q : Int)))) [1, 2, 3] (.slice (some ⟨g25, 0, none⟩) 3 3)) := HC.out.set (fun b o n c e => by injection e with e _ _; injection e with e; injection e with e _; show b ≠ g8; omega) _
    clear hL cA fA
    generalize w8.setCell (⟨g8, 3, none⟩ : Addr) (.int .i64 (-1 - (q : Int))) = w9 at *
    have hL := HL.out
    refine kl_call rfl rfl rfl Try.func12 rfl (by kernel_rfl) rfl ?_
    refine Calls.mono (within_any x 8 _ _ rfl (by omega) (by omega)) ?_
    rw [HK.out]
    rintro e _ ⟨rfl, rfl⟩
    refine ⟨_, rfl, ?_⟩
    repeat (first | refine kw_seq ?_ | refine kw_block ?_ | refine kw_skip ?_ | refine kw_region ?_ | refine kl_nil ?_ | refine kq_then ?_ | refine kq_block ?_ | refine kw_exit ?_ | refine kq_then_exit ?_ | refine kq_block_here rfl ?_ | refine kq_block_far rfl ?_ | refine kq_again_exit ?_ | refine kw_ret ?_ | refine kq_then_ret ?_ | refine kq_block_ret ?_ | refine kq_again_ret ?_ | refine kw_ift rfl ?_ | refine kw_iff rfl ?_ | refine kl_ung rfl rfl ?_ | refine kl_skipg rfl rfl rfl rfl ?_ | refine kl_skipg0 rfl rfl rfl ?_ | refine kl_getL hL 1 rfl Try.underlying30 rfl (infoS _ _ _ z32_len) rfl rfl rfl rfl rfl ?_ | refine kl_getL hL 0 rfl Try.underlying36 rfl (infoF _ _ z32_len) rfl rfl rfl rfl rfl ?_ | (first | refine kl_move rfl rfl (.inl rfl) rfl rfl ?_ | refine kl_move rfl rfl (.inr rfl) rfl rfl ?_ | refine kl_const rfl rfl (.inl rfl) rfl ?_ | refine kl_const rfl rfl (.inr rfl) rfl ?_) | ((first | refine kl_step rfl rfl rfl fun K hK => ?_ | refine kl_step0 rfl rfl rfl fun K hK => ?_); go_simp; (try go_bits); (first | refine hK _ _ ?_ | refine hK _ ?_); clear hK K))
    refine kl_call rfl rfl rfl Try.func15 rfl (by kernel_rfl) rfl ?_
    refine Calls.mono (chunk_any s1R D2 G2 ⟨2, 4, 0, -1 - (q : Int), z32, [1, 2, 3]⟩ (.slice (some ⟨g25, 0, none⟩) 3 3) 100 w9 HM4.out (frmM_lit w9 (2) (4) (0) (-1 - (q : Int)) _ [1, 2, 3] (by show I64 (2); unfold I64; omega) (by show I64 (4); unfold I64; omega) (by show I64 (0); unfold I64; omega) (by show I64 (-1 - (q : Int)); unfold I64; omega) HC4.out) rfl (by decide) (by decide) (by omega) (by omega)) ?_
    rintro e w10 ⟨D4, G4, rfl, hM5, hb10, _⟩
    rw [chunkS_err (by rw [err_lo q]; decide)] at hM5
    rw [chunkS_err (by rw [err_lo q]; decide), err_lo q]
    refine ⟨_, rfl, ?_⟩
    have HM5 := Lib.hid hM5
    have HM6 := Lib.hid (HM4.out.keep (.of_below hb10))
    have hL := hL.next hb10
    clear hM5 hb10
    repeat (first | refine kw_seq ?_ | refine kw_block ?_ | refine kw_skip ?_ | refine kw_region ?_ | refine kl_nil ?_ | refine kq_then ?_ | refine kq_block ?_ | refine kw_exit ?_ | refine kq_then_exit ?_ | refine kq_block_here rfl ?_ | refine kq_block_far rfl ?_ | refine kq_again_exit ?_ | refine kw_ret ?_ | refine kq_then_ret ?_ | refine kq_block_ret ?_ | refine kq_again_ret ?_ | refine kw_ift rfl ?_ | refine kw_iff rfl ?_ | refine kl_ung rfl rfl ?_ | refine kl_skipg rfl rfl rfl rfl ?_ | refine kl_skipg0 rfl rfl rfl ?_ | (first | refine kl_move rfl rfl (.inl rfl) rfl rfl ?_ | refine kl_move rfl rfl (.inr rfl) rfl rfl ?_ | refine kl_const rfl rfl (.inl rfl) rfl ?_ | refine kl_const rfl rfl (.inr rfl) rfl ?_) | ((first | refine kl_step rfl rfl rfl fun K hK => ?_ | refine kl_step0 rfl rfl rfl fun K hK => ?_); go_simp; (try go_bits); (first | refine hK _ _ ?_ | refine hK _ ?_); clear hK K))
    refine kl_varL (d := 13) (y := 93) (cells := (sesV s1R D4 G4).toArray) hL sesZero (infoS s1R D4 G4 z32_len) (sizeZ s1R D4 G4 z32_len) (sesV_one _ _ _ HM5.out.data.one HM5.out.got.one) rfl rfl rfl rfl rfl rfl rfl rfl rfl ?_
    intro g13 w11 _ hb11 hL
    have HM5 := Lib.hid (HM5.out.keep (.of_below hb11))
    have HM6 := Lib.hid (HM6.out.keep (.of_below hb11))
    clear hb11
    repeat (first | refine kw_seq ?_ | refine kw_block ?_ | refine kw_skip ?_ | refine kw_region ?_ | refine kl_nil ?_ | refine kq_then ?_ | refine kq_block ?_ | refine kw_exit ?_ | refine kq_then_exit ?_ | refine kq_block_here rfl ?_ | refine kq_block_far rfl ?_ | refine kq_again_exit ?_ | refine kw_ret ?_ | refine kq_then_ret ?_ | refine kq_block_ret ?_ | refine kq_again_ret ?_ | refine kw_ift rfl ?_ | refine kw_iff rfl ?_ | refine kl_ung rfl rfl ?_ | refine kl_skipg rfl rfl rfl rfl ?_ | refine kl_skipg0 rfl rfl rfl ?_ | refine kl_getL hL 0 rfl Try.underlying30 rfl (infoS _ _ _ z32_len) rfl rfl rfl rfl rfl ?_ | refine kl_getL hL 2 rfl Try.underlying30 rfl (infoS _ _ _ z32_len) rfl rfl rfl rfl rfl ?_ | (first | refine kl_move rfl rfl (.inl rfl) rfl rfl ?_ | refine kl_move rfl rfl (.inr rfl) rfl rfl ?_ | refine kl_const rfl rfl (.inl rfl) rfl ?_ | refine kl_const rfl rfl (.inr rfl) rfl ?_) | ((first | refine kl_step rfl rfl rfl fun K hK => ?_ | refine kl_step0 rfl rfl rfl fun K hK => ?_); go_simp; (try go_bits); (first | refine hK _ _ ?_ | refine hK _ ?_); clear hK K))
    refine kl_call rfl rfl rfl Try.func24 rfl (by kernel_rfl) rfl ?_
    refine Calls.mono (same_any s1R s1R D4 G4 D2 G2 w11 HM5.out HM6.out (by decide) (by decide)) ?_
    rw [same_refl]
    rintro e w12 ⟨rfl, hb12⟩
    refine ⟨_, rfl, ?_⟩
    have HM5 := Lib.hid (HM5.out.keep (.of_below hb12))
    have hL := hL.next hb12
    clear hb12
    repeat (first | refine kw_seq ?_ | refine kw_block ?_ | refine kw_skip ?_ | refine kw_region ?_ | refine kl_nil ?_ | refine kq_then ?_ | refine kq_block ?_ | refine kw_exit ?_ | refine kq_then_exit ?_ | refine kq_block_here rfl ?_ | refine kq_block_far rfl ?_ | refine kq_again_exit ?_ | refine kw_ret ?_ | refine kq_then_ret ?_ | refine kq_block_ret ?_ | refine kq_again_ret ?_ | refine kw_ift rfl ?_ | refine kw_iff rfl ?_ | refine kl_ung rfl rfl ?_ | refine kl_skipg rfl rfl rfl rfl ?_ | refine kl_skipg0 rfl rfl rfl ?_ | refine kl_getL hL 0 rfl Try.underlying30 rfl (infoS _ _ _ z32_len) rfl rfl rfl rfl rfl ?_ | (first | refine kl_move rfl rfl (.inl rfl) rfl rfl ?_ | refine kl_move rfl rfl (.inr rfl) rfl rfl ?_ | refine kl_const rfl rfl (.inl rfl) rfl ?_ | refine kl_const rfl rfl (.inr rfl) rfl ?_) | ((first | refine kl_step rfl rfl rfl fun K hK => ?_ | refine kl_step0 rfl rfl rfl fun K hK => ?_); go_simp; (try go_bits); (first | refine hK _ _ ?_ | refine hK _ ?_); clear hK K))
    refine kl_call rfl rfl rfl Try.func17 rfl (by kernel_rfl) rfl ?_
    refine Calls.mono (left_any s1R D4 G4 w12 HM5.out (by decide)) ?_
    rw [left_s1]
    rintro e w13 ⟨rfl, hb13⟩
    refine ⟨_, rfl, ?_⟩
    have hL := hL.next hb13
    repeat (first | refine kw_seq ?_ | refine kw_block ?_ | refine kw_skip ?_ | refine kw_region ?_ | refine kl_nil ?_ | refine kq_then ?_ | refine kq_block ?_ | refine kw_exit ?_ | refine kq_then_exit ?_ | refine kq_block_here rfl ?_ | refine kq_block_far rfl ?_ | refine kq_again_exit ?_ | refine kw_ret ?_ | refine kq_then_ret ?_ | refine kq_block_ret ?_ | refine kq_again_ret ?_ | refine kw_ift rfl ?_ | refine kw_iff rfl ?_ | refine kl_ung rfl rfl ?_ | refine kl_skipg rfl rfl rfl rfl ?_ | refine kl_skipg0 rfl rfl rfl ?_ | (first | refine kl_move rfl rfl (.inl rfl) rfl rfl ?_ | refine kl_move rfl rfl (.inr rfl) rfl rfl ?_ | refine kl_const rfl rfl (.inl rfl) rfl ?_ | refine kl_const rfl rfl (.inr rfl) rfl ?_) | ((first | refine kl_step rfl rfl rfl fun K hK => ?_ | refine kl_step0 rfl rfl rfl fun K hK => ?_); go_simp; (try go_bits); (first | refine hK _ _ ?_ | refine hK _ ?_); clear hK K))
    exact kq_ret1 rfl rfl ⟨rfl, hL.below⟩
  · have cA := hL.get 0 rfl (frm_3 cR _)
    have fA := hL.free 0 rfl 3
    repeat (first | refine kw_seq ?_ | refine kw_block ?_ | refine kw_skip ?_ | refine kw_region ?_ | refine kl_nil ?_ | refine kq_then ?_ | refine kq_block ?_ | refine kw_exit ?_ | refine kq_then_exit ?_ | refine kq_block_here rfl ?_ | refine kq_block_far rfl ?_ | refine kq_again_exit ?_ | refine kw_ret ?_ | refine kq_then_ret ?_ | refine kq_block_ret ?_ | refine kq_again_ret ?_ | refine kw_ift rfl ?_ | refine kw_iff rfl ?_ | refine kl_ung rfl rfl ?_ | refine kl_skipg rfl rfl rfl rfl ?_ | refine kl_skipg0 rfl rfl rfl ?_ | (first | refine kl_move rfl rfl (.inl rfl) rfl rfl ?_ | refine kl_move rfl rfl (.inr rfl) rfl rfl ?_ | refine kl_const rfl rfl (.inl rfl) rfl ?_ | refine kl_const rfl rfl (.inr rfl) rfl ?_) | ((first | refine kl_step rfl rfl rfl fun K hK => ?_ | refine kl_step0 rfl rfl rfl fun K hK => ?_); go_simp; (try go_bits); (first | refine hK _ _ ?_ | refine hK _ ?_); clear hK K))
    have HL : Hid (Lay w (w8.setCell (⟨g8, 3, none⟩ : Addr) (.int .i64 (98 + (q : Int)))) [(g8, (frmV ⟨2, 4, 0, 98 + (q : Int), z32, [1, 2, 3]⟩ (.slice (some ⟨g25, 0, none⟩) 3 3)).toArray, 36), (g6, (sesV s1R D2 G2).toArray, 30), (g5, (frmV fR (.slice none 0 0)).toArray, 36)]) := hL.cell 0 rfl 3 (.int .i64 (98 + (q : Int)))
    have HM4 : Hid (SesM (w8.setCell (⟨g8, 3, none⟩ : Addr) (.int .i64 (98 + (q : Int)))) s1R D2 G2) := ⟨HM3.out.id, HM3.out.size, HM3.out.sum, HM3.out.data.set (fD2.ne l86) _, HM3.out.got.set (fG2.ne l86) _⟩
    have HC4 : Hid (SlB (w8.setCell (⟨g8, 3, none⟩ : Addr) (.int .i64 (98 + (q : Int)))) [1, 2, 3] (.slice (some ⟨g25, 0, none⟩) 3 3)) := HC.out.set (fun b o n c e => by injection e with e _ _; injection e with e; injection e with e _; show b ≠ g8; omega) _
    clear hL cA fA
    generalize w8.setCell (⟨g8, 3, none⟩ : Addr) (.int .i64 (98 + (q : Int))) = w9 at *
    have hL := HL.out
    refine kl_call rfl rfl rfl Try.func12 rfl (by kernel_rfl) rfl ?_
    refine Calls.mono (within_any x 8 _ _ rfl (by omega) (by omega)) ?_
    rw [HK.out]
    rintro e _ ⟨rfl, rfl⟩
    refine ⟨_, rfl, ?_⟩
    repeat (first | refine kw_seq ?_ | refine kw_block ?_ | refine kw_skip ?_ | refine kw_region ?_ | refine kl_nil ?_ | refine kq_then ?_ | refine kq_block ?_ | refine kw_exit ?_ | refine kq_then_exit ?_ | refine kq_block_here rfl ?_ | refine kq_block_far rfl ?_ | refine kq_again_exit ?_ | refine kw_ret ?_ | refine kq_then_ret ?_ | refine kq_block_ret ?_ | refine kq_again_ret ?_ | refine kw_ift rfl ?_ | refine kw_iff rfl ?_ | refine kl_ung rfl rfl ?_ | refine kl_skipg rfl rfl rfl rfl ?_ | refine kl_skipg0 rfl rfl rfl ?_ | refine kl_getL hL 1 rfl Try.underlying30 rfl (infoS _ _ _ z32_len) rfl rfl rfl rfl rfl ?_ | refine kl_getL hL 0 rfl Try.underlying36 rfl (infoF _ _ z32_len) rfl rfl rfl rfl rfl ?_ | (first | refine kl_move rfl rfl (.inl rfl) rfl rfl ?_ | refine kl_move rfl rfl (.inr rfl) rfl rfl ?_ | refine kl_const rfl rfl (.inl rfl) rfl ?_ | refine kl_const rfl rfl (.inr rfl) rfl ?_) | ((first | refine kl_step rfl rfl rfl fun K hK => ?_ | refine kl_step0 rfl rfl rfl fun K hK => ?_); go_simp; (try go_bits); (first | refine hK _ _ ?_ | refine hK _ ?_); clear hK K))
    refine kl_call rfl rfl rfl Try.func15 rfl (by kernel_rfl) rfl ?_
    refine Calls.mono (chunk_any s1R D2 G2 ⟨2, 4, 0, 98 + (q : Int), z32, [1, 2, 3]⟩ (.slice (some ⟨g25, 0, none⟩) 3 3) 100 w9 HM4.out (frmM_lit w9 (2) (4) (0) (98 + (q : Int)) _ [1, 2, 3] (by show I64 (2); unfold I64; omega) (by show I64 (4); unfold I64; omega) (by show I64 (0); unfold I64; omega) (by show I64 (98 + (q : Int)); unfold I64; omega) HC4.out) rfl (by decide) (by decide) (by omega) (by omega)) ?_
    rintro e w10 ⟨D4, G4, rfl, hM5, hb10, _⟩
    rw [chunkS_err (by rw [err_hi q]; decide)] at hM5
    rw [chunkS_err (by rw [err_hi q]; decide), err_hi q]
    refine ⟨_, rfl, ?_⟩
    have HM5 := Lib.hid hM5
    have HM6 := Lib.hid (HM4.out.keep (.of_below hb10))
    have hL := hL.next hb10
    clear hM5 hb10
    repeat (first | refine kw_seq ?_ | refine kw_block ?_ | refine kw_skip ?_ | refine kw_region ?_ | refine kl_nil ?_ | refine kq_then ?_ | refine kq_block ?_ | refine kw_exit ?_ | refine kq_then_exit ?_ | refine kq_block_here rfl ?_ | refine kq_block_far rfl ?_ | refine kq_again_exit ?_ | refine kw_ret ?_ | refine kq_then_ret ?_ | refine kq_block_ret ?_ | refine kq_again_ret ?_ | refine kw_ift rfl ?_ | refine kw_iff rfl ?_ | refine kl_ung rfl rfl ?_ | refine kl_skipg rfl rfl rfl rfl ?_ | refine kl_skipg0 rfl rfl rfl ?_ | (first | refine kl_move rfl rfl (.inl rfl) rfl rfl ?_ | refine kl_move rfl rfl (.inr rfl) rfl rfl ?_ | refine kl_const rfl rfl (.inl rfl) rfl ?_ | refine kl_const rfl rfl (.inr rfl) rfl ?_) | ((first | refine kl_step rfl rfl rfl fun K hK => ?_ | refine kl_step0 rfl rfl rfl fun K hK => ?_); go_simp; (try go_bits); (first | refine hK _ _ ?_ | refine hK _ ?_); clear hK K))
    refine kl_varL (d := 13) (y := 93) (cells := (sesV s1R D4 G4).toArray) hL sesZero (infoS s1R D4 G4 z32_len) (sizeZ s1R D4 G4 z32_len) (sesV_one _ _ _ HM5.out.data.one HM5.out.got.one) rfl rfl rfl rfl rfl rfl rfl rfl rfl ?_
    intro g13 w11 _ hb11 hL
    have HM5 := Lib.hid (HM5.out.keep (.of_below hb11))
    have HM6 := Lib.hid (HM6.out.keep (.of_below hb11))
    clear hb11
    repeat (first | refine kw_seq ?_ | refine kw_block ?_ | refine kw_skip ?_ | refine kw_region ?_ | refine kl_nil ?_ | refine kq_then ?_ | refine kq_block ?_ | refine kw_exit ?_ | refine kq_then_exit ?_ | refine kq_block_here rfl ?_ | refine kq_block_far rfl ?_ | refine kq_again_exit ?_ | refine kw_ret ?_ | refine kq_then_ret ?_ | refine kq_block_ret ?_ | refine kq_again_ret ?_ | refine kw_ift rfl ?_ | refine kw_iff rfl ?_ | refine kl_ung rfl rfl ?_ | refine kl_skipg rfl rfl rfl rfl ?_ | refine kl_skipg0 rfl rfl rfl ?_ | refine kl_getL hL 0 rfl Try.underlying30 rfl (infoS _ _ _ z32_len) rfl rfl rfl rfl rfl ?_ | refine kl_getL hL 2 rfl Try.underlying30 rfl (infoS _ _ _ z32_len) rfl rfl rfl rfl rfl ?_ | (first | refine kl_move rfl rfl (.inl rfl) rfl rfl ?_ | refine kl_move rfl rfl (.inr rfl) rfl rfl ?_ | refine kl_const rfl rfl (.inl rfl) rfl ?_ | refine kl_const rfl rfl (.inr rfl) rfl ?_) | ((first | refine kl_step rfl rfl rfl fun K hK => ?_ | refine kl_step0 rfl rfl rfl fun K hK => ?_); go_simp; (try go_bits); (first | refine hK _ _ ?_ | refine hK _ ?_); clear hK K))
    refine kl_call rfl rfl rfl Try.func24 rfl (by kernel_rfl) rfl ?_
    refine Calls.mono (same_any s1R s1R D4 G4 D2 G2 w11 HM5.out HM6.out (by decide) (by decide)) ?_
    rw [same_refl]
    rintro e w12 ⟨rfl, hb12⟩
    refine ⟨_, rfl, ?_⟩
    have HM5 := Lib.hid (HM5.out.keep (.of_below hb12))
    have hL := hL.next hb12
    clear hb12
    repeat (first | refine kw_seq ?_ | refine kw_block ?_ | refine kw_skip ?_ | refine kw_region ?_ | refine kl_nil ?_ | refine kq_then ?_ | refine kq_block ?_ | refine kw_exit ?_ | refine kq_then_exit ?_ | refine kq_block_here rfl ?_ | refine kq_block_far rfl ?_ | refine kq_again_exit ?_ | refine kw_ret ?_ | refine kq_then_ret ?_ | refine kq_block_ret ?_ | refine kq_again_ret ?_ | refine kw_ift rfl ?_ | refine kw_iff rfl ?_ | refine kl_ung rfl rfl ?_ | refine kl_skipg rfl rfl rfl rfl ?_ | refine kl_skipg0 rfl rfl rfl ?_ | refine kl_getL hL 0 rfl Try.underlying30 rfl (infoS _ _ _ z32_len) rfl rfl rfl rfl rfl ?_ | (first | refine kl_move rfl rfl (.inl rfl) rfl rfl ?_ | refine kl_move rfl rfl (.inr rfl) rfl rfl ?_ | refine kl_const rfl rfl (.inl rfl) rfl ?_ | refine kl_const rfl rfl (.inr rfl) rfl ?_) | ((first | refine kl_step rfl rfl rfl fun K hK => ?_ | refine kl_step0 rfl rfl rfl fun K hK => ?_); go_simp; (try go_bits); (first | refine hK _ _ ?_ | refine hK _ ?_); clear hK K))
    refine kl_call rfl rfl rfl Try.func17 rfl (by kernel_rfl) rfl ?_
    refine Calls.mono (left_any s1R D4 G4 w12 HM5.out (by decide)) ?_
    rw [left_s1]
    rintro e w13 ⟨rfl, hb13⟩
    refine ⟨_, rfl, ?_⟩
    have hL := hL.next hb13
    repeat (first | refine kw_seq ?_ | refine kw_block ?_ | refine kw_skip ?_ | refine kw_region ?_ | refine kl_nil ?_ | refine kq_then ?_ | refine kq_block ?_ | refine kw_exit ?_ | refine kq_then_exit ?_ | refine kq_block_here rfl ?_ | refine kq_block_far rfl ?_ | refine kq_again_exit ?_ | refine kw_ret ?_ | refine kq_then_ret ?_ | refine kq_block_ret ?_ | refine kq_again_ret ?_ | refine kw_ift rfl ?_ | refine kw_iff rfl ?_ | refine kl_ung rfl rfl ?_ | refine kl_skipg rfl rfl rfl rfl ?_ | refine kl_skipg0 rfl rfl rfl ?_ | (first | refine kl_move rfl rfl (.inl rfl) rfl rfl ?_ | refine kl_move rfl rfl (.inr rfl) rfl rfl ?_ | refine kl_const rfl rfl (.inl rfl) rfl ?_ | refine kl_const rfl rfl (.inr rfl) rfl ?_) | ((first | refine kl_step rfl rfl rfl fun K hK => ?_ | refine kl_step0 rfl rfl rfl fun K hK => ?_); go_simp; (try go_bits); (first | refine hK _ _ ?_ | refine hK _ ?_); clear hK K))
    exact kq_ret1 rfl rfl ⟨rfl, hL.below⟩
  · have cA := hL.get 0 rfl (frm_36 cR _ z32_len)
    have fA := hL.free 0 rfl 36
    repeat (first | refine kw_seq ?_ | refine kw_block ?_ | refine kw_skip ?_ | refine kw_region ?_ | refine kl_nil ?_ | refine kq_then ?_ | refine kq_block ?_ | refine kw_exit ?_ | refine kq_then_exit ?_ | refine kq_block_here rfl ?_ | refine kq_block_far rfl ?_ | refine kq_again_exit ?_ | refine kw_ret ?_ | refine kq_then_ret ?_ | refine kq_block_ret ?_ | refine kq_again_ret ?_ | refine kw_ift rfl ?_ | refine kw_iff rfl ?_ | refine kl_ung rfl rfl ?_ | refine kl_skipg rfl rfl rfl rfl ?_ | refine kl_skipg0 rfl rfl rfl ?_ | (first | refine kl_move rfl rfl (.inl rfl) rfl rfl ?_ | refine kl_move rfl rfl (.inr rfl) rfl rfl ?_ | refine kl_const rfl rfl (.inl rfl) rfl ?_ | refine kl_const rfl rfl (.inr rfl) rfl ?_) | ((first | refine kl_step rfl rfl rfl fun K hK => ?_ | refine kl_step0 rfl rfl rfl fun K hK => ?_); go_simp; (try go_bits); (first | refine hK _ _ ?_ | refine hK _ ?_); clear hK K))
    obtain ⟨w8', hw8⟩ : ∃ W, W = w8.alloc (.cells #[.int .u8 1, .int .u8 2, .int .u8 4] 5) := ⟨_, rfl⟩
    have hb8 : Below w8.heap.size w8 w8' := by rw [hw8]; exact (Below.refl _ _).alloc (Nat.le_refl _) _
    have hC7 : SlB w8' [1, 2, 4] (.slice (some ⟨w8.heap.size, 0, none⟩) 3 3) := by rw [hw8]; exact SlB.lit 5 [1, 2, 4] rfl (by decide)
    have l87 : g8 < w8.heap.size := hL.lt 0 rfl
    rw [← hw8]
    clear hw8
    obtain ⟨g77, hg77⟩ : ∃ g, w8.heap.size = g := ⟨_, rfl⟩
    rw [hg77] at hC7 l87 ⊢
    have hL := hL.next hb8
    have HM3 : Hid (SesM w8' s1R D2 G2) := HM3.out.keep (.of_below hb8)
    have HC : Hid (SlB w8' [1, 2, 3] (.slice (some ⟨g25, 0, none⟩) 3 3)) := HC.out.keep (.of_below hb8)
    have HC7 := Lib.hid hC7
    have cA := hL.get 0 rfl (frm_36 cR _ z32_len)
    have fA := hL.free 0 rfl 36
    clear hg77 hC7 hb8
    repeat (first | refine kw_seq ?_ | refine kw_block ?_ | refine kw_skip ?_ | refine kw_region ?_ | refine kl_nil ?_ | refine kq_then ?_ | refine kq_block ?_ | refine kw_exit ?_ | refine kq_then_exit ?_ | refine kq_block_here rfl ?_ | refine kq_block_far rfl ?_ | refine kq_again_exit ?_ | refine kw_ret ?_ | refine kq_then_ret ?_ | refine kq_block_ret ?_ | refine kq_again_ret ?_ | refine kw_ift rfl ?_ | refine kw_iff rfl ?_ | refine kl_ung rfl rfl ?_ | refine kl_skipg rfl rfl rfl rfl ?_ | refine kl_skipg0 rfl rfl rfl ?_ | (first | refine kl_move rfl rfl (.inl rfl) rfl rfl ?_ | refine kl_move rfl rfl (.inr rfl) rfl rfl ?_ | refine kl_const rfl rfl (.inl rfl) rfl ?_ | refine kl_const rfl rfl (.inr rfl) rfl ?_) | ((first | refine kl_step rfl rfl rfl fun K hK => ?_ | refine kl_step0 rfl rfl rfl fun K hK => ?_); go_simp; (try go_bits); (first | refine hK _ _ ?_ | refine hK _ ?_); clear hK K))
    have HL : Hid (Lay w (w8'.setCell (⟨g8, 36, none⟩ : Addr) (.slice (some ⟨g77, 0, none⟩) 3 3)) [(g8, (frmV ⟨2, 4, 0, 90, z32, [1, 2, 4]⟩ (.slice (some ⟨g77, 0, none⟩) 3 3)).toArray, 36), (g6, (sesV s1R D2 G2).toArray, 30), (g5, (frmV fR (.slice none 0 0)).toArray, 36)]) := hL.cell 0 rfl 36 (.slice (some ⟨g77, 0, none⟩) 3 3)
    have HM4 : Hid (SesM (w8'.setCell (⟨g8, 36, none⟩ : Addr) (.slice (some ⟨g77, 0, none⟩) 3 3)) s1R D2 G2) := ⟨HM3.out.id, HM3.out.size, HM3.out.sum, HM3.out.data.set (fD2.ne l86) _, HM3.out.got.set (fG2.ne l86) _⟩
    have HC4 : Hid (SlB (w8'.setCell (⟨g8, 36, none⟩ : Addr) (.slice (some ⟨g77, 0, none⟩) 3 3)) [1, 2, 4] (.slice (some ⟨g77, 0, none⟩) 3 3)) := HC7.out.set (fun b o n c e => by injection e with e _ _; injection e with e; injection e with e _; show b ≠ g8; omega) _
    clear hL cA fA
    generalize w8'.setCell (⟨g8, 36, none⟩ : Addr) (.slice (some ⟨g77, 0, none⟩) 3 3) = w9 at *
    have hL := HL.out
    refine kl_call rfl rfl rfl Try.func12 rfl (by kernel_rfl) rfl ?_
    refine Calls.mono (within_any x 8 _ _ rfl (by omega) (by omega)) ?_
    rw [HK.out]
    rintro e _ ⟨rfl, rfl⟩
    refine ⟨_, rfl, ?_⟩
    repeat (first | refine kw_seq ?_ | refine kw_block ?_ | refine kw_skip ?_ | refine kw_region ?_ | refine kl_nil ?_ | refine kq_then ?_ | refine kq_block ?_ | refine kw_exit ?_ | refine kq_then_exit ?_ | refine kq_block_here rfl ?_ | refine kq_block_far rfl ?_ | refine kq_again_exit ?_ | refine kw_ret ?_ | refine kq_then_ret ?_ | refine kq_block_ret ?_ | refine kq_again_ret ?_ | refine kw_ift rfl ?_ | refine kw_iff rfl ?_ | refine kl_ung rfl rfl ?_ | refine kl_skipg rfl rfl rfl rfl ?_ | refine kl_skipg0 rfl rfl rfl ?_ | refine kl_getL hL 1 rfl Try.underlying30 rfl (infoS _ _ _ z32_len) rfl rfl rfl rfl rfl ?_ | refine kl_getL hL 0 rfl Try.underlying36 rfl (infoF _ _ z32_len) rfl rfl rfl rfl rfl ?_ | (first | refine kl_move rfl rfl (.inl rfl) rfl rfl ?_ | refine kl_move rfl rfl (.inr rfl) rfl rfl ?_ | refine kl_const rfl rfl (.inl rfl) rfl ?_ | refine kl_const rfl rfl (.inr rfl) rfl ?_) | ((first | refine kl_step rfl rfl rfl fun K hK => ?_ | refine kl_step0 rfl rfl rfl fun K hK => ?_); go_simp; (try go_bits); (first | refine hK _ _ ?_ | refine hK _ ?_); clear hK K))
    refine kl_call rfl rfl rfl Try.func15 rfl (by kernel_rfl) rfl ?_
    refine Calls.mono (chunk_any s1R D2 G2 ⟨2, 4, 0, 90, z32, [1, 2, 4]⟩ (.slice (some ⟨g77, 0, none⟩) 3 3) 100 w9 HM4.out (frmM_lit w9 (2) (4) (0) (90) _ [1, 2, 4] (by show I64 (2); unfold I64; omega) (by show I64 (4); unfold I64; omega) (by show I64 (0); unfold I64; omega) (by show I64 (90); unfold I64; omega) HC4.out) rfl (by decide) (by decide) (by omega) (by omega)) ?_
    rintro e w10 ⟨D4, G4, rfl, hM5, hb10, _⟩
    rw [chunkS_err (by rw [err_bad]; decide)] at hM5
    rw [chunkS_err (by rw [err_bad]; decide), err_bad]
    refine ⟨_, rfl, ?_⟩
    have HM5 := Lib.hid hM5
    have HM6 := Lib.hid (HM4.out.keep (.of_below hb10))
    have hL := hL.next hb10
    clear hM5 hb10
    repeat (first | refine kw_seq ?_ | refine kw_block ?_ | refine kw_skip ?_ | refine kw_region ?_ | refine kl_nil ?_ | refine kq_then ?_ | refine kq_block ?_ | refine kw_exit ?_ | refine kq_then_exit ?_ | refine kq_block_here rfl ?_ | refine kq_block_far rfl ?_ | refine kq_again_exit ?_ | refine kw_ret ?_ | refine kq_then_ret ?_ | refine kq_block_ret ?_ | refine kq_again_ret ?_ | refine kw_ift rfl ?_ | refine kw_iff rfl ?_ | refine kl_ung rfl rfl ?_ | refine kl_skipg rfl rfl rfl rfl ?_ | refine kl_skipg0 rfl rfl rfl ?_ | (first | refine kl_move rfl rfl (.inl rfl) rfl rfl ?_ | refine kl_move rfl rfl (.inr rfl) rfl rfl ?_ | refine kl_const rfl rfl (.inl rfl) rfl ?_ | refine kl_const rfl rfl (.inr rfl) rfl ?_) | ((first | refine kl_step rfl rfl rfl fun K hK => ?_ | refine kl_step0 rfl rfl rfl fun K hK => ?_); go_simp; (try go_bits); (first | refine hK _ _ ?_ | refine hK _ ?_); clear hK K))
    refine kl_varL (d := 13) (y := 93) (cells := (sesV s1R D4 G4).toArray) hL sesZero (infoS s1R D4 G4 z32_len) (sizeZ s1R D4 G4 z32_len) (sesV_one _ _ _ HM5.out.data.one HM5.out.got.one) rfl rfl rfl rfl rfl rfl rfl rfl rfl ?_
    intro g13 w11 _ hb11 hL
    have HM5 := Lib.hid (HM5.out.keep (.of_below hb11))
    have HM6 := Lib.hid (HM6.out.keep (.of_below hb11))
    clear hb11
    repeat (first | refine kw_seq ?_ | refine kw_block ?_ | refine kw_skip ?_ | refine kw_region ?_ | refine kl_nil ?_ | refine kq_then ?_ | refine kq_block ?_ | refine kw_exit ?_ | refine kq_then_exit ?_ | refine kq_block_here rfl ?_ | refine kq_block_far rfl ?_ | refine kq_again_exit ?_ | refine kw_ret ?_ | refine kq_then_ret ?_ | refine kq_block_ret ?_ | refine kq_again_ret ?_ | refine kw_ift rfl ?_ | refine kw_iff rfl ?_ | refine kl_ung rfl rfl ?_ | refine kl_skipg rfl rfl rfl rfl ?_ | refine kl_skipg0 rfl rfl rfl ?_ | refine kl_getL hL 0 rfl Try.underlying30 rfl (infoS _ _ _ z32_len) rfl rfl rfl rfl rfl ?_ | refine kl_getL hL 2 rfl Try.underlying30 rfl (infoS _ _ _ z32_len) rfl rfl rfl rfl rfl ?_ | (first | refine kl_move rfl rfl (.inl rfl) rfl rfl ?_ | refine kl_move rfl rfl (.inr rfl) rfl rfl ?_ | refine kl_const rfl rfl (.inl rfl) rfl ?_ | refine kl_const rfl rfl (.inr rfl) rfl ?_) | ((first | refine kl_step rfl rfl rfl fun K hK => ?_ | refine kl_step0 rfl rfl rfl fun K hK => ?_); go_simp; (try go_bits); (first | refine hK _ _ ?_ | refine hK _ ?_); clear hK K))
    refine kl_call rfl rfl rfl Try.func24 rfl (by kernel_rfl) rfl ?_
    refine Calls.mono (same_any s1R s1R D4 G4 D2 G2 w11 HM5.out HM6.out (by decide) (by decide)) ?_
    rw [same_refl]
    rintro e w12 ⟨rfl, hb12⟩
    refine ⟨_, rfl, ?_⟩
    have HM5 := Lib.hid (HM5.out.keep (.of_below hb12))
    have hL := hL.next hb12
    clear hb12
    repeat (first | refine kw_seq ?_ | refine kw_block ?_ | refine kw_skip ?_ | refine kw_region ?_ | refine kl_nil ?_ | refine kq_then ?_ | refine kq_block ?_ | refine kw_exit ?_ | refine kq_then_exit ?_ | refine kq_block_here rfl ?_ | refine kq_block_far rfl ?_ | refine kq_again_exit ?_ | refine kw_ret ?_ | refine kq_then_ret ?_ | refine kq_block_ret ?_ | refine kq_again_ret ?_ | refine kw_ift rfl ?_ | refine kw_iff rfl ?_ | refine kl_ung rfl rfl ?_ | refine kl_skipg rfl rfl rfl rfl ?_ | refine kl_skipg0 rfl rfl rfl ?_ | refine kl_getL hL 0 rfl Try.underlying30 rfl (infoS _ _ _ z32_len) rfl rfl rfl rfl rfl ?_ | (first | refine kl_move rfl rfl (.inl rfl) rfl rfl ?_ | refine kl_move rfl rfl (.inr rfl) rfl rfl ?_ | refine kl_const rfl rfl (.inl rfl) rfl ?_ | refine kl_const rfl rfl (.inr rfl) rfl ?_) | ((first | refine kl_step rfl rfl rfl fun K hK => ?_ | refine kl_step0 rfl rfl rfl fun K hK => ?_); go_simp; (try go_bits); (first | refine hK _ _ ?_ | refine hK _ ?_); clear hK K))
    refine kl_call rfl rfl rfl Try.func17 rfl (by kernel_rfl) rfl ?_
    refine Calls.mono (left_any s1R D4 G4 w12 HM5.out (by decide)) ?_
    rw [left_s1]
    rintro e w13 ⟨rfl, hb13⟩
    refine ⟨_, rfl, ?_⟩
    have hL := hL.next hb13
    repeat (first | refine kw_seq ?_ | refine kw_block ?_ | refine kw_skip ?_ | refine kw_region ?_ | refine kl_nil ?_ | refine kq_then ?_ | refine kq_block ?_ | refine kw_exit ?_ | refine kq_then_exit ?_ | refine kq_block_here rfl ?_ | refine kq_block_far rfl ?_ | refine kq_again_exit ?_ | refine kw_ret ?_ | refine kq_then_ret ?_ | refine kq_block_ret ?_ | refine kq_again_ret ?_ | refine kw_ift rfl ?_ | refine kw_iff rfl ?_ | refine kl_ung rfl rfl ?_ | refine kl_skipg rfl rfl rfl rfl ?_ | refine kl_skipg0 rfl rfl rfl ?_ | (first | refine kl_move rfl rfl (.inl rfl) rfl rfl ?_ | refine kl_move rfl rfl (.inr rfl) rfl rfl ?_ | refine kl_const rfl rfl (.inl rfl) rfl ?_ | refine kl_const rfl rfl (.inr rfl) rfl ?_) | ((first | refine kl_step rfl rfl rfl fun K hK => ?_ | refine kl_step0 rfl rfl rfl fun K hK => ?_); go_simp; (try go_bits); (first | refine hK _ _ ?_ | refine hK _ ?_); clear hK K))
    exact kq_ret1 rfl rfl ⟨rfl, hL.below⟩
end Go.Proofs.Ytonjpjiphcbemaa
