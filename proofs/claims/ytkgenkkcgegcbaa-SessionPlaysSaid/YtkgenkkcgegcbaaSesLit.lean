/- SessionLong: the walk. SessionKinds: frames that are not too much, good ones. Frames as literals. -/
import Derived.Test.YtkgenkkcgegcbaaRefOpen
import Derived.Test.YtkgenkkcgegcbaaSesBytes
import Derived.Test.YtkgenkkcgegcbaaSesParE
import Derived.Test.YtkgenkkcgegcbaaConcat
namespace Go.Proofs.Ytkgenkkcgegcbaa
open Go.RowKit
attribute [local go_sem] ev_tmp ev_const ev_func ev_global lk_hit lk_miss uponK_value uponK_skip look_tmp look_const look_global look_func valP_value
theorem frm_built_d (a b c : Int) (D : Value) (hD : D.cells = [D].toArray) (l : List UInt8) :
    Try.prog.built 29 [(0, .int .i64 a), (1, .int .i64 b), (3, .int .i64 c), (5, D)] = some (frmV ⟨a, b, 0, c, z32, l⟩ D).toArray := by
  obtain ⟨fs, hu, hp⟩ := frmUnder
  rw [built_struct frmZero hu hp]
  have h1 := fill_step ([(0, 1), (1, 1), (2, 1), (3, 1), (4, 32), (36, 1)].toArray[·]?) [] zFrm 0 _ _ (cells_int .i64 a) rfl (Nat.le_of_ble_eq_true rfl)
  simp only [List.nil_append] at h1
  rw [h1, fill_step _ _ _ 1 _ _ (cells_int .i64 b) rfl (Nat.le_of_ble_eq_true rfl)]
  rw [show (([Value.int .i64 a] ++ [Value.int .i64 b]) ++ List.drop [Value.int .i64 b].length (List.drop [Value.int .i64 a].length zFrm) : List Value) =
    ([Value.int .i64 a] ++ [Value.int .i64 b] ++ [Value.int .i64 0]) ++ ([Value.int .i64 0] ++ (bv z32 ++ [.slice none 0 0])) from rfl]
  rw [fill_step _ _ _ 3 _ _ (cells_int .i64 c) rfl (by simp)]
  rw [show (([Value.int .i64 a] ++ [Value.int .i64 b] ++ [Value.int .i64 0]) ++ [Value.int .i64 c] ++ List.drop [Value.int .i64 c].length ([Value.int .i64 0] ++ (bv z32 ++ [.slice none 0 0])) : List Value) =
    ([Value.int .i64 a] ++ [Value.int .i64 b] ++ [Value.int .i64 0] ++ [Value.int .i64 c] ++ bv z32) ++ [.slice none 0 0] from by simp]
  rw [fill_step _ _ _ 5 _ _ hD (by simp [length_bv, z32_len]) (by simp), fill_nil]
  refine congrArg (fun l : List Value => some l.toArray) ?_
  simp [frmV]
theorem parse_back (f : Frm) (hk : 1 ≤ f.kind ∧ f.kind ≤ 5) (hid : I64 f.id) (hsz : I64 f.size) (hat : I64 f.at_) (hs : f.sum.length = 32) (hd : f.data.length ≤ 60000) : (64 < (nf f).data.length → parseF (frameBytes f) = (zeroFrm, 5)) ∧ ((nf f).data.length ≤ 64 → parseF (frameBytes f) = (nf f, 0)) := by
  have h := parse_written f hk hid hsz hat hs hd
  unfold finF at h
  constructor
  · intro hl
    rw [if_neg (by omega), if_pos rfl] at h
    exact h
  · intro hl
    rw [if_pos ⟨rfl, by omega⟩] at h
    exact h
def LawP (w : World) (e : Ending) (w' : World) : Prop := e = .returned (.bool true) ∧ Below w.heap.size w w'
set_option maxRecDepth 100000 in
set_option maxHeartbeats 1000000 in
theorem sessionLong_top (x : Int) (y : Int) (u : UInt8) (w : World) (hx : -9223372036854775808 ≤ x ∧ x ≤ 9223372036854775807) (hy : y = (u.toNat : Int)) :
    Calls Try.prog 6 #[.int .i64 x, .int .u8 y] w (LawP w) := by
  subst hy
  clear hx
  refine calls_kw Try.func6 rfl Try.ntmps6 rfl [(0, .int .i64 x), (1, .int .u8 (u.toNat : Int))] rfl ?_
  repeat (first | refine kw_seq ?_ | refine kw_block ?_ | refine kw_skip ?_ | refine kw_region ?_ | refine kl_nil ?_ | refine kq_then ?_ | refine kq_block ?_ | refine kw_exit ?_ | refine kq_then_exit ?_ | refine kq_block_here rfl ?_ | refine kq_block_far rfl ?_ | refine kq_again_exit ?_ | refine kw_ret ?_ | refine kq_then_ret ?_ | refine kq_block_ret ?_ | refine kq_again_ret ?_ | refine kw_ift rfl ?_ | refine kw_iff rfl ?_ | refine kl_ung rfl rfl ?_ | refine kl_skipg rfl rfl rfl rfl ?_ | refine kl_skipg0 rfl rfl rfl ?_ | (first | refine kl_move rfl rfl (.inl rfl) rfl rfl ?_ | refine kl_move rfl rfl (.inr rfl) rfl rfl ?_ | refine kl_const rfl rfl (.inl rfl) rfl ?_ | refine kl_const rfl rfl (.inr rfl) rfl ?_) | ((first | refine kl_step rfl rfl rfl fun K hK => ?_ | refine kl_step0 rfl rfl rfl fun K hK => ?_); go_simp; (try go_bits); (first | refine hK _ _ ?_ | refine hK _ ?_); clear hK K))
  refine kl_call rfl rfl rfl Try.func7 rfl (by kernel_rfl) rfl ?_
  refine Calls.mono (known17_any _) ?_
  rintro e w1 ⟨rfl, hb1⟩
  refine ⟨_, rfl, ?_⟩
  have hL := (Lay.start w).next hb1
  clear hb1
  repeat (first | refine kw_seq ?_ | refine kw_block ?_ | refine kw_skip ?_ | refine kw_region ?_ | refine kl_nil ?_ | refine kq_then ?_ | refine kq_block ?_ | refine kw_exit ?_ | refine kq_then_exit ?_ | refine kq_block_here rfl ?_ | refine kq_block_far rfl ?_ | refine kq_again_exit ?_ | refine kw_ret ?_ | refine kq_then_ret ?_ | refine kq_block_ret ?_ | refine kq_again_ret ?_ | refine kw_ift rfl ?_ | refine kw_iff rfl ?_ | refine kl_ung rfl rfl ?_ | refine kl_skipg rfl rfl rfl rfl ?_ | refine kl_skipg0 rfl rfl rfl ?_ | (first | refine kl_move rfl rfl (.inl rfl) rfl rfl ?_ | refine kl_move rfl rfl (.inr rfl) rfl rfl ?_ | refine kl_const rfl rfl (.inl rfl) rfl ?_ | refine kl_const rfl rfl (.inr rfl) rfl ?_) | ((first | refine kl_step rfl rfl rfl fun K hK => ?_ | refine kl_step0 rfl rfl rfl fun K hK => ?_); go_simp; (try go_bits); (first | refine hK _ _ ?_ | refine hK _ ?_); clear hK K))
  refine kl_call rfl rfl rfl Try.func15 rfl (by kernel_rfl) rfl ?_
  refine Calls.mono (within_any x 10 _ _ rfl (by omega) (by omega)) ?_
  rintro e _ ⟨rfl, rfl⟩
  refine ⟨_, rfl, ?_⟩
  have hu := within_lt x 10 (by omega)
  obtain ⟨N, hN⟩ : ∃ N, 60 + within x 10 = N := ⟨_, rfl⟩
  have hN1 : 60 ≤ N := by omega
  have hN2 : N < 70 := by omega
  have s1 : (60 : Int) + (within x 10 : Nat) = (N : Int) := by omega
  have s2 : IntKind.i64.wrap ((60 : Int) + (within x 10 : Nat)) = (N : Int) := by rw [s1, IntWalk.i64_in _ (by omega)]
  generalize within x 10 = W10 at *
  clear hN hu
  obtain ⟨M, hM⟩ : ∃ M, N = M + 1 := ⟨N - 1, by omega⟩
  have s3 : (N : Int) - 1 = (M : Int) := by omega
  have s4 : IntKind.i64.wrap ((N : Int) - 1) = (M : Int) := by rw [s3, IntWalk.i64_in _ (by omega)]
  have m0 : (0 : Int) ≤ M := by omega
  have m1 : (M : Int) < N := by omega
  have HM := Lib.hid hM
  have hMN : M < N := by omega
  clear hM
  have hmk := makeBytes N (by omega) w1
  repeat (first | refine kw_seq ?_ | refine kw_region ?_ | refine kl_nil ?_ | refine kq_then ?_ | refine kl_move (t := 35) rfl rfl (.inl rfl) rfl rfl ?_)
  repeat (first | (first | refine kl_move rfl rfl (.inl rfl) rfl rfl ?_ | refine kl_move rfl rfl (.inr rfl) rfl rfl ?_ | refine kl_const rfl rfl (.inl rfl) rfl ?_ | refine kl_const rfl rfl (.inr rfl) rfl ?_) | ((first | refine kl_step rfl rfl rfl fun K hK => ?_ | refine kl_step0 rfl rfl rfl fun K hK => ?_); go_simp; (try go_bits); (first | refine hK _ _ ?_ | refine hK _ ?_); clear hK K))
  refine kl_nil ?_
  refine kq_then ?_
  refine kw_seq ?_
  refine kw_region ?_
  (first | refine kl_move rfl rfl (.inl rfl) rfl rfl ?_ | refine kl_move rfl rfl (.inr rfl) rfl rfl ?_ | refine kl_const rfl rfl (.inl rfl) rfl ?_ | refine kl_const rfl rfl (.inr rfl) rfl ?_)
  ((first | refine kl_step rfl rfl rfl fun K hK => ?_ | refine kl_step0 rfl rfl rfl fun K hK => ?_); go_simp; (try go_bits); (first | refine hK _ _ ?_ | refine hK _ ?_); clear hK K)
  (first | refine kl_move rfl rfl (.inl rfl) rfl rfl ?_ | refine kl_move rfl rfl (.inr rfl) rfl rfl ?_ | refine kl_const rfl rfl (.inl rfl) rfl ?_ | refine kl_const rfl rfl (.inr rfl) rfl ?_)
  clear hmk s1 s2
  have hL := hL.alloc (bv (List.replicate N 0)).toArray 5
  generalize w1.alloc (.cells (bv (List.replicate N 0)).toArray 5) = w2 at *
  generalize w1.heap.size = g5 at *
  have cM := hL.get (j := M) (u := bval 0) 0 rfl (by simp [bv, hMN])
  have fM := hL.free 0 rfl M
  have hL3 := hL.cell 0 rfl M (bval u)
  replace hL3 : Lay w (w2.setCell ⟨g5, M, none⟩ (bval u)) [(g5, ((bv (List.replicate N 0)).set M (bval u)).toArray, 5)] := hL3
  rw [bv_set'] at hL3
  obtain ⟨l, hl⟩ : ∃ l, (List.replicate N (0 : UInt8)).set M u = l := ⟨_, rfl⟩
  have hlN : Hid (l.length = N) := Lib.hid (by rw [← hl]; simp)
  have hlM : Hid (l[M]? = some u) := Lib.hid (by rw [← hl, List.getElem?_set_self (by simp; omega)])
  rw [hl] at hL3
  clear hl hL
  refine kl_nil ?_
  refine kq_then ?_
  repeat (first | refine kw_seq ?_ | refine kw_region ?_ | (first | refine kl_move rfl rfl (.inl rfl) rfl rfl ?_ | refine kl_move rfl rfl (.inr rfl) rfl rfl ?_ | refine kl_const rfl rfl (.inl rfl) rfl ?_ | refine kl_const rfl rfl (.inr rfl) rfl ?_) | ((first | refine kl_step rfl rfl rfl fun K hK => ?_ | refine kl_step0 rfl rfl rfl fun K hK => ?_); go_simp; (try go_bits); (first | refine hK _ _ ?_ | refine hK _ ?_); clear hK K))
  clear cM fM
  have hL := hL3
  clear hL3
  generalize w2.setCell ⟨g5, M, none⟩ _ = w3 at *
  refine kl_nil ?_
  refine kq_then ?_
  have hB : Bs w3 (some ⟨g5, 0, none⟩) N l := ⟨by rw [length_bv]; exact hlN.out, fun _ => ⟨g5, 0, rfl, fun i v hv => by rw [Nat.zero_add]; exact hL.get 0 rfl hv⟩⟩
  have hFM : FrmM w3 ⟨2, 2, 0, 5, z32, l⟩ (.slice (some ⟨g5, 0, none⟩) N N) := ⟨by show I64 2; unfold I64; omega, by show I64 2; unfold I64; omega, by show I64 0; unfold I64; omega, by show I64 5; unfold I64; omega, z32_len, ⟨_, _, _, rfl, hB, Nat.le_refl _, by omega⟩⟩
  have HFM := Lib.hid hFM
  clear hB hFM
  repeat (first | refine kw_seq ?_ | refine kw_block ?_ | refine kw_skip ?_ | refine kw_region ?_ | refine kl_nil ?_ | refine kq_then ?_ | refine kq_block ?_ | refine kw_exit ?_ | refine kq_then_exit ?_ | refine kq_block_here rfl ?_ | refine kq_block_far rfl ?_ | refine kq_again_exit ?_ | refine kw_ret ?_ | refine kq_then_ret ?_ | refine kq_block_ret ?_ | refine kq_again_ret ?_ | refine kw_ift rfl ?_ | refine kw_iff rfl ?_ | refine kl_ung rfl rfl ?_ | refine kl_skipg rfl rfl rfl rfl ?_ | refine kl_skipg0 rfl rfl rfl ?_ | refine kl_build 29 _ (frmV ⟨2, 2, 0, 5, z32, l⟩ (.slice (some ⟨g5, 0, none⟩) N N)).toArray rfl rfl rfl (by rfl) (by rfl) (frm_built_d 2 2 5 _ rfl l) ?_ | (first | refine kl_move rfl rfl (.inl rfl) rfl rfl ?_ | refine kl_move rfl rfl (.inr rfl) rfl rfl ?_ | refine kl_const rfl rfl (.inl rfl) rfl ?_ | refine kl_const rfl rfl (.inr rfl) rfl ?_) | ((first | refine kl_step rfl rfl rfl fun K hK => ?_ | refine kl_step0 rfl rfl rfl fun K hK => ?_); go_simp; (try go_bits); (first | refine hK _ _ ?_ | refine hK _ ?_); clear hK K))
  refine kl_call rfl rfl rfl Try.func23 rfl (by kernel_rfl) rfl ?_
  refine Calls.mono (bytes17_any ⟨2, 2, 0, 5, z32, l⟩ _ w3 HFM.out (by show l.length ≤ 60000; rw [hlN.out]; omega)) ?_
  rintro e w4 ⟨v, rfl, hown, hb4⟩
  have hL := hL.next hb4
  obtain ⟨A4, c4, rfl, hB4, hc4, hc4'⟩ := own_B hown
  have hlen := frameBody_len ⟨2, 2, 0, 5, z32, l⟩ z32_len (by show l.length ≤ 60000; rw [hlN.out]; omega)
  have HLB : Hid ((frameBytes ⟨2, 2, 0, 5, z32, l⟩).length ≤ 60040) := Lib.hid (by unfold frameBytes; rw [length_sealed]; omega)
  clear hb4 hown HFM hlen
  refine ⟨_, rfl, ?_⟩
  refine kl_call rfl rfl rfl Try.func26 rfl (by kernel_rfl) rfl ?_
  refine Calls.mono (parse_any A4 _ c4 _ w4 hB4 (by have := HLB.out; omega) hc4 hc4') ?_
  rintro e w5 ⟨D5, rfl, hM5, hb5⟩
  have hL := hL.next hb5
  clear hb5 hB4 hc4 hc4' HLB
  have hpb := parse_back ⟨2, 2, 0, 5, z32, l⟩ (by show 1 ≤ (2 : Int) ∧ (2 : Int) ≤ 5; omega) (by show I64 2; unfold I64; omega) (by show I64 0; unfold I64; omega) (by show I64 5; unfold I64; omega) z32_len (by show l.length ≤ 60000; rw [hlN.out]; omega)
  rw [show (nf ⟨2, 2, 0, 5, z32, l⟩) = ⟨2, 2, 0, 5, z32, l⟩ from rfl] at hpb
  replace hpb : (64 < N → parseF (frameBytes ⟨2, 2, 0, 5, z32, l⟩) = (zeroFrm, 5)) ∧ (N ≤ 64 → parseF (frameBytes ⟨2, 2, 0, 5, z32, l⟩) = (⟨2, 2, 0, 5, z32, l⟩, 0)) := by rw [← hlN.out]; exact hpb
  by_cases h64 : 64 < N
  · have t1 : decide ((64 : Int) < (N : Int)) = true := by rw [decide_eq_true_eq]; omega
    have t1' : decide (64 < N) = true := by rw [decide_eq_true_eq]; omega
    rw [hpb.1 h64] at hM5 ⊢
    refine ⟨_, rfl, ?_⟩
    obtain ⟨A5, n5, c5, rfl, hB5, _, _⟩ := hM5.data
    have hn5 : 0 = n5 := hB5.len
    subst hn5
    clear hpb h64
    repeat (first | refine kw_seq ?_ | refine kw_skip ?_ | refine kw_region ?_ | refine kl_nil ?_ | refine kq_then ?_ | refine kq_block ?_ | refine kw_exit ?_ | refine kq_then_exit ?_ | refine kq_block_here rfl ?_ | refine kq_block_far rfl ?_ | refine kq_again_exit ?_ | refine kw_ret ?_ | refine kq_then_ret ?_ | refine kq_block_ret ?_ | refine kq_again_ret ?_ | refine kw_ift rfl ?_ | refine kw_iff rfl ?_ | refine kl_ung rfl rfl ?_ | refine kl_skipg rfl rfl rfl rfl ?_ | refine kl_skipg0 rfl rfl rfl ?_ | (first | refine kl_move rfl rfl (.inl rfl) rfl rfl ?_ | refine kl_move rfl rfl (.inr rfl) rfl rfl ?_ | refine kl_const rfl rfl (.inl rfl) rfl ?_ | refine kl_const rfl rfl (.inr rfl) rfl ?_) | ((first | refine kl_step rfl rfl rfl fun K hK => ?_ | refine kl_step0 rfl rfl rfl fun K hK => ?_); go_simp; (try go_bits); (first | refine hK _ _ ?_ | refine hK _ ?_); clear hK K))
    refine kl_varL (d := 6) (y := 25) (cells := (frmV zeroFrm (.slice A5 0 c5)).toArray) hL frmZero (infoF zeroFrm _ z32_len) (sizeZF zeroFrm _ z32_len) (frmV_one zeroFrm _ rfl) rfl rfl rfl rfl rfl rfl rfl rfl rfl ?_
    intro g6 w6 eg hb6 hL
    clear eg hb6
    have c6 := hL.get (j := 36) 0 rfl (frm_36 zeroFrm (.slice A5 0 c5) z32_len)
    repeat (first | refine kw_seq ?_ | refine kw_block ?_ | refine kw_skip ?_ | refine kw_region ?_ | refine kl_nil ?_ | refine kq_then ?_ | refine kq_block ?_ | refine kw_exit ?_ | refine kq_then_exit ?_ | refine kq_block_here rfl ?_ | refine kq_block_far rfl ?_ | refine kq_again_exit ?_ | refine kw_ret ?_ | refine kq_then_ret ?_ | refine kq_block_ret ?_ | refine kq_again_ret ?_ | refine kw_ift rfl ?_ | refine kw_iff rfl ?_ | refine kl_ung rfl rfl ?_ | refine kl_skipg rfl rfl rfl rfl ?_ | refine kl_skipg0 rfl rfl rfl ?_ | (first | refine kl_move rfl rfl (.inl rfl) rfl rfl ?_ | refine kl_move rfl rfl (.inr rfl) rfl rfl ?_ | refine kl_const rfl rfl (.inl rfl) rfl ?_ | refine kl_const rfl rfl (.inr rfl) rfl ?_) | ((first | refine kl_step rfl rfl rfl fun K hK => ?_ | refine kl_step0 rfl rfl rfl fun K hK => ?_); go_simp; (try go_bits); (first | refine hK _ _ ?_ | refine hK _ ?_); clear hK K))
    exact kq_ret1 rfl rfl ⟨rfl, hL.below⟩
  · have t1 : decide ((64 : Int) < (N : Int)) = false := by rw [decide_eq_false_iff_not]; omega
    have t1' : decide (64 < N) = false := by rw [decide_eq_false_iff_not]; omega
    rw [hpb.2 (by omega)] at hM5 ⊢
    refine ⟨_, rfl, ?_⟩
    obtain ⟨A5, n5, c5, rfl, hB5, _, _⟩ := hM5.data
    replace hB5 : Bs w5 A5 n5 l := hB5
    have hn5 : N = n5 := by rw [← hB5.len]; exact hlN.out.symm
    subst hn5
    clear hpb h64
    repeat (first | refine kw_seq ?_ | refine kw_skip ?_ | refine kw_region ?_ | refine kl_nil ?_ | refine kq_then ?_ | refine kq_block ?_ | refine kw_exit ?_ | refine kq_then_exit ?_ | refine kq_block_here rfl ?_ | refine kq_block_far rfl ?_ | refine kq_again_exit ?_ | refine kw_ret ?_ | refine kq_then_ret ?_ | refine kq_block_ret ?_ | refine kq_again_ret ?_ | refine kw_ift rfl ?_ | refine kw_iff rfl ?_ | refine kl_ung rfl rfl ?_ | refine kl_skipg rfl rfl rfl rfl ?_ | refine kl_skipg0 rfl rfl rfl ?_ | (first | refine kl_move rfl rfl (.inl rfl) rfl rfl ?_ | refine kl_move rfl rfl (.inr rfl) rfl rfl ?_ | refine kl_const rfl rfl (.inl rfl) rfl ?_ | refine kl_const rfl rfl (.inr rfl) rfl ?_) | ((first | refine kl_step rfl rfl rfl fun K hK => ?_ | refine kl_step0 rfl rfl rfl fun K hK => ?_); go_simp; (try go_bits); (first | refine hK _ _ ?_ | refine hK _ ?_); clear hK K))
    refine kl_varL (d := 6) (y := 25) (cells := (frmV ⟨2, 2, 0, 5, z32, l⟩ (.slice A5 N c5)).toArray) hL frmZero (infoF _ _ z32_len) (sizeZF _ _ z32_len) (frmV_one _ _ rfl) rfl rfl rfl rfl rfl rfl rfl rfl rfl ?_
    intro g6 w6 eg hb6 hL
    replace hB5 := hB5.keep (.of_below hb6)
    clear eg hb6
    have c6 := hL.get (j := 36) 0 rfl (frm_36 _ (.slice A5 N c5) z32_len)
    obtain ⟨b5, o5, u5, rfl, cu, _, hu⟩ := hB5.next (show M < N by omega)
    have hu5 := hu.out
    rw [hlM.out] at hu5
    injection hu5 with hu5
    subst hu5
    have t2 : ((u.toNat : Int) == (u.toNat : Int)) = true := by rw [beq_iff_eq]
    have t3 : ((N : Int) == (N : Int)) = true := by rw [beq_iff_eq]
    repeat (first | refine kw_seq ?_ | refine kw_block ?_ | refine kw_skip ?_ | refine kw_region ?_ | refine kl_nil ?_ | refine kq_then ?_ | refine kq_block ?_ | refine kw_exit ?_ | refine kq_then_exit ?_ | refine kq_block_here rfl ?_ | refine kq_block_far rfl ?_ | refine kq_again_exit ?_ | refine kw_ret ?_ | refine kq_then_ret ?_ | refine kq_block_ret ?_ | refine kq_again_ret ?_ | refine kw_ift rfl ?_ | refine kw_iff rfl ?_ | refine kl_ung rfl rfl ?_ | refine kl_skipg rfl rfl rfl rfl ?_ | refine kl_skipg0 rfl rfl rfl ?_ | (first | refine kl_move rfl rfl (.inl rfl) rfl rfl ?_ | refine kl_move rfl rfl (.inr rfl) rfl rfl ?_ | refine kl_const rfl rfl (.inl rfl) rfl ?_ | refine kl_const rfl rfl (.inr rfl) rfl ?_) | ((first | refine kl_step rfl rfl rfl fun K hK => ?_ | refine kl_step0 rfl rfl rfl fun K hK => ?_); go_simp; (try go_bits); (first | refine hK _ _ ?_ | refine hK _ ?_); clear hK K))
    exact kq_ret1 rfl rfl ⟨rfl, hL.below⟩
end Go.Proofs.Ytkgenkkcgegcbaa
namespace Go.Proofs.Ytkgenkkcgegcbaa
open Go.RowKit
attribute [local go_sem] ev_tmp ev_const ev_func ev_global lk_hit lk_miss uponK_value uponK_skip look_tmp look_const look_global look_func valP_value
theorem few17_any (f : Frm) (D : Value) (w : World) (hM : FrmM w f D) :
    Calls Try.prog 14 #[.agg (frmV f D).toArray] w fun e w' => e = .returned (.bool (decide (f.data.length ≤ 120))) ∧ Below w.heap.size w w' := by
  have HS := Lib.hid hM.sum
  obtain ⟨AD, nD, cD, rfl, hBD, _, _⟩ := hM.data
  have HL := Lib.hid hBD.len
  refine calls_kw Try.func14 rfl Try.ntmps14 rfl [(0, .agg (frmV f (.slice AD nD cD)).toArray)] rfl ?_
  refine kw_seq ?_
  refine kw_region ?_
  refine kl_boxL (Lay.start w) rfl rfl rfl rfl rfl ?_
  intro g1 w1 eg1 hb1 hL
  clear eg1 hb1 hM hBD
  have c36 := hL.get (j := 36) 0 rfl (frm_36 f _ HS.out)
  rw [HL.out]
  have t1 : decide ((nD : Int) ≤ 120) = decide (nD ≤ 120) := by
    by_cases h : nD ≤ 120
    · rw [decide_eq_true h, decide_eq_true_eq]; omega
    · rw [decide_eq_false h, decide_eq_false_iff_not]; omega
  repeat (first | refine kw_seq ?_ | refine kw_block ?_ | refine kw_skip ?_ | refine kw_region ?_ | refine kl_nil ?_ | refine kq_then ?_ | refine kq_block ?_ | refine kw_exit ?_ | refine kq_then_exit ?_ | refine kq_block_here rfl ?_ | refine kq_block_far rfl ?_ | refine kq_again_exit ?_ | refine kw_ret ?_ | refine kq_then_ret ?_ | refine kq_block_ret ?_ | refine kq_again_ret ?_ | refine kw_ift rfl ?_ | refine kw_iff rfl ?_ | refine kl_ung rfl rfl ?_ | refine kl_skipg rfl rfl rfl rfl ?_ | refine kl_skipg0 rfl rfl rfl ?_ | (first | refine kl_move rfl rfl (.inl rfl) rfl rfl ?_ | refine kl_move rfl rfl (.inr rfl) rfl rfl ?_ | refine kl_const rfl rfl (.inl rfl) rfl ?_ | refine kl_const rfl rfl (.inr rfl) rfl ?_) | ((first | refine kl_step rfl rfl rfl fun K hK => ?_ | refine kl_step0 rfl rfl rfl fun K hK => ?_); go_simp; (try go_bits); (first | refine hK _ _ ?_ | refine hK _ ?_); clear hK K))
  exact kq_ret1 rfl rfl ⟨rfl, hL.below⟩
def goodF (f : Frm) : Frm := ⟨((1 + within f.kind 5 : Nat) : Int), f.id, f.size, f.at_, f.sum, f.data.take 64⟩
def GoodP (f : Frm) (D0 : Value) (w : World) (e : Ending) (w' : World) : Prop := ∃ D, e = .returned (.agg (frmV (goodF f) D).toArray) ∧ FrmM w' (goodF f) D ∧ Below w.heap.size w w' ∧ ∀ b o n c, D = .slice (some ⟨b, o, none⟩) n c → ∃ n' c', D0 = .slice (some ⟨b, o, none⟩) n' c'
theorem goodF_kind (f : Frm) : 1 ≤ (goodF f).kind ∧ (goodF f).kind ≤ 5 := by
  have := within_lt f.kind 5 (by omega)
  unfold goodF
  simp only
  omega
theorem goodF_data (f : Frm) : (goodF f).data.length ≤ 64 := by unfold goodF; simp only [List.length_take]; omega
set_option maxRecDepth 100000 in
set_option maxHeartbeats 1000000 in
theorem good17_any (f : Frm) (D : Value) (w : World) (hM : FrmM w f D) (hn : f.data.length ≤ 140737488355328) :
    Calls Try.prog 29 #[.agg (frmV f D).toArray] w (GoodP f D w) := by
  have HS := Lib.hid hM.sum
  have HM := Lib.hid hM
  obtain ⟨AD, nD, cD, rfl, hBD, hnD, hcD⟩ := hM.data
  have HL := Lib.hid hBD.len
  have hn' : nD ≤ 140737488355328 := by rw [← hBD.len]; exact hn
  have HBD := Lib.hid hBD
  refine calls_kw Try.func29 rfl Try.ntmps29 rfl [(0, .agg (frmV f (.slice AD nD cD)).toArray)] rfl ?_
  refine kw_seq ?_
  refine kw_region ?_
  refine kl_boxL (Lay.start w) rfl rfl rfl rfl rfl ?_
  intro g1 w1 eg1 hb1 hL
  refine kl_zeroL hL frmZero rfl rfl rfl rfl ?_
  intro g2 w2 eg2 hb2 hL
  clear eg1 eg2 hb1 hb2 hM hBD hn
  have c0 := hL.get (j := 0) 1 rfl (frm_0 f _)
  have f0 := hL.free 1 rfl 0
  repeat (first | refine kw_seq ?_ | refine kw_block ?_ | refine kw_skip ?_ | refine kw_region ?_ | refine kl_nil ?_ | refine kq_then ?_ | refine kq_block ?_ | refine kw_exit ?_ | refine kq_then_exit ?_ | refine kq_block_here rfl ?_ | refine kq_block_far rfl ?_ | refine kq_again_exit ?_ | refine kw_ret ?_ | refine kq_then_ret ?_ | refine kq_block_ret ?_ | refine kq_again_ret ?_ | refine kw_ift rfl ?_ | refine kw_iff rfl ?_ | refine kl_ung rfl rfl ?_ | refine kl_skipg rfl rfl rfl rfl ?_ | refine kl_skipg0 rfl rfl rfl ?_ | (first | refine kl_move rfl rfl (.inl rfl) rfl rfl ?_ | refine kl_move rfl rfl (.inr rfl) rfl rfl ?_ | refine kl_const rfl rfl (.inl rfl) rfl ?_ | refine kl_const rfl rfl (.inr rfl) rfl ?_) | ((first | refine kl_step rfl rfl rfl fun K hK => ?_ | refine kl_step0 rfl rfl rfl fun K hK => ?_); go_simp; (try go_bits); (first | refine hK _ _ ?_ | refine hK _ ?_); clear hK K))
  refine kl_call rfl rfl rfl Try.func15 rfl (by kernel_rfl) rfl ?_
  refine Calls.mono (within_any f.kind 5 _ _ rfl (by omega) (by omega)) ?_
  rintro e _ ⟨rfl, rfl⟩
  refine ⟨_, rfl, ?_⟩
  have hu := within_lt f.kind 5 (by omega)
  obtain ⟨K, hK⟩ : ∃ K, 1 + within f.kind 5 = K := ⟨_, rfl⟩
  have s1 : (1 : Int) + (within f.kind 5 : Nat) = (K : Int) := by omega
  have s2 : IntKind.i64.wrap ((1 : Int) + (within f.kind 5 : Nat)) = (K : Int) := by rw [s1, IntWalk.i64_in _ (by omega)]
  have hK1 : 1 ≤ K := by omega
  have hK5 : K ≤ 5 := by omega
  have HK := Lib.hid hK
  generalize within f.kind 5 = W5 at s1 s2 ⊢
  clear hK hu
  have hL3 : Lay w (w2.setCell ⟨g1, 0, none⟩ (.int .i64 (K : Int))) [(g2, zFrm.toArray, 29), (g1, (frmV ⟨(K : Int), f.id, f.size, f.at_, f.sum, f.data⟩ (.slice AD nD cD)).toArray, 29)] := hL.cell 1 rfl 0 (.int .i64 (K : Int))
  clear hL
  repeat (first | (first | refine kl_move rfl rfl (.inl rfl) rfl rfl ?_ | refine kl_move rfl rfl (.inr rfl) rfl rfl ?_ | refine kl_const rfl rfl (.inl rfl) rfl ?_ | refine kl_const rfl rfl (.inr rfl) rfl ?_) | ((first | refine kl_step rfl rfl rfl fun K hK => ?_ | refine kl_step0 rfl rfl rfl fun K hK => ?_); go_simp; (try go_bits); (first | refine hK _ _ ?_ | refine hK _ ?_); clear hK K))
  refine kl_nil ?_
  refine kq_then ?_
  clear c0 f0 s1 s2
  have hL := hL3
  clear hL3
  generalize w2.setCell ⟨g1, 0, none⟩ _ = w3 at *
  have hS : (Frm.mk (K : Int) f.id f.size f.at_ f.sum f.data).sum.length = 32 := HS.out
  have c36 := hL.get (j := 36) 1 rfl (frm_36 _ _ hS)
  have f36 := hL.free 1 rfl 36
  obtain ⟨m, hm⟩ : ∃ m, min nD 64 = m := ⟨_, rfl⟩
  have m1 : (if (64 : Int) < (nD : Int) then (64 : Int) else (nD : Int)) = (m : Int) := by split <;> omega
  have m2 : (0 : Int) ≤ m := by omega
  have m3 : (m : Int) ≤ cD := by omega
  have hmn : m ≤ nD := by omega
  have HMM := Lib.hid hm
  have HMn := Lib.hid hmn
  have HHS := Lib.hid hS
  clear hm hS
  have hL3 := hL.cell 1 rfl 36 (.slice AD m cD)
  rw [frm_set36 _ _ _ HHS.out] at hL3
  clear hL
  clear hL
  repeat (first | refine kw_seq ?_ | refine kw_region ?_ | (first | refine kl_move rfl rfl (.inl rfl) rfl rfl ?_ | refine kl_move rfl rfl (.inr rfl) rfl rfl ?_ | refine kl_const rfl rfl (.inl rfl) rfl ?_ | refine kl_const rfl rfl (.inr rfl) rfl ?_) | ((first | refine kl_step rfl rfl rfl fun K hK => ?_ | refine kl_step0 rfl rfl rfl fun K hK => ?_); go_simp; (try go_bits); (first | refine hK _ _ ?_ | refine hK _ ?_); clear hK K))
  refine kl_nil ?_
  refine kq_then ?_
  clear c36 f36 m1 m2 m3
  have hL := hL3
  clear hL3
  generalize w3.setCell ⟨g1, 36, none⟩ _ = w4 at *
  repeat (first | refine kw_seq ?_ | refine kw_block ?_ | refine kw_skip ?_ | refine kw_region ?_ | refine kl_nil ?_ | refine kq_then ?_ | refine kq_block ?_ | refine kw_exit ?_ | refine kq_then_exit ?_ | refine kq_block_here rfl ?_ | refine kq_block_far rfl ?_ | refine kq_again_exit ?_ | refine kw_ret ?_ | refine kq_then_ret ?_ | refine kq_block_ret ?_ | refine kq_again_ret ?_ | refine kw_ift rfl ?_ | refine kw_iff rfl ?_ | refine kl_ung rfl rfl ?_ | refine kl_skipg rfl rfl rfl rfl ?_ | refine kl_skipg0 rfl rfl rfl ?_ | refine kl_getL hL 1 rfl Try.underlying29 rfl (infoF _ _ HHS.out) rfl rfl rfl rfl rfl ?_ | refine kl_putL (cells := (frmV ⟨(K : Int), f.id, f.size, f.at_, f.sum, f.data⟩ (.slice AD m cD)).toArray) hL 0 rfl (infoF _ _ HHS.out) (sizeZF _ _ HHS.out) (frmV_one _ _ rfl) rfl rfl rfl rfl rfl (fun hL2 => ?_) | (first | refine kl_move rfl rfl (.inl rfl) rfl rfl ?_ | refine kl_move rfl rfl (.inr rfl) rfl rfl ?_ | refine kl_const rfl rfl (.inl rfl) rfl ?_ | refine kl_const rfl rfl (.inr rfl) rfl ?_) | ((first | refine kl_step rfl rfl rfl fun K hK => ?_ | refine kl_step0 rfl rfl rfl fun K hK => ?_); go_simp; (try go_bits); (first | refine hK _ _ ?_ | refine hK _ ?_); clear hK K))
  refine kq_retv (fun a k => results_cell_row rfl _ _ g2 29 (frmV ⟨(K : Int), f.id, f.size, f.at_, f.sum, f.data⟩ (.slice AD m cD)).toArray (0, 0) _ (k.slot 2 rfl) (hL2.at_ 0 rfl) Try.underlying29 rfl (infoF _ _ HHS.out)) ?_
  have hb := hL2.below
  generalize World.setRow _ _ _ = w5 at hb
  refine ⟨.slice AD m cD, ?_⟩
  have e : goodF f = ⟨(K : Int), f.id, f.size, f.at_, f.sum, f.data.take m⟩ := by
    unfold goodF
    rw [HK.out]
    congr 1
    rw [List.take_eq_take_iff, HL.out, ← HMM.out]
    omega
  rw [e]
  exact ⟨rfl, ⟨by show I64 (K : Int); unfold I64; omega, HM.out.id, HM.out.size, HM.out.at_, HS.out, ⟨AD, m, cD, rfl, (HBD.out.to_ HMn.out).keep (.of_below hb), by have := HMn.out; omega, hcD⟩⟩, hb, fun b o n c e => by injection e with e1 e2 e3; subst e1; exact ⟨_, _, rfl⟩⟩
end Go.Proofs.Ytkgenkkcgegcbaa
namespace Go.Proofs.Ytkgenkkcgegcbaa
open Go.RowKit
theorem frm_litd (a b c : Int) (D : Value) (hD : D.cells = [D].toArray) (l : List UInt8) :
    Try.prog.built 29 [(0, .int .i64 a), (1, .int .i64 b), (3, .int .i64 c), (5, D)] = some (frmV ⟨a, b, 0, c, z32, l⟩ D).toArray := by
  obtain ⟨fs, hu, hp⟩ := frmUnder
  rw [built_struct frmZero hu hp]
  have h1 := fill_step ([(0, 1), (1, 1), (2, 1), (3, 1), (4, 32), (36, 1)].toArray[·]?) [] zFrm 0 _ _ (cells_int .i64 a) rfl (Nat.le_of_ble_eq_true rfl)
  simp only [List.nil_append] at h1
  rw [h1, fill_step _ _ _ 1 _ _ (cells_int .i64 b) rfl (Nat.le_of_ble_eq_true rfl)]
  rw [show (([Value.int .i64 a] ++ [Value.int .i64 b]) ++ List.drop [Value.int .i64 b].length (List.drop [Value.int .i64 a].length zFrm) : List Value) =
    ([Value.int .i64 a] ++ [Value.int .i64 b] ++ [Value.int .i64 0]) ++ ([Value.int .i64 0] ++ (bv z32 ++ [.slice none 0 0])) from rfl]
  rw [fill_step _ _ _ 3 _ _ (cells_int .i64 c) rfl (by simp)]
  rw [show (([Value.int .i64 a] ++ [Value.int .i64 b] ++ [Value.int .i64 0]) ++ [Value.int .i64 c] ++ List.drop [Value.int .i64 c].length ([Value.int .i64 0] ++ (bv z32 ++ [.slice none 0 0])) : List Value) =
    ([Value.int .i64 a] ++ [Value.int .i64 b] ++ [Value.int .i64 0] ++ [Value.int .i64 c] ++ bv z32) ++ [.slice none 0 0] from by simp]
  rw [fill_step _ _ _ 5 _ _ hD (by simp [length_bv, z32_len]) (by simp), fill_nil]
  refine congrArg (fun l : List Value => some l.toArray) ?_
  simp [frmV]
theorem frm_lit (a b c d : Int) (H : List UInt8) (D : Value) (hH : H.length = 32) (hD : D.cells = [D].toArray) :
    Try.prog.built 29 [(0, .int .i64 a), (1, .int .i64 b), (2, .int .i64 c), (4, .agg (bv H).toArray)] = some (frmV ⟨a, b, c, 0, H, []⟩ (.slice none 0 0)).toArray := by
  obtain ⟨fs, hu, hp⟩ := frmUnder
  rw [built_struct frmZero hu hp]
  have h1 := fill_step ([(0, 1), (1, 1), (2, 1), (3, 1), (4, 32), (36, 1)].toArray[·]?) [] zFrm 0 _ _ (cells_int .i64 a) rfl (Nat.le_of_ble_eq_true rfl)
  simp only [List.nil_append] at h1
  rw [h1, fill_step _ _ _ 1 _ _ (cells_int .i64 b) rfl (Nat.le_of_ble_eq_true rfl), fill_step _ _ _ 2 _ _ (cells_int .i64 c) rfl (Nat.le_of_ble_eq_true rfl)]
  rw [show (([Value.int .i64 a] ++ [Value.int .i64 b] ++ [Value.int .i64 c]) ++ List.drop [Value.int .i64 c].length (List.drop [Value.int .i64 b].length (List.drop [Value.int .i64 a].length zFrm)) : List Value) =
    ([Value.int .i64 a] ++ [Value.int .i64 b] ++ [Value.int .i64 c] ++ [.int .i64 0]) ++ (bv z32 ++ [.slice none 0 0]) from rfl]
  rw [fill_step _ _ _ 4 _ _ (cells_agg (bv H)) (by simp [length_bv, hH]) (by simp [length_bv, hH, z32_len]), fill_nil]
  refine congrArg (fun l : List Value => some l.toArray) ?_
  rw [List.drop_append_of_le_length (by simp [length_bv, hH, z32_len]), List.drop_of_length_le (by simp [length_bv, hH, z32_len])]
  simp [frmV]
end Go.Proofs.Ytkgenkkcgegcbaa
