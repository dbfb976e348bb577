/- RetainTorn: the walk. -/
import Derived.Test.YtcpifcdndhhmgaaRetGood
import Derived.Test.YtcpifcdndhhmgaaDuo
import Derived.Test.YtcpifcdndhhmgaaRefFlash2
import Derived.Test.YtcpifcdndhhmgaaFlashOps
import Derived.Test.YtcpifcdndhhmgaaRetRd
set_option linter.unusedVariables false
set_option linter.unusedSimpArgs false
namespace Go.Proofs.Ytcpifcdndhhmgaa
open Go.RowKit
attribute [local go_sem] ev_tmp ev_const ev_func ev_global lk_hit lk_miss uponK_value uponK_skip look_tmp look_const look_global look_func valP_value
structure NKInv (n : Nat) (f : FlashSt) : Prop where
  live : Live f
  kep : ∃ l, KepI f n l
theorem torn_startK : NKInv 0 newF := ⟨live_new, [], kepI_new⟩
theorem NKInv.step {n : Nat} {f : FlashSt} (h : NKInv n f) (hn : n < 100) (l : List KepS) (hv : ∀ k ∈ l, I64 k.value) : ∃ f', saveK f (goodK l) = (0, f') ∧ NKInv (n + 1) f' := by
  obtain ⟨L, l0, K⟩ := h
  obtain ⟨f', h1, h2, h3, _⟩ := K.save L (by omega) (goodK l) (goodK_ok l n (by omega) hv) (goodK_bytes l _)
  exact ⟨f', h1, h2, _, h3⟩
theorem goodK_kv (l : List KepS) (hv : ∀ k ∈ l, I64 k.value) : KepV (goodK l) := CkOk.kv (goodK_ok l 0 (by omega) hv)
theorem fs_block {Q : Nat → Prop} {W : World} {g : Nat} {f : FlashSt} (h : FS Q W g f) : ∃ cs fr, W.heap[g]? = some (.cells cs 43 fr) := by
  obtain ⟨A, n, c, hg, _⟩ := h; exact ⟨_, _, hg⟩
theorem rf_block {Q : Nat → Prop} {W : World} {g : Nat} {f : FlashSt} (h : RF Q W g f) : ∃ cs fr, W.heap[g]? = some (.cells cs 85 fr) := by
  obtain ⟨A, n, c, hg, _⟩ := h; exact ⟨_, _, hg⟩
/-- a row that neither memory touches -/
structure Aside (g x : Nat) (A : Option Addr) (n : Nat) : Prop where
  g : 0 < n → Away g A
  x : 0 < n → Away x A
theorem aside_ty {w W : World} {g x n : Nat} {f k : FlashSt} {A : Option Addr} {l : List KepS} (D : Duo w W g x f k) (hA : KeS W A n l) (hT : TyK W A) : Aside g x A n := by
  obtain ⟨cs, fr, hg⟩ := fs_block D.fs
  obtain ⟨cs2, fr2, hx⟩ := rf_block D.rf
  exact ⟨hT.away hA hg (by decide), hT.away hA hx (by decide)⟩
theorem good_own {w W W' : World} {g x : Nat} {f k : FlashSt} {v : Value} {l : List KepS} (D : Duo w W g x f k) (h : W'.ownsRow W.heap.size 29 3 v l.length (flatK l)) : ∃ A c, v = .slice A l.length c ∧ KeS W' A l.length l ∧ Aside g x A l.length := by
  obtain ⟨A, c, rfl, h1, _⟩ := own_kes h rfl
  have hlt : ∀ a, A = some a → W.heap.size ≤ a.block := fun a ha => by subst ha; exact (h.lt a.block rfl).1
  have := D.xlt
  have := D.lt
  exact ⟨A, c, rfl, h1, fun _ a ha => by have := hlt a ha; omega, fun _ a ha => by have := hlt a ha; omega⟩
set_option maxRecDepth 100000 in
set_option maxHeartbeats 8000000 in
theorem retainTorn_top (A : Option Addr) (n c : Nat) (ls : List (List KepS)) (C : Option Addr) (m d : Nat) (la : List KepS) (y : Int) (M : Option Addr) (k e : Nat) (mk : List UInt8) (w : World)
    (hA : KepWs w A n ls) (hnc : n ≤ c) (hc : c ≤ 9223372036854775807) (hC : KepW w C m la) (hmd : m ≤ d) (hd : d ≤ 9223372036854775807) (_ : -9223372036854775808 ≤ y ∧ y ≤ 9223372036854775807) (hM : Bs w M k mk) (_ : k ≤ e) (_ : e ≤ 140737488351232) :
    Calls Try.prog 5 #[.slice A n c, .slice C m d, .int .i64 y, .slice M k e] w fun e w' => e = .returned (.bool true) ∧ Below w.heap.size w w' := by
  have HLL := Lib.hid hA.len
  have HA := Lib.hid hA
  have HC := Lib.hid hC
  have HM := Lib.hid hM
  clear hA hC hM
  refine calls_kw Try.func5 rfl Try.ntmps5 rfl [(0, .slice A n c), (1, .slice C m d), (2, .int .i64 y), (3, .slice M k e)] rfl ?_
  repeat (first | refine kw_seq ?_ | refine kw_region ?_ | refine kl_nil ?_ | refine kq_then ?_ | refine kw_iff rfl ?_ | refine kw_skip ?_ | refine kw_block ?_ | refine kl_ung rfl rfl ?_ | refine kl_skipg rfl rfl rfl rfl ?_ | (first | refine kl_move rfl rfl (.inl rfl) rfl rfl ?_ | refine kl_move rfl rfl (.inr rfl) rfl rfl ?_ | refine kl_const rfl rfl (.inl rfl) rfl ?_ | refine kl_const rfl rfl (.inr rfl) rfl ?_) | ((first | refine kl_step rfl rfl rfl fun K hK => ?_ | refine kl_step0 rfl rfl rfl fun K hK => ?_); go_simp; (try go_bits); (first | refine hK _ _ ?_ | refine hK _ ?_); clear hK K))
  refine kl_call rfl rfl rfl Try.func8 rfl (by kernel_rfl) rfl ?_
  refine Calls.mono (known16_any w) ?_
  rintro e w0 ⟨rfl, hb0⟩
  refine ⟨_, rfl, ?_⟩
  by_cases h20 : 20 < n
  case pos =>
    have t1 : decide ((20 : Int) < (n : Int)) = true := by rw [decide_eq_true_eq]; omega
    have t1n : decide (20 < n) = true := decide_eq_true h20
    clear h20
    repeat (first | refine kw_seq ?_ | refine kw_block ?_ | refine kw_skip ?_ | refine kw_region ?_ | refine kl_nil ?_ | refine kq_then ?_ | refine kq_block ?_ | refine kw_exit ?_ | refine kq_then_exit ?_ | refine kq_block_here rfl ?_ | refine kq_block_far rfl ?_ | refine kq_again_exit ?_ | refine kw_ret ?_ | refine kq_then_ret ?_ | refine kq_block_ret ?_ | refine kq_again_ret ?_ | refine kw_ift rfl ?_ | refine kw_iff rfl ?_ | refine kl_ung rfl rfl ?_ | refine kl_skipg rfl rfl rfl rfl ?_ | refine kl_skipg0 rfl rfl rfl ?_ | (first | refine kl_move rfl rfl (.inl rfl) rfl rfl ?_ | refine kl_move rfl rfl (.inr rfl) rfl rfl ?_ | refine kl_const rfl rfl (.inl rfl) rfl ?_ | refine kl_const rfl rfl (.inr rfl) rfl ?_) | ((first | refine kl_step rfl rfl rfl fun K hK => ?_ | refine kl_step0 rfl rfl rfl fun K hK => ?_); go_simp; (try go_bits); (first | refine hK _ _ ?_ | refine hK _ ?_); clear hK K))
    exact kq_ret1 rfl rfl ⟨rfl, hb0⟩
  have t1 : decide ((20 : Int) < (n : Int)) = false := by rw [decide_eq_false_iff_not]; omega
  have t1n : decide (20 < n) = false := decide_eq_false h20
  repeat (first | refine kw_seq ?_ | refine kw_region ?_ | refine kl_nil ?_ | refine kq_then ?_ | refine kw_iff rfl ?_ | refine kw_skip ?_ | refine kw_block ?_ | refine kl_ung rfl rfl ?_ | refine kl_skipg rfl rfl rfl rfl ?_ | (first | refine kl_move rfl rfl (.inl rfl) rfl rfl ?_ | refine kl_move rfl rfl (.inr rfl) rfl rfl ?_ | refine kl_const rfl rfl (.inl rfl) rfl ?_ | refine kl_const rfl rfl (.inr rfl) rfl ?_) | ((first | refine kl_step rfl rfl rfl fun K hK => ?_ | refine kl_step0 rfl rfl rfl fun K hK => ?_); go_simp; (try go_bits); (first | refine hK _ _ ?_ | refine hK _ ?_); clear hK K))
  refine kl_call rfl rfl rfl Try.func17 rfl (by kernel_rfl) rfl ?_
  refine Calls.mono (few16_any C m d la w0 (HC.out.row.below hb0) hmd hd) ?_
  rintro e _ ⟨rfl, rfl⟩
  refine ⟨_, rfl, ?_⟩
  obtain ⟨bf, hbf⟩ : ∃ bf, fewK la = bf := ⟨_, rfl⟩
  rw [hbf]
  clear hbf
  cases bf
  case false =>
    repeat (first | refine kw_seq ?_ | refine kw_block ?_ | refine kw_skip ?_ | refine kw_region ?_ | refine kl_nil ?_ | refine kq_then ?_ | refine kq_block ?_ | refine kw_exit ?_ | refine kq_then_exit ?_ | refine kq_block_here rfl ?_ | refine kq_block_far rfl ?_ | refine kq_again_exit ?_ | refine kw_ret ?_ | refine kq_then_ret ?_ | refine kq_block_ret ?_ | refine kq_again_ret ?_ | refine kw_ift rfl ?_ | refine kw_iff rfl ?_ | refine kl_ung rfl rfl ?_ | refine kl_skipg rfl rfl rfl rfl ?_ | refine kl_skipg0 rfl rfl rfl ?_ | (first | refine kl_move rfl rfl (.inl rfl) rfl rfl ?_ | refine kl_move rfl rfl (.inr rfl) rfl rfl ?_ | refine kl_const rfl rfl (.inl rfl) rfl ?_ | refine kl_const rfl rfl (.inr rfl) rfl ?_) | ((first | refine kl_step rfl rfl rfl fun K hK => ?_ | refine kl_step0 rfl rfl rfl fun K hK => ?_); go_simp; (try go_bits); (first | refine hK _ _ ?_ | refine hK _ ?_); clear hK K))
    exact kq_ret1 rfl rfl ⟨rfl, hb0⟩
  by_cases hk20 : 20 < k
  case pos =>
    have t2 : decide ((20 : Int) < (k : Int)) = true := by rw [decide_eq_true_eq]; omega
    have t2n : decide (20 < k) = true := decide_eq_true hk20
    clear hk20
    repeat (first | refine kw_seq ?_ | refine kw_block ?_ | refine kw_skip ?_ | refine kw_region ?_ | refine kl_nil ?_ | refine kq_then ?_ | refine kq_block ?_ | refine kw_exit ?_ | refine kq_then_exit ?_ | refine kq_block_here rfl ?_ | refine kq_block_far rfl ?_ | refine kq_again_exit ?_ | refine kw_ret ?_ | refine kq_then_ret ?_ | refine kq_block_ret ?_ | refine kq_again_ret ?_ | refine kw_ift rfl ?_ | refine kw_iff rfl ?_ | refine kl_ung rfl rfl ?_ | refine kl_skipg rfl rfl rfl rfl ?_ | refine kl_skipg0 rfl rfl rfl ?_ | (first | refine kl_move rfl rfl (.inl rfl) rfl rfl ?_ | refine kl_move rfl rfl (.inr rfl) rfl rfl ?_ | refine kl_const rfl rfl (.inl rfl) rfl ?_ | refine kl_const rfl rfl (.inr rfl) rfl ?_) | ((first | refine kl_step rfl rfl rfl fun K hK => ?_ | refine kl_step0 rfl rfl rfl fun K hK => ?_); go_simp; (try go_bits); (first | refine hK _ _ ?_ | refine hK _ ?_); clear hK K))
    exact kq_ret1 rfl rfl ⟨rfl, hb0⟩
  have t2 : decide ((20 : Int) < (k : Int)) = false := by rw [decide_eq_false_iff_not]; omega
  have t2n : decide (20 < k) = false := decide_eq_false hk20
  have HNK : Hid (n ≤ 20 ∧ k ≤ 20) := ⟨by omega, by omega⟩
  clear h20 hk20
  repeat (first | refine kw_seq ?_ | refine kw_region ?_ | refine kl_nil ?_ | refine kq_then ?_ | refine kw_iff rfl ?_ | refine kw_skip ?_ | refine kw_block ?_ | refine kl_ung rfl rfl ?_ | refine kl_skipg rfl rfl rfl rfl ?_ | (first | refine kl_move rfl rfl (.inl rfl) rfl rfl ?_ | refine kl_move rfl rfl (.inr rfl) rfl rfl ?_ | refine kl_const rfl rfl (.inl rfl) rfl ?_ | refine kl_const rfl rfl (.inr rfl) rfl ?_) | ((first | refine kl_step rfl rfl rfl fun K hK => ?_ | refine kl_step0 rfl rfl rfl fun K hK => ?_); go_simp; (try go_bits); (first | refine hK _ _ ?_ | refine hK _ ?_); clear hK K))
  refine kl_call rfl rfl rfl Try.func10 rfl (by kernel_rfl) rfl ?_
  refine Calls.mono (new_any w0) ?_
  rintro e w1 ⟨rfl, hf1, hb1⟩
  refine ⟨_, rfl, ?_⟩
  repeat (first | refine kw_seq ?_ | refine kw_region ?_ | refine kl_nil ?_ | refine kq_then ?_ | refine kw_iff rfl ?_ | refine kw_skip ?_ | refine kw_block ?_ | refine kl_ung rfl rfl ?_ | refine kl_skipg rfl rfl rfl rfl ?_ | (first | refine kl_move rfl rfl (.inl rfl) rfl rfl ?_ | refine kl_move rfl rfl (.inr rfl) rfl rfl ?_ | refine kl_const rfl rfl (.inl rfl) rfl ?_ | refine kl_const rfl rfl (.inr rfl) rfl ?_) | ((first | refine kl_step rfl rfl rfl fun K hK => ?_ | refine kl_step0 rfl rfl rfl fun K hK => ?_); go_simp; (try go_bits); (first | refine hK _ _ ?_ | refine hK _ ?_); clear hK K))
  refine kl_call rfl rfl rfl Try.func18 rfl (by kernel_rfl) rfl ?_
  refine Calls.mono (refNew_any w1) ?_
  rintro e w2 ⟨rfl, hf2, hb2⟩
  refine ⟨_, rfl, ?_⟩
  have hD2 := Duo.start w w0 w1 w2 hb0 hf1 hb1 hf2 hb2
  obtain ⟨g, hg⟩ : ∃ g, w0.heap.size = g := ⟨_, rfl⟩
  obtain ⟨x, hx⟩ : ∃ x, w1.heap.size = x := ⟨_, rfl⟩
  rw [hg, hx] at hD2 ⊢
  have HD2 := Lib.hid hD2
  have J0 := Lib.hid torn_startK
  clear hf1 hb1 hf2 hb2 hg hx t1 t1n t2 t2n hb0 hD2
  repeat (first | refine kw_seq ?_ | refine kw_region ?_ | refine kl_nil ?_ | refine kq_then ?_ | refine kw_iff rfl ?_ | refine kw_skip ?_ | refine kl_ung rfl rfl ?_ | refine kl_skipg rfl rfl rfl rfl ?_ | (first | refine kl_move rfl rfl (.inl rfl) rfl rfl ?_ | refine kl_move rfl rfl (.inr rfl) rfl rfl ?_ | refine kl_const rfl rfl (.inl rfl) rfl ?_ | refine kl_const rfl rfl (.inr rfl) rfl ?_) | ((first | refine kl_step rfl rfl rfl fun K hK => ?_ | refine kl_step0 rfl rfl rfl fun K hK => ?_); go_simp; (try go_bits); (first | refine hK _ _ ?_ | refine hK _ ?_); clear hK K))
  refine KW.less [0, 1, 2, 3, 9, 10, 11] ?_
  simp only [nrm, lk, Nat.reduceBEq, cond_true, cond_false]
  refine kw_block ?_
  refine kw_loop (fun mm L W => ∃ i f, i ≤ n ∧ mm = n - i ∧ Hid (NKInv i f) ∧ Hid (Duo w W g x f f) ∧ L = [(0, .slice A n c), (1, .slice C m d), (2, .int .i64 y), (3, .slice M k e), (9, .pointer (some ⟨g, 0, none⟩)), (10, .pointer (some ⟨x, 0, none⟩)), (11, .int .i64 (i : Int))]) ⟨0, newF, by omega, rfl, J0, HD2, rfl⟩ ?_
  clear J0 HD2
  rintro mm L W ⟨i, f, hi, rfl, I, D, rfl⟩
  by_cases hil : i < n
  case pos =>
    have t1 : decide ((i : Int) < (n : Int)) = true := by rw [decide_eq_true_eq]; omega
    have t1n : decide (i < n) = true := decide_eq_true hil
    obtain ⟨i1, hi1⟩ : ∃ i1, i + 1 = i1 := ⟨_, rfl⟩
    have i3 : (i : Int) + 1 = (i1 : Int) := by omega
    have i4 : (0 : Int) ≤ i1 := by omega
    have i5 : (i1 : Int) ≤ 21 := by have := HNK.out; omega
    have i6 : (0 : Int) ≤ i := by omega
    have i7 : (i : Int) < n := by omega
    obtain ⟨bA, oA, rfl, hat⟩ := HA.out.at_ (by omega)
    obtain ⟨li, hli⟩ : ∃ li, ls[i]? = some li := ⟨_, List.getElem?_eq_getElem (by rw [HLL.out]; exact hil)⟩
    obtain ⟨Bi, mi, ci, hcell, hKi, hmi, hci⟩ := hat i li hli
    have HCE := Lib.hid hcell
    have HKI := Lib.hid hKi
    have c1 := D.out.keeps _ _ hcell
    obtain ⟨f3, s1, s2⟩ := I.out.step (by have := HNK.out; omega) li hKi.val
    rw [hi1] at s2
    have E3 := Lib.hid s1
    have I3 := Lib.hid s2
    have HKV := Lib.hid (goodK_kv li hKi.val)
    have HI := Lib.hid (And.intro hi1 hil)
    clear hat hli hcell hKi s1 s2 I hi1 hil hi
    repeat (first | refine kw_seq ?_ | refine kw_block ?_ | refine kw_region ?_ | refine kl_nil ?_ | refine kq_then ?_ | refine kw_ift rfl ?_ | refine kw_skip ?_ | (first | refine kl_move rfl rfl (.inl rfl) rfl rfl ?_ | refine kl_move rfl rfl (.inr rfl) rfl rfl ?_ | refine kl_const rfl rfl (.inl rfl) rfl ?_ | refine kl_const rfl rfl (.inr rfl) rfl ?_) | ((first | refine kl_step rfl rfl rfl fun K hK => ?_ | refine kl_step0 rfl rfl rfl fun K hK => ?_); go_simp; (try go_bits); (first | refine hK _ _ ?_ | refine hK _ ?_); clear hK K))
    refine kl_call rfl rfl rfl Try.func17 rfl (by kernel_rfl) rfl ?_
    refine Calls.mono (few16_any Bi mi ci li W (HKI.out.row.keep D.out.keeps) hmi hci) ?_
    rintro e _ ⟨rfl, rfl⟩
    refine ⟨_, rfl, ?_⟩
    obtain ⟨bf, hbf⟩ : ∃ bf, fewK li = bf := ⟨_, rfl⟩
    rw [hbf]
    clear hbf
    cases bf
    case false =>
      repeat (first | refine kw_seq ?_ | refine kw_block ?_ | refine kw_skip ?_ | refine kw_region ?_ | refine kl_nil ?_ | refine kq_then ?_ | refine kq_block ?_ | refine kw_exit ?_ | refine kq_then_exit ?_ | refine kq_block_here rfl ?_ | refine kq_block_far rfl ?_ | refine kq_again_exit ?_ | refine kw_ret ?_ | refine kq_then_ret ?_ | refine kq_block_ret ?_ | refine kq_again_ret ?_ | refine kw_ift rfl ?_ | refine kw_iff rfl ?_ | refine kl_ung rfl rfl ?_ | refine kl_skipg rfl rfl rfl rfl ?_ | refine kl_skipg0 rfl rfl rfl ?_ | (first | refine kl_move rfl rfl (.inl rfl) rfl rfl ?_ | refine kl_move rfl rfl (.inr rfl) rfl rfl ?_ | refine kl_const rfl rfl (.inl rfl) rfl ?_ | refine kl_const rfl rfl (.inr rfl) rfl ?_) | ((first | refine kl_step rfl rfl rfl fun K hK => ?_ | refine kl_step0 rfl rfl rfl fun K hK => ?_); go_simp; (try go_bits); (first | refine hK _ _ ?_ | refine hK _ ?_); clear hK K))
      exact kq_ret1 rfl rfl ⟨rfl, D.out.bel⟩
    repeat (first | refine kw_seq ?_ | refine kw_region ?_ | refine kl_nil ?_ | refine kq_then ?_ | refine kw_iff rfl ?_ | refine kw_skip ?_ | refine kl_ung rfl rfl ?_ | refine kl_skipg rfl rfl rfl rfl ?_ | (first | refine kl_move rfl rfl (.inl rfl) rfl rfl ?_ | refine kl_move rfl rfl (.inr rfl) rfl rfl ?_ | refine kl_const rfl rfl (.inl rfl) rfl ?_ | refine kl_const rfl rfl (.inr rfl) rfl ?_) | ((first | refine kl_step rfl rfl rfl fun K hK => ?_ | refine kl_step0 rfl rfl rfl fun K hK => ?_); go_simp; (try go_bits); (first | refine hK _ _ ?_ | refine hK _ ?_); clear hK K))
    refine kl_call rfl rfl rfl Try.func19 rfl (by kernel_rfl) rfl ?_
    refine Calls.mono (good16_any Bi mi ci li W (HKI.out.row.keep D.out.keeps) hmi hci) ?_
    rintro e w3 ⟨v3, rfl, ho3, hb3⟩
    refine ⟨_, rfl, ?_⟩
    obtain ⟨A3, c3, rfl, hk3, ha3⟩ := good_own D.out ho3
    have D3 := Lib.hid (D.out.next hb3)
    have HK3 := Lib.hid hk3
    clear D ho3 hb3 c1 hk3
    repeat (first | refine kw_seq ?_ | refine kw_region ?_ | refine kl_nil ?_ | refine kq_then ?_ | refine kw_iff rfl ?_ | refine kw_skip ?_ | refine kl_ung rfl rfl ?_ | refine kl_skipg rfl rfl rfl rfl ?_ | (first | refine kl_move rfl rfl (.inl rfl) rfl rfl ?_ | refine kl_move rfl rfl (.inr rfl) rfl rfl ?_ | refine kl_const rfl rfl (.inl rfl) rfl ?_ | refine kl_const rfl rfl (.inr rfl) rfl ?_) | ((first | refine kl_step rfl rfl rfl fun K hK => ?_ | refine kl_step0 rfl rfl rfl fun K hK => ?_); go_simp; (try go_bits); (first | refine hK _ _ ?_ | refine hK _ ?_); clear hK K))
    refine kl_call rfl rfl rfl Try.func11 rfl (by kernel_rfl) rfl ?_
    refine Calls.mono (saveK_any (NeQ g x) g neq_g f A3 _ c3 (goodK li) w3 D3.out.fs HK3.out HKV.out) ?_
    rintro e w4 ⟨rfl, hf4, hg4⟩
    refine ⟨_, rfl, ?_⟩
    have D4 := Lib.hid (D3.out.fst hf4 hg4)
    rw [E3.out] at D4 ⊢
    dsimp only at D4 ⊢
    have c4 := D4.out.keeps _ _ HCE.out
    clear D3 hf4 hg4 HK3 ha3
    repeat (first | refine kw_seq ?_ | refine kw_region ?_ | refine kl_nil ?_ | refine kq_then ?_ | refine kw_iff rfl ?_ | refine kw_skip ?_ | refine kl_ung rfl rfl ?_ | refine kl_skipg rfl rfl rfl rfl ?_ | (first | refine kl_move rfl rfl (.inl rfl) rfl rfl ?_ | refine kl_move rfl rfl (.inr rfl) rfl rfl ?_ | refine kl_const rfl rfl (.inl rfl) rfl ?_ | refine kl_const rfl rfl (.inr rfl) rfl ?_) | ((first | refine kl_step rfl rfl rfl fun K hK => ?_ | refine kl_step0 rfl rfl rfl fun K hK => ?_); go_simp; (try go_bits); (first | refine hK _ _ ?_ | refine hK _ ?_); clear hK K))
    refine kl_call rfl rfl rfl Try.func19 rfl (by kernel_rfl) rfl ?_
    refine Calls.mono (good16_any Bi mi ci li w4 (HKI.out.row.keep D4.out.keeps) hmi hci) ?_
    rintro e w5 ⟨v5, rfl, ho5, hb5⟩
    refine ⟨_, rfl, ?_⟩
    obtain ⟨A5, c5, rfl, hk5, ha5⟩ := good_own D4.out ho5
    have D5 := Lib.hid (D4.out.next hb5)
    have HK5 := Lib.hid hk5
    clear D4 ho5 hb5 c4 hk5
    repeat (first | refine kw_seq ?_ | refine kw_region ?_ | refine kl_nil ?_ | refine kq_then ?_ | refine kw_iff rfl ?_ | refine kw_skip ?_ | refine kl_ung rfl rfl ?_ | refine kl_skipg rfl rfl rfl rfl ?_ | (first | refine kl_move rfl rfl (.inl rfl) rfl rfl ?_ | refine kl_move rfl rfl (.inr rfl) rfl rfl ?_ | refine kl_const rfl rfl (.inl rfl) rfl ?_ | refine kl_const rfl rfl (.inr rfl) rfl ?_) | ((first | refine kl_step rfl rfl rfl fun K hK => ?_ | refine kl_step0 rfl rfl rfl fun K hK => ?_); go_simp; (try go_bits); (first | refine hK _ _ ?_ | refine hK _ ?_); clear hK K))
    refine kl_call rfl rfl rfl Try.func20 rfl (by kernel_rfl) rfl ?_
    refine Calls.mono (saveKR_any (NeQ g x) x neq_x f A5 _ c5 (goodK li) w5 D5.out.rf HK5.out HKV.out) ?_
    rintro e w6 ⟨rfl, hf6, hg6⟩
    refine ⟨_, rfl, ?_⟩
    have D6 := Lib.hid (D5.out.snd hf6 hg6)
    rw [E3.out] at D6 ⊢
    dsimp only at D6 ⊢
    clear D5 hf6 hg6 HK5 ha5
    repeat (first | refine kw_seq ?_ | refine kw_block ?_ | refine kw_region ?_ | refine kl_nil ?_ | refine kq_then ?_ | refine kq_block ?_ | refine kw_iff rfl ?_ | refine kw_skip ?_ | refine kl_ung rfl rfl ?_ | (first | refine kl_move rfl rfl (.inl rfl) rfl rfl ?_ | refine kl_move rfl rfl (.inr rfl) rfl rfl ?_ | refine kl_const rfl rfl (.inl rfl) rfl ?_ | refine kl_const rfl rfl (.inr rfl) rfl ?_) | ((first | refine kl_step rfl rfl rfl fun K hK => ?_ | refine kl_step0 rfl rfl rfl fun K hK => ?_); go_simp; (try go_bits); (first | refine hK _ _ ?_ | refine hK _ ?_); clear hK K))
    refine kq_again (n - i1) [0, 1, 2, 3, 9, 10, 11] (by have := HI.out; omega) ?_
    exact ⟨i1, f3, by have := HI.out; omega, rfl, I3, D6, rfl⟩
  obtain rfl : i = n := by omega
  have t1 : decide ((i : Int) < (i : Int)) = false := by simp
  have t1n : decide (i < i) = false := by simp
  clear hil hi
  repeat (first | refine kw_seq ?_ | refine kw_region ?_ | refine kl_nil ?_ | refine kq_then ?_ | refine kq_block ?_ | refine kw_iff rfl ?_ | refine kw_exit ?_ | refine kq_then_exit ?_ | refine kq_block_here rfl ?_ | refine kq_again_exit ?_ | refine kw_skip ?_ | (first | refine kl_move rfl rfl (.inl rfl) rfl rfl ?_ | refine kl_move rfl rfl (.inr rfl) rfl rfl ?_ | refine kl_const rfl rfl (.inl rfl) rfl ?_ | refine kl_const rfl rfl (.inr rfl) rfl ?_) | ((first | refine kl_step rfl rfl rfl fun K hK => ?_ | refine kl_step0 rfl rfl rfl fun K hK => ?_); go_simp; (try go_bits); (first | refine hK _ _ ?_ | refine hK _ ?_); clear hK K))
  clear t1 t1n
  obtain ⟨l0, K0⟩ := I.out.kep
  obtain ⟨sx, _, hnew⟩ := K0.new
  have HNW := Lib.hid hnew
  have HK0 := Lib.hid K0
  have HLV := Lib.hid I.out.live
  clear K0 hnew I
  refine kl_call rfl rfl rfl Try.func12 rfl (by kernel_rfl) rfl ?_
  refine Calls.mono (loadK_any (NeQ g x) g f W D.out.fs) ?_
  rintro e w7 ⟨A7, n7, c7, rfl, hk7, hy7, _, _, hb7⟩
  refine ⟨_, rfl, ?_⟩
  rw [HNW.out] at hk7 ⊢
  dsimp only at hk7 ⊢
  have D7 := Lib.hid (D.out.next hb7)
  have AS7 := Lib.hid (aside_ty D7.out hk7 hy7)
  have HK7 := Lib.hid hk7
  clear D hb7 hk7 hy7
  have hkw := within_lt y 30 (by omega)
  obtain ⟨q, hq⟩ : ∃ q, within y 30 = q := ⟨_, rfl⟩
  rw [hq] at hkw
  obtain ⟨r, hr⟩ : ∃ r, 1 + q = r := ⟨_, rfl⟩
  have j1 : (1 : Int) + (q : Int) = (r : Int) := by omega
  have j2 : (0 : Int) ≤ r := by omega
  have j3 : (r : Int) ≤ 30 := by omega
  have HQ := Lib.hid hq
  have HR0 : Hid (0 < r) := by show _ < _; omega
  have HRI : Hid (-9223372036854775808 ≤ (r : Int) ∧ (r : Int) ≤ 9223372036854775807) := by show _ ∧ _; omega
  clear hq hr hkw
  repeat (first | refine kw_seq ?_ | refine kw_skip ?_ | refine kw_region ?_ | refine kl_nil ?_ | refine kq_then ?_ | refine kq_block ?_ | refine kw_exit ?_ | refine kq_then_exit ?_ | refine kq_block_here rfl ?_ | refine kq_block_far rfl ?_ | refine kq_again_exit ?_ | refine kw_ret ?_ | refine kq_then_ret ?_ | refine kq_block_ret ?_ | refine kq_again_ret ?_ | refine kw_ift rfl ?_ | refine kw_iff rfl ?_ | refine kl_ung rfl rfl ?_ | refine kl_skipg rfl rfl rfl rfl ?_ | refine kl_skipg0 rfl rfl rfl ?_ | (first | refine kl_move rfl rfl (.inl rfl) rfl rfl ?_ | refine kl_move rfl rfl (.inr rfl) rfl rfl ?_ | refine kl_const rfl rfl (.inl rfl) rfl ?_ | refine kl_const rfl rfl (.inr rfl) rfl ?_) | ((first | refine kl_step rfl rfl rfl fun K hK => ?_ | refine kl_step0 rfl rfl rfl fun K hK => ?_); go_simp; (try go_bits); (first | refine hK _ _ ?_ | refine hK _ ?_); clear hK K))
  refine kw_region_f (fun _ => True) [true, true, true, true, false, true, true, false] (by kernel_rfl) (by kernel_rfl) trivial ?_
  have D8 := Lib.hid (D7.out.next ((Below.refl _ _).drew))
  have HK8 := Lib.hid (HK7.out.below ((Below.refl _ _).drew))
  clear D7 HK7
  generalize w7.drew = w8 at D8 HK8 ⊢
  repeat (first | refine kf_nil ?_ | refine kf_ung rfl rfl ?_ | refine kf_skipg rfl rfl rfl rfl ?_ | (first | refine kf_move rfl rfl (.inl rfl) rfl rfl ?_ | refine kf_move rfl rfl (.inr rfl) rfl rfl ?_ | refine kf_const rfl rfl (.inl rfl) rfl ?_ | refine kf_const rfl rfl (.inr rfl) rfl ?_) | (refine kf_val rfl rfl rfl ?_; apply Exists.intro; refine And.intro (fun W hW N hN => ?_) ?_; · (go_simp; (try go_bits); exact hN)))
  refine kf_ch ?_
  refine kl_call rfl rfl rfl Try.func9 rfl (by kernel_rfl) rfl ?_
  refine Calls.mono (within16_any y 30 30 _ rfl (by omega) (by omega)) ?_
  rintro e _ ⟨rfl, rfl⟩
  rw [HQ.out]
  refine ⟨_, rfl, ?_⟩
  refine kl_nil ?_
  refine kq_f trivial ?_
  repeat (first | refine kf_nil ?_ | refine kf_ung rfl rfl ?_ | refine kf_skipg rfl rfl rfl rfl ?_ | (first | refine kf_move rfl rfl (.inl rfl) rfl rfl ?_ | refine kf_move rfl rfl (.inr rfl) rfl rfl ?_ | refine kf_const rfl rfl (.inl rfl) rfl ?_ | refine kf_const rfl rfl (.inr rfl) rfl ?_) | (refine kf_val rfl rfl rfl ?_; apply Exists.intro; refine And.intro (fun W hW N hN => ?_) ?_; · (go_simp; (try go_bits); exact hN)))
  refine kf_ch ?_
  refine kl_call rfl rfl rfl Try.func21 rfl (by kernel_rfl) rfl ?_
  refine Calls.mono (stop_any (NeQ g x) g f r M k e mk w8 D8.out.fs D8.out.fresh HRI.out (HM.out.keep D8.out.keeps) (by have := HNK.out; omega)) ?_
  rintro e w9 ⟨rfl, hf9, hg9⟩
  have D9 := Lib.hid (D8.out.fst hf9 hg9)
  have HK9 := Lib.hid (HK8.out.grown hg9 AS7.out.g)
  clear D8 HK8 hf9 hg9
  refine ⟨_, rfl, ?_⟩
  refine kl_nil ?_
  refine kq_f trivial ?_
  repeat (first | refine kf_nil ?_ | refine kf_ung rfl rfl ?_ | refine kf_skipg rfl rfl rfl rfl ?_ | (first | refine kf_move rfl rfl (.inl rfl) rfl rfl ?_ | refine kf_move rfl rfl (.inr rfl) rfl rfl ?_ | refine kf_const rfl rfl (.inl rfl) rfl ?_ | refine kf_const rfl rfl (.inr rfl) rfl ?_) | (refine kf_val rfl rfl rfl ?_; apply Exists.intro; refine And.intro (fun W hW N hN => ?_) ?_; · (go_simp; (try go_bits); exact hN)))
  refine kq_then ?_
  repeat (first | refine kw_seq ?_ | refine kw_skip ?_ | refine kw_region ?_ | refine kl_nil ?_ | refine kq_then ?_ | refine kq_block ?_ | refine kw_exit ?_ | refine kq_then_exit ?_ | refine kq_block_here rfl ?_ | refine kq_block_far rfl ?_ | refine kq_again_exit ?_ | refine kw_ret ?_ | refine kq_then_ret ?_ | refine kq_block_ret ?_ | refine kq_again_ret ?_ | refine kw_ift rfl ?_ | refine kw_iff rfl ?_ | refine kl_ung rfl rfl ?_ | refine kl_skipg rfl rfl rfl rfl ?_ | refine kl_skipg0 rfl rfl rfl ?_ | (first | refine kl_move rfl rfl (.inl rfl) rfl rfl ?_ | refine kl_move rfl rfl (.inr rfl) rfl rfl ?_ | refine kl_const rfl rfl (.inl rfl) rfl ?_ | refine kl_const rfl rfl (.inr rfl) rfl ?_) | ((first | refine kl_step rfl rfl rfl fun K hK => ?_ | refine kl_step0 rfl rfl rfl fun K hK => ?_); go_simp; (try go_bits); (first | refine hK _ _ ?_ | refine hK _ ?_); clear hK K))
  refine kl_call rfl rfl rfl Try.func9 rfl (by kernel_rfl) rfl ?_
  refine Calls.mono (within16_any y 30 30 _ rfl (by omega) (by omega)) ?_
  rintro e _ ⟨rfl, rfl⟩
  refine ⟨_, rfl, ?_⟩
  rw [HQ.out]
  repeat (first | refine kw_seq ?_ | refine kw_skip ?_ | refine kw_region ?_ | refine kl_nil ?_ | refine kq_then ?_ | refine kq_block ?_ | refine kw_exit ?_ | refine kq_then_exit ?_ | refine kq_block_here rfl ?_ | refine kq_block_far rfl ?_ | refine kq_again_exit ?_ | refine kw_ret ?_ | refine kq_then_ret ?_ | refine kq_block_ret ?_ | refine kq_again_ret ?_ | refine kw_ift rfl ?_ | refine kw_iff rfl ?_ | refine kl_ung rfl rfl ?_ | refine kl_skipg rfl rfl rfl rfl ?_ | refine kl_skipg0 rfl rfl rfl ?_ | (first | refine kl_move rfl rfl (.inl rfl) rfl rfl ?_ | refine kl_move rfl rfl (.inr rfl) rfl rfl ?_ | refine kl_const rfl rfl (.inl rfl) rfl ?_ | refine kl_const rfl rfl (.inr rfl) rfl ?_) | ((first | refine kl_step rfl rfl rfl fun K hK => ?_ | refine kl_step0 rfl rfl rfl fun K hK => ?_); go_simp; (try go_bits); (first | refine hK _ _ ?_ | refine hK _ ?_); clear hK K))
  refine kl_call rfl rfl rfl Try.func22 rfl (by kernel_rfl) rfl ?_
  refine Calls.mono (refStop_any (NeQ g x) x neq_x f r M k e mk w9 D9.out.rf D9.out.fresh HRI.out (HM.out.keep D9.out.keeps) (by have := HNK.out; omega)) ?_
  rintro e w10 ⟨rfl, hf10, hg10⟩
  refine ⟨_, rfl, ?_⟩
  have D10 := Lib.hid (D9.out.snd hf10 hg10)
  have HK10 := Lib.hid (HK9.out.grown hg10 AS7.out.x)
  clear D9 HK9 hf10 hg10
  obtain ⟨R, hR⟩ : ∃ R, saveK (stopF f (r : Int) mk) (goodK la) = R := ⟨_, rfl⟩
  have HT := Lib.hid (torn_lawK HK0.out HLV.out (by have := HNK.out; omega) r HR0.out mk (goodK la) (goodK_ok la i (by have := HNK.out; omega) HC.out.val) (goodK_bytes la _) R hR)
  have HR := Lib.hid hR
  have HKV := Lib.hid (goodK_kv la HC.out.val)
  clear hR HK0 HLV
  repeat (first | refine kw_seq ?_ | refine kw_region ?_ | refine kl_nil ?_ | refine kq_then ?_ | refine kw_iff rfl ?_ | refine kw_skip ?_ | refine kl_ung rfl rfl ?_ | refine kl_skipg rfl rfl rfl rfl ?_ | (first | refine kl_move rfl rfl (.inl rfl) rfl rfl ?_ | refine kl_move rfl rfl (.inr rfl) rfl rfl ?_ | refine kl_const rfl rfl (.inl rfl) rfl ?_ | refine kl_const rfl rfl (.inr rfl) rfl ?_) | ((first | refine kl_step rfl rfl rfl fun K hK => ?_ | refine kl_step0 rfl rfl rfl fun K hK => ?_); go_simp; (try go_bits); (first | refine hK _ _ ?_ | refine hK _ ?_); clear hK K))
  refine kl_call rfl rfl rfl Try.func19 rfl (by kernel_rfl) rfl ?_
  refine Calls.mono (good16_any C m d la w10 (HC.out.row.keep D10.out.keeps) hmd hd) ?_
  rintro e w11 ⟨v11, rfl, ho11, hb11⟩
  refine ⟨_, rfl, ?_⟩
  obtain ⟨A11, c11, rfl, hk11, ha11⟩ := good_own D10.out ho11
  have D11 := Lib.hid (D10.out.next hb11)
  have HK11 := Lib.hid (HK10.out.below hb11)
  have HG11 := Lib.hid hk11
  have AS11 := Lib.hid ha11
  clear D10 HK10 ho11 hb11 hk11 ha11
  obtain ⟨n11, hn11⟩ : ∃ n11, (goodK la).length = n11 := ⟨_, rfl⟩
  rw [hn11] at HG11 AS11 ⊢
  have HN11 : Hid (n11 ≤ 24) := by show _ ≤ _; rw [← hn11, goodK_len]; omega
  clear hn11
  repeat (first | refine kw_seq ?_ | refine kw_region ?_ | refine kl_nil ?_ | refine kq_then ?_ | refine kw_iff rfl ?_ | refine kw_skip ?_ | refine kl_ung rfl rfl ?_ | refine kl_skipg rfl rfl rfl rfl ?_ | (first | refine kl_move rfl rfl (.inl rfl) rfl rfl ?_ | refine kl_move rfl rfl (.inr rfl) rfl rfl ?_ | refine kl_const rfl rfl (.inl rfl) rfl ?_ | refine kl_const rfl rfl (.inr rfl) rfl ?_) | ((first | refine kl_step rfl rfl rfl fun K hK => ?_ | refine kl_step0 rfl rfl rfl fun K hK => ?_); go_simp; (try go_bits); (first | refine hK _ _ ?_ | refine hK _ ?_); clear hK K))
  refine kl_call rfl rfl rfl Try.func11 rfl (by kernel_rfl) rfl ?_
  refine Calls.mono (saveK_any (NeQ g x) g neq_g _ A11 n11 c11 (goodK la) w11 D11.out.fs HG11.out HKV.out) ?_
  rintro e w12 ⟨rfl, hf12, hg12⟩
  refine ⟨_, rfl, ?_⟩
  have D12 := Lib.hid (D11.out.fst hf12 hg12)
  have HK12 := Lib.hid (HK11.out.grown hg12 AS7.out.g)
  have HG12 := Lib.hid (HG11.out.grown hg12 AS11.out.g)
  clear HG11
  clear D11 HK11 hf12 hg12
  rw [HR.out] at D12 ⊢
  repeat (first | refine kw_seq ?_ | refine kw_region ?_ | refine kl_nil ?_ | refine kq_then ?_ | refine kw_iff rfl ?_ | refine kw_skip ?_ | refine kl_ung rfl rfl ?_ | refine kl_skipg rfl rfl rfl rfl ?_ | (first | refine kl_move rfl rfl (.inl rfl) rfl rfl ?_ | refine kl_move rfl rfl (.inr rfl) rfl rfl ?_ | refine kl_const rfl rfl (.inl rfl) rfl ?_ | refine kl_const rfl rfl (.inr rfl) rfl ?_) | ((first | refine kl_step rfl rfl rfl fun K hK => ?_ | refine kl_step0 rfl rfl rfl fun K hK => ?_); go_simp; (try go_bits); (first | refine hK _ _ ?_ | refine hK _ ?_); clear hK K))
  refine kl_call rfl rfl rfl Try.func20 rfl (by kernel_rfl) rfl ?_
  refine Calls.mono (saveKR_any (NeQ g x) x neq_x _ A11 n11 c11 (goodK la) w12 D12.out.rf HG12.out HKV.out) ?_
  rintro e w13 ⟨rfl, hf13, hg13⟩
  refine ⟨_, rfl, ?_⟩
  have D13 := Lib.hid (D12.out.snd hf13 hg13)
  have HK13 := Lib.hid (HK12.out.grown hg13 AS7.out.x)
  have HG13 := Lib.hid (HG12.out.grown hg13 AS11.out.x)
  clear HG12
  clear D12 HK12 hf13 hg13
  rw [HR.out] at D13 ⊢
  clear HR
  obtain ⟨v, F⟩ := R
  dsimp only at D13 HT ⊢
  have e1 : (v != v) = false := by simp
  repeat (first | refine kw_seq ?_ | refine kw_region ?_ | refine kl_nil ?_ | refine kq_then ?_ | refine kw_iff rfl ?_ | refine kw_skip ?_ | refine kl_ung rfl rfl ?_ | refine kl_skipg rfl rfl rfl rfl ?_ | (first | refine kl_move rfl rfl (.inl rfl) rfl rfl ?_ | refine kl_move rfl rfl (.inr rfl) rfl rfl ?_ | refine kl_const rfl rfl (.inl rfl) rfl ?_ | refine kl_const rfl rfl (.inr rfl) rfl ?_) | ((first | refine kl_step rfl rfl rfl fun K hK => ?_ | refine kl_step0 rfl rfl rfl fun K hK => ?_); go_simp; (try go_bits); (first | refine hK _ _ ?_ | refine hK _ ?_); clear hK K))
  clear e1
  refine kl_call rfl rfl rfl Try.func23 rfl (by kernel_rfl) rfl ?_
  refine Calls.mono (start_any (NeQ g x) g _ w13 D13.out.fs) ?_
  rintro e w14 ⟨rfl, hf14, hg14⟩
  refine ⟨_, rfl, ?_⟩
  have D14 := Lib.hid (D13.out.fst hf14 hg14)
  have HK14 := Lib.hid (HK13.out.grown hg14 AS7.out.g)
  have HG14 := Lib.hid (HG13.out.grown hg14 AS11.out.g)
  clear HG13
  clear D13 HK13 hf14 hg14
  repeat (first | refine kw_seq ?_ | refine kw_skip ?_ | refine kw_region ?_ | refine kl_nil ?_ | refine kq_then ?_ | refine kq_block ?_ | refine kw_exit ?_ | refine kq_then_exit ?_ | refine kq_block_here rfl ?_ | refine kq_block_far rfl ?_ | refine kq_again_exit ?_ | refine kw_ret ?_ | refine kq_then_ret ?_ | refine kq_block_ret ?_ | refine kq_again_ret ?_ | refine kw_ift rfl ?_ | refine kw_iff rfl ?_ | refine kl_ung rfl rfl ?_ | refine kl_skipg rfl rfl rfl rfl ?_ | refine kl_skipg0 rfl rfl rfl ?_ | (first | refine kl_move rfl rfl (.inl rfl) rfl rfl ?_ | refine kl_move rfl rfl (.inr rfl) rfl rfl ?_ | refine kl_const rfl rfl (.inl rfl) rfl ?_ | refine kl_const rfl rfl (.inr rfl) rfl ?_) | ((first | refine kl_step rfl rfl rfl fun K hK => ?_ | refine kl_step0 rfl rfl rfl fun K hK => ?_); go_simp; (try go_bits); (first | refine hK _ _ ?_ | refine hK _ ?_); clear hK K))
  refine kl_call rfl rfl rfl Try.func24 rfl (by kernel_rfl) rfl ?_
  refine Calls.mono (refStart_any (NeQ g x) x _ w14 D14.out.rf) ?_
  rintro e w15 ⟨rfl, hf15, hg15⟩
  refine ⟨_, rfl, ?_⟩
  have D15 := Lib.hid (D14.out.snd hf15 hg15)
  have HK15 := Lib.hid (HK14.out.grown hg15 AS7.out.x)
  have HG15 := Lib.hid (HG14.out.grown hg15 AS11.out.x)
  clear HG14
  clear D14 HK14 hf15 hg15
  obtain ⟨G, hG⟩ : ∃ G, startF F = G := ⟨_, rfl⟩
  rw [hG] at D15 HT
  clear hG
  repeat (first | refine kw_seq ?_ | refine kw_skip ?_ | refine kw_region ?_ | refine kl_nil ?_ | refine kq_then ?_ | refine kq_block ?_ | refine kw_exit ?_ | refine kq_then_exit ?_ | refine kq_block_here rfl ?_ | refine kq_block_far rfl ?_ | refine kq_again_exit ?_ | refine kw_ret ?_ | refine kq_then_ret ?_ | refine kq_block_ret ?_ | refine kq_again_ret ?_ | refine kw_ift rfl ?_ | refine kw_iff rfl ?_ | refine kl_ung rfl rfl ?_ | refine kl_skipg rfl rfl rfl rfl ?_ | refine kl_skipg0 rfl rfl rfl ?_ | (first | refine kl_move rfl rfl (.inl rfl) rfl rfl ?_ | refine kl_move rfl rfl (.inr rfl) rfl rfl ?_ | refine kl_const rfl rfl (.inl rfl) rfl ?_ | refine kl_const rfl rfl (.inr rfl) rfl ?_) | ((first | refine kl_step rfl rfl rfl fun K hK => ?_ | refine kl_step0 rfl rfl rfl fun K hK => ?_); go_simp; (try go_bits); (first | refine hK _ _ ?_ | refine hK _ ?_); clear hK K))
  refine kl_call rfl rfl rfl Try.func12 rfl (by kernel_rfl) rfl ?_
  refine Calls.mono (loadK_any (NeQ g x) g G w15 D15.out.fs) ?_
  rintro e w16 ⟨A16, n16, c16, rfl, hk16, _, hn16, _, hb16⟩
  refine ⟨_, rfl, ?_⟩
  obtain ⟨q2, hq2⟩ : ∃ q2, (newK G).1 = q2 := ⟨_, rfl⟩
  obtain ⟨l2, hl2⟩ : ∃ l2, (newK G).2.1 = l2 := ⟨_, rfl⟩
  have hc2 := (newK_ok G).cnt
  rw [hl2] at hk16 hc2
  rw [hq2] at HT ⊢
  have HQ2 := Lib.hid hq2
  have HL2 := Lib.hid hl2
  have hnn := hk16.len
  have HC2 : Hid (n16 ≤ 24) := by show _ ≤ _; omega
  have D16 := Lib.hid (D15.out.next hb16)
  have HK16 := Lib.hid (HK15.out.below hb16)
  have HG16 := Lib.hid (HG15.out.below hb16)
  have HM16 := Lib.hid hk16
  clear D15 HK15 HG15 hb16 hk16 hq2 hl2 hc2 hnn
  repeat (first | refine kw_seq ?_ | refine kw_skip ?_ | refine kw_region ?_ | refine kl_nil ?_ | refine kq_then ?_ | refine kq_block ?_ | refine kw_exit ?_ | refine kq_then_exit ?_ | refine kq_block_here rfl ?_ | refine kq_block_far rfl ?_ | refine kq_again_exit ?_ | refine kw_ret ?_ | refine kq_then_ret ?_ | refine kq_block_ret ?_ | refine kq_again_ret ?_ | refine kw_ift rfl ?_ | refine kw_iff rfl ?_ | refine kl_ung rfl rfl ?_ | refine kl_skipg rfl rfl rfl rfl ?_ | refine kl_skipg0 rfl rfl rfl ?_ | (first | refine kl_move rfl rfl (.inl rfl) rfl rfl ?_ | refine kl_move rfl rfl (.inr rfl) rfl rfl ?_ | refine kl_const rfl rfl (.inl rfl) rfl ?_ | refine kl_const rfl rfl (.inr rfl) rfl ?_) | ((first | refine kl_step rfl rfl rfl fun K hK => ?_ | refine kl_step0 rfl rfl rfl fun K hK => ?_); go_simp; (try go_bits); (first | refine hK _ _ ?_ | refine hK _ ?_); clear hK K))
  refine kl_call rfl rfl rfl Try.func25 rfl (by kernel_rfl) rfl ?_
  refine Calls.mono (loadKR_any (NeQ g x) x G w16 D16.out.rf) ?_
  rintro e w17 ⟨A17, n17, c17, rfl, hk17, _, _, _, hb17⟩
  refine ⟨_, rfl, ?_⟩
  rw [HL2.out] at hk17
  rw [HQ2.out]
  obtain rfl : n17 = n16 := by have h1 := hk17.len; have h2 := HM16.out.len; omega
  have D17 := Lib.hid (D16.out.next hb17)
  have HK17 := Lib.hid (HK16.out.below hb17)
  have HG17 := Lib.hid (HG16.out.below hb17)
  have HM17 := Lib.hid (HM16.out.below hb17)
  have HY17 := Lib.hid hk17
  clear D16 HK16 HG16 HM16 hb17 hk17 HQ2 HL2
  have e1 : (q2 != q2) = false := by simp
  repeat (first | refine kw_seq ?_ | refine kw_region ?_ | refine kl_nil ?_ | refine kq_then ?_ | refine kw_iff rfl ?_ | refine kw_skip ?_ | refine kl_ung rfl rfl ?_ | refine kl_skipg rfl rfl rfl rfl ?_ | (first | refine kl_move rfl rfl (.inl rfl) rfl rfl ?_ | refine kl_move rfl rfl (.inr rfl) rfl rfl ?_ | refine kl_const rfl rfl (.inl rfl) rfl ?_ | refine kl_const rfl rfl (.inr rfl) rfl ?_) | ((first | refine kl_step rfl rfl rfl fun K hK => ?_ | refine kl_step0 rfl rfl rfl fun K hK => ?_); go_simp; (try go_bits); (first | refine hK _ _ ?_ | refine hK _ ?_); clear hK K))
  refine kl_call rfl rfl rfl Try.func13 rfl (by kernel_rfl) rfl ?_
  refine Calls.mono (same16_any A16 A17 n17 c16 n17 c17 l2 l2 w17 HM17.out HY17.out (by have := HC2.out; omega) (by have := HC2.out; omega)) ?_
  rintro e w18 ⟨rfl, hb18⟩
  refine ⟨_, rfl, ?_⟩
  rw [eqKs_self]
  have D18 := Lib.hid (D17.out.next hb18)
  have HK18 := Lib.hid (HK17.out.below hb18)
  have HG18 := Lib.hid (HG17.out.below hb18)
  have HY18 := Lib.hid (HY17.out.below hb18)
  clear D17 HK17 HG17 HM17 HY17 hb18 e1
  have HN7 : Hid (n7 ≤ 24) := by
    show _ ≤ _
    have h1 := HK18.out.len
    have h2 := (newK_ok f).cnt
    rw [HNW.out] at h2
    dsimp only at h2
    omega
  have p1 : (0 : Int) ≤ i := by omega
  have p2 : (i : Int) ≤ 20 := by have := HNK.out; omega
  obtain ⟨i1, hi1⟩ : ∃ i1, i + 1 = i1 := ⟨_, rfl⟩
  have p3 : (i : Int) + 1 = (i1 : Int) := by omega
  have HT2 : Hid (v ≠ 0 ∨ q2 = (i1 : Int)) := by
    show _ ∨ _
    rcases HT.out with h | h
    · exact .inl h
    · exact .inr (by rw [h]; exact p3)
  obtain ⟨b1, hb1⟩ : ∃ b1, (q2 == (i : Int)) = b1 := ⟨_, rfl⟩
  obtain ⟨b2, hb2⟩ : ∃ b2, (q2 == (i1 : Int)) = b2 := ⟨_, rfl⟩
  obtain ⟨b3, hb3⟩ : ∃ b3, (v != 0) = b3 := ⟨_, rfl⟩
  have HB3 : Hid (b3 = true ∨ b2 = true) := by
    show _ ∨ _
    rcases HT2.out with h | h
    · exact .inl (by rw [← hb3, bne_iff_ne]; exact h)
    · exact .inr (by rw [← hb2, beq_iff_eq]; exact h)
  clear hi1 HT HT2
  have EQW := fun W (h : KeS W A17 n17 l2) (h2 : KeS W A7 n7 l0) => same16_any A17 A7 n17 c17 n7 c7 l2 l0 W h h2 (by have := HC2.out; omega) (by have := HN7.out; omega)
  have EQK := fun W (h : KeS W A17 n17 l2) (h2 : KeS W A11 n11 (goodK la)) => same16_any A17 A11 n17 c17 n11 c11 l2 (goodK la) W h h2 (by have := HC2.out; omega) (by have := HN11.out; omega)
  have EQW := Lib.hid EQW
  have EQK := Lib.hid EQK
  cases b1
  · repeat (first | refine kw_seq ?_ | refine kw_region ?_ | refine kl_nil ?_ | refine kq_then ?_ | refine kw_ift rfl ?_ | refine kw_iff rfl ?_ | refine kw_skip ?_ | refine kl_ung rfl rfl ?_ | refine kl_skipg rfl rfl rfl rfl ?_ | (first | refine kl_move rfl rfl (.inl rfl) rfl rfl ?_ | refine kl_move rfl rfl (.inr rfl) rfl rfl ?_ | refine kl_const rfl rfl (.inl rfl) rfl ?_ | refine kl_const rfl rfl (.inr rfl) rfl ?_) | ((first | refine kl_step rfl rfl rfl fun K hK => ?_ | refine kl_step0 rfl rfl rfl fun K hK => ?_); go_simp; (try go_bits); (first | refine hK _ _ ?_ | refine hK _ ?_); clear hK K))
    cases b2
    · repeat (first | refine kw_seq ?_ | refine kw_block ?_ | refine kw_skip ?_ | refine kw_region ?_ | refine kl_nil ?_ | refine kq_then ?_ | refine kq_block ?_ | refine kw_exit ?_ | refine kq_then_exit ?_ | refine kq_block_here rfl ?_ | refine kq_block_far rfl ?_ | refine kq_again_exit ?_ | refine kw_ret ?_ | refine kq_then_ret ?_ | refine kq_block_ret ?_ | refine kq_again_ret ?_ | refine kw_ift rfl ?_ | refine kw_iff rfl ?_ | refine kl_ung rfl rfl ?_ | refine kl_skipg rfl rfl rfl rfl ?_ | refine kl_skipg0 rfl rfl rfl ?_ | (first | refine kl_move rfl rfl (.inl rfl) rfl rfl ?_ | refine kl_move rfl rfl (.inr rfl) rfl rfl ?_ | refine kl_const rfl rfl (.inl rfl) rfl ?_ | refine kl_const rfl rfl (.inr rfl) rfl ?_) | ((first | refine kl_step rfl rfl rfl fun K hK => ?_ | refine kl_step0 rfl rfl rfl fun K hK => ?_); go_simp; (try go_bits); (first | refine hK _ _ ?_ | refine hK _ ?_); clear hK K))
      exact kq_ret1 rfl rfl ⟨rfl, D18.out.bel⟩
    · repeat (first | refine kw_seq ?_ | refine kw_region ?_ | refine kl_nil ?_ | refine kq_then ?_ | refine kw_ift rfl ?_ | refine kw_iff rfl ?_ | refine kw_skip ?_ | refine kl_ung rfl rfl ?_ | refine kl_skipg rfl rfl rfl rfl ?_ | (first | refine kl_move rfl rfl (.inl rfl) rfl rfl ?_ | refine kl_move rfl rfl (.inr rfl) rfl rfl ?_ | refine kl_const rfl rfl (.inl rfl) rfl ?_ | refine kl_const rfl rfl (.inr rfl) rfl ?_) | ((first | refine kl_step rfl rfl rfl fun K hK => ?_ | refine kl_step0 rfl rfl rfl fun K hK => ?_); go_simp; (try go_bits); (first | refine hK _ _ ?_ | refine hK _ ?_); clear hK K))
      refine kl_call rfl rfl rfl Try.func13 rfl (by kernel_rfl) rfl ?_
      refine Calls.mono (EQK.out w18 HY18.out HG18.out) ?_
      rintro e w19 ⟨rfl, hb19⟩
      refine ⟨_, rfl, ?_⟩
      have D19 := Lib.hid (D18.out.next hb19)
      clear D18 HG18 HY18 hb19
      obtain ⟨b5, hb5⟩ : ∃ b5, eqKs l2 (goodK la) = b5 := ⟨_, rfl⟩
      rw [hb5]
      clear hb5
      cases b5
      · repeat (first | refine kw_seq ?_ | refine kw_block ?_ | refine kw_skip ?_ | refine kw_region ?_ | refine kl_nil ?_ | refine kq_then ?_ | refine kq_block ?_ | refine kw_exit ?_ | refine kq_then_exit ?_ | refine kq_block_here rfl ?_ | refine kq_block_far rfl ?_ | refine kq_again_exit ?_ | refine kw_ret ?_ | refine kq_then_ret ?_ | refine kq_block_ret ?_ | refine kq_again_ret ?_ | refine kw_ift rfl ?_ | refine kw_iff rfl ?_ | refine kl_ung rfl rfl ?_ | refine kl_skipg rfl rfl rfl rfl ?_ | refine kl_skipg0 rfl rfl rfl ?_ | (first | refine kl_move rfl rfl (.inl rfl) rfl rfl ?_ | refine kl_move rfl rfl (.inr rfl) rfl rfl ?_ | refine kl_const rfl rfl (.inl rfl) rfl ?_ | refine kl_const rfl rfl (.inr rfl) rfl ?_) | ((first | refine kl_step rfl rfl rfl fun K hK => ?_ | refine kl_step0 rfl rfl rfl fun K hK => ?_); go_simp; (try go_bits); (first | refine hK _ _ ?_ | refine hK _ ?_); clear hK K))
        exact kq_ret1 rfl rfl ⟨rfl, D19.out.bel⟩
      · cases b3 <;> ((repeat (first | refine kw_seq ?_ | refine kw_block ?_ | refine kw_skip ?_ | refine kw_region ?_ | refine kl_nil ?_ | refine kq_then ?_ | refine kq_block ?_ | refine kw_exit ?_ | refine kq_then_exit ?_ | refine kq_block_here rfl ?_ | refine kq_block_far rfl ?_ | refine kq_again_exit ?_ | refine kw_ret ?_ | refine kq_then_ret ?_ | refine kq_block_ret ?_ | refine kq_again_ret ?_ | refine kw_ift rfl ?_ | refine kw_iff rfl ?_ | refine kl_ung rfl rfl ?_ | refine kl_skipg rfl rfl rfl rfl ?_ | refine kl_skipg0 rfl rfl rfl ?_ | (first | refine kl_move rfl rfl (.inl rfl) rfl rfl ?_ | refine kl_move rfl rfl (.inr rfl) rfl rfl ?_ | refine kl_const rfl rfl (.inl rfl) rfl ?_ | refine kl_const rfl rfl (.inr rfl) rfl ?_) | ((first | refine kl_step rfl rfl rfl fun K hK => ?_ | refine kl_step0 rfl rfl rfl fun K hK => ?_); go_simp; (try go_bits); (first | refine hK _ _ ?_ | refine hK _ ?_); clear hK K))) <;> exact kq_ret1 rfl rfl ⟨by first | rfl | simp, D19.out.bel⟩)
  · repeat (first | refine kw_seq ?_ | refine kw_region ?_ | refine kl_nil ?_ | refine kq_then ?_ | refine kw_ift rfl ?_ | refine kw_iff rfl ?_ | refine kw_skip ?_ | refine kl_ung rfl rfl ?_ | refine kl_skipg rfl rfl rfl rfl ?_ | (first | refine kl_move rfl rfl (.inl rfl) rfl rfl ?_ | refine kl_move rfl rfl (.inr rfl) rfl rfl ?_ | refine kl_const rfl rfl (.inl rfl) rfl ?_ | refine kl_const rfl rfl (.inr rfl) rfl ?_) | ((first | refine kl_step rfl rfl rfl fun K hK => ?_ | refine kl_step0 rfl rfl rfl fun K hK => ?_); go_simp; (try go_bits); (first | refine hK _ _ ?_ | refine hK _ ?_); clear hK K))
    refine kl_call rfl rfl rfl Try.func13 rfl (by kernel_rfl) rfl ?_
    refine Calls.mono (EQW.out w18 HY18.out HK18.out) ?_
    rintro e w19 ⟨rfl, hb19⟩
    refine ⟨_, rfl, ?_⟩
    have D19 := Lib.hid (D18.out.next hb19)
    have HG19 := Lib.hid (HG18.out.below hb19)
    have HY19 := Lib.hid (HY18.out.below hb19)
    clear D18 HG18 HY18 HK18 hb19
    obtain ⟨b4, hb4⟩ : ∃ b4, eqKs l2 l0 = b4 := ⟨_, rfl⟩
    rw [hb4]
    clear hb4
    cases b4
    · repeat (first | refine kw_seq ?_ | refine kw_region ?_ | refine kl_nil ?_ | refine kq_then ?_ | refine kw_ift rfl ?_ | refine kw_iff rfl ?_ | refine kw_skip ?_ | refine kl_ung rfl rfl ?_ | refine kl_skipg rfl rfl rfl rfl ?_ | (first | refine kl_move rfl rfl (.inl rfl) rfl rfl ?_ | refine kl_move rfl rfl (.inr rfl) rfl rfl ?_ | refine kl_const rfl rfl (.inl rfl) rfl ?_ | refine kl_const rfl rfl (.inr rfl) rfl ?_) | ((first | refine kl_step rfl rfl rfl fun K hK => ?_ | refine kl_step0 rfl rfl rfl fun K hK => ?_); go_simp; (try go_bits); (first | refine hK _ _ ?_ | refine hK _ ?_); clear hK K))
      cases b2
      · repeat (first | refine kw_seq ?_ | refine kw_block ?_ | refine kw_skip ?_ | refine kw_region ?_ | refine kl_nil ?_ | refine kq_then ?_ | refine kq_block ?_ | refine kw_exit ?_ | refine kq_then_exit ?_ | refine kq_block_here rfl ?_ | refine kq_block_far rfl ?_ | refine kq_again_exit ?_ | refine kw_ret ?_ | refine kq_then_ret ?_ | refine kq_block_ret ?_ | refine kq_again_ret ?_ | refine kw_ift rfl ?_ | refine kw_iff rfl ?_ | refine kl_ung rfl rfl ?_ | refine kl_skipg rfl rfl rfl rfl ?_ | refine kl_skipg0 rfl rfl rfl ?_ | (first | refine kl_move rfl rfl (.inl rfl) rfl rfl ?_ | refine kl_move rfl rfl (.inr rfl) rfl rfl ?_ | refine kl_const rfl rfl (.inl rfl) rfl ?_ | refine kl_const rfl rfl (.inr rfl) rfl ?_) | ((first | refine kl_step rfl rfl rfl fun K hK => ?_ | refine kl_step0 rfl rfl rfl fun K hK => ?_); go_simp; (try go_bits); (first | refine hK _ _ ?_ | refine hK _ ?_); clear hK K))
        exact kq_ret1 rfl rfl ⟨rfl, D19.out.bel⟩
      · repeat (first | refine kw_seq ?_ | refine kw_region ?_ | refine kl_nil ?_ | refine kq_then ?_ | refine kw_ift rfl ?_ | refine kw_iff rfl ?_ | refine kw_skip ?_ | refine kl_ung rfl rfl ?_ | refine kl_skipg rfl rfl rfl rfl ?_ | (first | refine kl_move rfl rfl (.inl rfl) rfl rfl ?_ | refine kl_move rfl rfl (.inr rfl) rfl rfl ?_ | refine kl_const rfl rfl (.inl rfl) rfl ?_ | refine kl_const rfl rfl (.inr rfl) rfl ?_) | ((first | refine kl_step rfl rfl rfl fun K hK => ?_ | refine kl_step0 rfl rfl rfl fun K hK => ?_); go_simp; (try go_bits); (first | refine hK _ _ ?_ | refine hK _ ?_); clear hK K))
        refine kl_call rfl rfl rfl Try.func13 rfl (by kernel_rfl) rfl ?_
        refine Calls.mono (EQK.out w19 HY19.out HG19.out) ?_
        rintro e w20 ⟨rfl, hb20⟩
        refine ⟨_, rfl, ?_⟩
        have D20 := Lib.hid (D19.out.next hb20)
        clear D19 HG19 HY19 hb20
        obtain ⟨b5, hb5⟩ : ∃ b5, eqKs l2 (goodK la) = b5 := ⟨_, rfl⟩
        rw [hb5]
        clear hb5
        cases b5
        · repeat (first | refine kw_seq ?_ | refine kw_block ?_ | refine kw_skip ?_ | refine kw_region ?_ | refine kl_nil ?_ | refine kq_then ?_ | refine kq_block ?_ | refine kw_exit ?_ | refine kq_then_exit ?_ | refine kq_block_here rfl ?_ | refine kq_block_far rfl ?_ | refine kq_again_exit ?_ | refine kw_ret ?_ | refine kq_then_ret ?_ | refine kq_block_ret ?_ | refine kq_again_ret ?_ | refine kw_ift rfl ?_ | refine kw_iff rfl ?_ | refine kl_ung rfl rfl ?_ | refine kl_skipg rfl rfl rfl rfl ?_ | refine kl_skipg0 rfl rfl rfl ?_ | (first | refine kl_move rfl rfl (.inl rfl) rfl rfl ?_ | refine kl_move rfl rfl (.inr rfl) rfl rfl ?_ | refine kl_const rfl rfl (.inl rfl) rfl ?_ | refine kl_const rfl rfl (.inr rfl) rfl ?_) | ((first | refine kl_step rfl rfl rfl fun K hK => ?_ | refine kl_step0 rfl rfl rfl fun K hK => ?_); go_simp; (try go_bits); (first | refine hK _ _ ?_ | refine hK _ ?_); clear hK K))
          exact kq_ret1 rfl rfl ⟨rfl, D20.out.bel⟩
        · cases b3 <;> ((repeat (first | refine kw_seq ?_ | refine kw_block ?_ | refine kw_skip ?_ | refine kw_region ?_ | refine kl_nil ?_ | refine kq_then ?_ | refine kq_block ?_ | refine kw_exit ?_ | refine kq_then_exit ?_ | refine kq_block_here rfl ?_ | refine kq_block_far rfl ?_ | refine kq_again_exit ?_ | refine kw_ret ?_ | refine kq_then_ret ?_ | refine kq_block_ret ?_ | refine kq_again_ret ?_ | refine kw_ift rfl ?_ | refine kw_iff rfl ?_ | refine kl_ung rfl rfl ?_ | refine kl_skipg rfl rfl rfl rfl ?_ | refine kl_skipg0 rfl rfl rfl ?_ | (first | refine kl_move rfl rfl (.inl rfl) rfl rfl ?_ | refine kl_move rfl rfl (.inr rfl) rfl rfl ?_ | refine kl_const rfl rfl (.inl rfl) rfl ?_ | refine kl_const rfl rfl (.inr rfl) rfl ?_) | ((first | refine kl_step rfl rfl rfl fun K hK => ?_ | refine kl_step0 rfl rfl rfl fun K hK => ?_); go_simp; (try go_bits); (first | refine hK _ _ ?_ | refine hK _ ?_); clear hK K))) <;> exact kq_ret1 rfl rfl ⟨by first | rfl | simp, D20.out.bel⟩)
    · cases b2
      · cases b3
        · exact absurd HB3.out (by simp)
        · repeat (first | refine kw_seq ?_ | refine kw_block ?_ | refine kw_skip ?_ | refine kw_region ?_ | refine kl_nil ?_ | refine kq_then ?_ | refine kq_block ?_ | refine kw_exit ?_ | refine kq_then_exit ?_ | refine kq_block_here rfl ?_ | refine kq_block_far rfl ?_ | refine kq_again_exit ?_ | refine kw_ret ?_ | refine kq_then_ret ?_ | refine kq_block_ret ?_ | refine kq_again_ret ?_ | refine kw_ift rfl ?_ | refine kw_iff rfl ?_ | refine kl_ung rfl rfl ?_ | refine kl_skipg rfl rfl rfl rfl ?_ | refine kl_skipg0 rfl rfl rfl ?_ | (first | refine kl_move rfl rfl (.inl rfl) rfl rfl ?_ | refine kl_move rfl rfl (.inr rfl) rfl rfl ?_ | refine kl_const rfl rfl (.inl rfl) rfl ?_ | refine kl_const rfl rfl (.inr rfl) rfl ?_) | ((first | refine kl_step rfl rfl rfl fun K hK => ?_ | refine kl_step0 rfl rfl rfl fun K hK => ?_); go_simp; (try go_bits); (first | refine hK _ _ ?_ | refine hK _ ?_); clear hK K))
          exact kq_ret1 rfl rfl ⟨by first | rfl | simp, D19.out.bel⟩
      · cases b3 <;> ((repeat (first | refine kw_seq ?_ | refine kw_block ?_ | refine kw_skip ?_ | refine kw_region ?_ | refine kl_nil ?_ | refine kq_then ?_ | refine kq_block ?_ | refine kw_exit ?_ | refine kq_then_exit ?_ | refine kq_block_here rfl ?_ | refine kq_block_far rfl ?_ | refine kq_again_exit ?_ | refine kw_ret ?_ | refine kq_then_ret ?_ | refine kq_block_ret ?_ | refine kq_again_ret ?_ | refine kw_ift rfl ?_ | refine kw_iff rfl ?_ | refine kl_ung rfl rfl ?_ | refine kl_skipg rfl rfl rfl rfl ?_ | refine kl_skipg0 rfl rfl rfl ?_ | (first | refine kl_move rfl rfl (.inl rfl) rfl rfl ?_ | refine kl_move rfl rfl (.inr rfl) rfl rfl ?_ | refine kl_const rfl rfl (.inl rfl) rfl ?_ | refine kl_const rfl rfl (.inr rfl) rfl ?_) | ((first | refine kl_step rfl rfl rfl fun K hK => ?_ | refine kl_step0 rfl rfl rfl fun K hK => ?_); go_simp; (try go_bits); (first | refine hK _ _ ?_ | refine hK _ ?_); clear hK K))) <;> exact kq_ret1 rfl rfl ⟨by first | rfl | simp, D19.out.bel⟩)
end Go.Proofs.Ytcpifcdndhhmgaa
