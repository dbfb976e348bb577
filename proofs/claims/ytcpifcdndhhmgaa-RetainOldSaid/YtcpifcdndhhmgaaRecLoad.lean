/- Records: Load, the code's and the document's. -/
import Derived.Test.YtcpifcdndhhmgaaRecSmall
import Derived.Test.YtcpifcdndhhmgaaCrcSum
import Derived.Test.YtcpifcdndhhmgaaRefOpen
import Derived.Test.YtcpifcdndhhmgaaKnApp
set_option linter.unusedVariables false
set_option linter.unusedSimpArgs false
namespace Go.Proofs.Ytcpifcdndhhmgaa
open Go.RowKit
attribute [local go_sem] ev_tmp ev_const ev_func ev_global lk_hit lk_miss uponK_value uponK_skip look_tmp look_const look_global look_func valP_value
theorem Bs.heap {w w' : World} {A : Option Addr} {n : Nat} {l : List UInt8} (h : Bs w A n l) (hk : 0 < n → ∀ b o, A = some ⟨b, o, none⟩ → w'.heap[b]? = w.heap[b]?) : Bs w' A n l :=
  ⟨h.1, fun hn => by
    obtain ⟨b, o, e, hc⟩ := h.2 hn
    refine ⟨b, o, e, fun i u hu => ?_⟩
    have := hc i u hu
    unfold World.cell? at this ⊢
    rw [hk hn b o e]
    exact this⟩
/-- a slice's bytes lie in a block of bytes -/
def TyB (W : World) (A : Option Addr) : Prop := ∀ b o, A = some ⟨b, o, none⟩ → ∃ cs, W.heap[b]? = some (.cells cs 5 (0, 0))
theorem TyB.below {W W' : World} {A : Option Addr} (h : TyB W A) (hb : Below W.heap.size W W') : TyB W' A := fun b o e => by
  obtain ⟨cs, hc⟩ := h b o e
  exact ⟨cs, by rw [hb.block b (Array.getElem?_eq_some_iff.1 hc).1]; exact hc⟩
theorem own_ty {W : World} {base : Nat} {e : TypeId} {size : Nat} {v : Value} {n : Nat} {xs : List Value} (h : W.ownsRow base e size v n xs) {k : Nat} (hk : v.ownBlock = some k) : ∃ cs, W.heap[k]? = some (.cells cs e (0, 0)) := by
  rcases h.2 with ⟨rfl, _⟩ | ⟨g, cap, cur, rfl, _, hg, _⟩
  · simp [Value.ownBlock] at hk
  · simp [Value.ownBlock] at hk; subst hk; exact ⟨_, hg⟩
/-- elements xs read as ls, each in a block of bytes -/
def PsY (W : World) (xs : List Value) (ls : List (List UInt8)) : Prop := ls.length = xs.length ∧ ∀ i (h : i < ls.length), ∃ B m c, xs[i]? = some (.slice B m c) ∧ Bs W B m ls[i] ∧ m ≤ c ∧ c ≤ 9223372036854775807 ∧ TyB W B
theorem PsY.nil (W : World) : PsY W [] [] := ⟨rfl, fun i h => by simp at h⟩
theorem PsY.below {W W' : World} {xs : List Value} {ls : List (List UInt8)} (h : PsY W xs ls) (hb : Below W.heap.size W W') : PsY W' xs ls :=
  ⟨h.1, fun i hi => by obtain ⟨B, m, c, e, hB, h1, h2, ht⟩ := h.2 i hi; exact ⟨B, m, c, e, hB.below hb, h1, h2, ht.below hb⟩⟩
theorem PsY.grown {W W' : World} {xs : List Value} {ls : List (List UInt8)} (h : PsY W xs ls) {v : Value} {base n : Nat} {ys : List Value} (hg : W.grownBy W' v.ownBlock) (ho : W.ownsRow base 27 1 v n ys) : PsY W' xs ls :=
  ⟨h.1, fun i hi => by
    obtain ⟨B, m, c, e, hB, h1, h2, ht⟩ := h.2 i hi
    have key : ∀ b o, B = some ⟨b, o, none⟩ → W'.heap[b]? = W.heap[b]? := fun b o e => by
      obtain ⟨cs, hc⟩ := ht b o e
      refine hg.block b (Array.getElem?_eq_some_iff.1 hc).1 fun hk => ?_
      obtain ⟨cs', hc'⟩ := own_ty ho hk.symm
      rw [hc] at hc'
      injection hc' with hc'
      injection hc' with _ ht _
      exact absurd ht (by decide)
    exact ⟨B, m, c, e, hB.heap fun _ => key, h1, h2, fun b o e => by rw [key b o e]; exact ht b o e⟩⟩
theorem PsY.snoc {W : World} {xs : List Value} {ls : List (List UInt8)} (h : PsY W xs ls) {B : Option Addr} {m c : Nat} {l : List UInt8} (hB : Bs W B m l) (h1 : m ≤ c) (h2 : c ≤ 9223372036854775807) (ht : TyB W B) : PsY W (xs ++ [.slice B m c]) (ls ++ [l]) := by
  refine ⟨by simp [h.1], fun i hi => ?_⟩
  rcases Nat.lt_or_ge i ls.length with hl | hl
  · obtain ⟨B', m', c', e, q⟩ := h.2 i hl
    refine ⟨B', m', c', ?_, ?_⟩
    · rw [List.getElem?_append_left (by rw [← h.1]; exact hl)]; exact e
    · rw [List.getElem_append_left hl]; exact q
  · have hi' : i = ls.length := by simp at hi; omega
    subst hi'
    refine ⟨B, m, c, ?_, ?_⟩
    · rw [List.getElem?_append_right (by rw [h.1]; exact Nat.le_refl _), h.1, Nat.sub_self]; rfl
    · simp only [List.getElem_append_right (Nat.le_refl _), Nat.sub_self, List.getElem_cons_zero]; exact ⟨hB, h1, h2, ht⟩
theorem PsY.ps {W : World} {A : Option Addr} {n : Nat} {xs : List Value} {ls : List (List UInt8)} (h : PsY W xs ls) (hv : Vs W A n xs) : Ps W A n ls := ⟨by rw [h.1]; exact hv.1, xs, hv, fun i hi => by obtain ⟨B, m, c, e, hB, h1, h2, _⟩ := h.2 i hi; exact ⟨B, m, c, e, hB, h1, h2⟩⟩
def LoadPT (b : List UInt8) (w : World) (e : Ending) (w' : World) : Prop := ∃ B0 A n c xs, e = .returned (.tuple #[.slice A n c, .int .i64 ((loadR b).2 : Nat)]) ∧ w'.ownsRow B0 27 1 (.slice A n c) n xs ∧ PsY w' xs (loadR b).1 ∧ n ≤ c ∧ c ≤ 9223372036854775807 ∧ Below w.heap.size w w'
def LoadP (b : List UInt8) (w : World) (e : Ending) (w' : World) : Prop := ∃ A n c, e = .returned (.tuple #[.slice A n c, .int .i64 ((loadR b).2 : Nat)]) ∧ Ps w' A n (loadR b).1 ∧ n ≤ c ∧ c ≤ 9223372036854775807 ∧ Below w.heap.size w w'
theorem read_lens (f : FlashSt) (s : Int) (h : f.S.length = 6144) : (readF f s).length = 0 ∨ (readF f s).length = 1024 := by
  by_cases hs : s < 0 ∨ 6 ≤ s
  · left; unfold readF; rw [if_pos hs]; rfl
  · right
    obtain ⟨k, rfl⟩ : ∃ k : Nat, s = k := ⟨s.toNat, by omega⟩
    exact read_len f k (by omega) h
theorem FS.len {Q : Nat → Prop} {W : World} {g : Nat} {f : FlashSt} (h : FS Q W g f) : f.S.length = 6144 := by obtain ⟨_, _, _, _, h, _⟩ := h; exact h
theorem RF.len {Q : Nat → Prop} {W : World} {g : Nat} {f : FlashSt} (h : RF Q W g f) : f.S.length = 6144 := by obtain ⟨_, _, _, _, h, _⟩ := h; exact h
set_option maxRecDepth 100000 in
set_option maxHeartbeats 2000000 in
theorem load_anyT (Q : Nat → Prop) (g : Nat) (f : FlashSt) (s : Int) (w : World) (h : FS Q w g f) :
    Calls Try.prog 55 #[.pointer (some ⟨g, 0, none⟩), .int .i64 s] w (LoadPT (readF f s) w) := by
  refine calls_kw Try.func55 rfl Try.ntmps55 rfl [(0, .pointer (some ⟨g, 0, none⟩)), (1, .int .i64 s)] rfl ?_
  have hlens := read_lens f s h.len
  repeat (first | refine kw_seq ?_ | refine kw_block ?_ | refine kw_skip ?_ | refine kw_region ?_ | refine kl_nil ?_ | refine kq_then ?_ | refine kq_block ?_ | refine kw_exit ?_ | refine kq_then_exit ?_ | refine kq_block_here rfl ?_ | refine kq_block_far rfl ?_ | refine kq_again_exit ?_ | refine kw_ret ?_ | refine kq_then_ret ?_ | refine kq_block_ret ?_ | refine kq_again_ret ?_ | refine kw_ift rfl ?_ | refine kw_iff rfl ?_ | refine kl_ung rfl rfl ?_ | refine kl_skipg rfl rfl rfl rfl ?_ | refine kl_skipg0 rfl rfl rfl ?_ | (first | refine kl_move rfl rfl (.inl rfl) rfl rfl ?_ | refine kl_move rfl rfl (.inr rfl) rfl rfl ?_ | refine kl_const rfl rfl (.inl rfl) rfl ?_ | refine kl_const rfl rfl (.inr rfl) rfl ?_) | ((first | refine kl_step rfl rfl rfl fun K hK => ?_ | refine kl_step0 rfl rfl rfl fun K hK => ?_); go_simp; (try go_bits); (first | refine hK _ _ ?_ | refine hK _ ?_); clear hK K))
  refine kl_call rfl rfl rfl Try.func16 rfl (by kernel_rfl) rfl ?_
  refine Calls.mono (read_any Q g f s w h) ?_
  rintro e w1 ⟨A, n, c, rfl, hB, hnc, hc, hb⟩
  refine ⟨_, rfl, ?_⟩
  generalize readF f s = b at hB hlens ⊢
  have HL := Lib.hid hB.len
  clear h
  by_cases hz : n = 0
  · subst hz
    have HZ : loadR b = ([], 0) := if_pos HL.out
    have HZ := Lib.hid HZ
    clear hlens
    repeat (first | refine kw_seq ?_ | refine kw_block ?_ | refine kw_skip ?_ | refine kw_region ?_ | refine kl_nil ?_ | refine kq_then ?_ | refine kq_block ?_ | refine kw_exit ?_ | refine kq_then_exit ?_ | refine kq_block_here rfl ?_ | refine kq_block_far rfl ?_ | refine kq_again_exit ?_ | refine kw_ret ?_ | refine kq_then_ret ?_ | refine kq_block_ret ?_ | refine kq_again_ret ?_ | refine kw_ift rfl ?_ | refine kw_iff rfl ?_ | refine kl_ung rfl rfl ?_ | refine kl_skipg rfl rfl rfl rfl ?_ | refine kl_skipg0 rfl rfl rfl ?_ | (first | refine kl_move rfl rfl (.inl rfl) rfl rfl ?_ | refine kl_move rfl rfl (.inr rfl) rfl rfl ?_ | refine kl_const rfl rfl (.inl rfl) rfl ?_ | refine kl_const rfl rfl (.inr rfl) rfl ?_) | ((first | refine kl_step rfl rfl rfl fun K hK => ?_ | refine kl_step0 rfl rfl rfl fun K hK => ?_); go_simp; (try go_bits); (first | refine hK _ _ ?_ | refine hK _ ?_); clear hK K))
    exact kq_ret2 rfl rfl rfl ⟨0, none, 0, 0, [], by rw [HZ.out]; rfl, World.ownsRow_nil _ _ _ _, by rw [HZ.out]; exact PsY.nil _, Nat.le_refl _, by omega, hb⟩
  have hn : n = 1024 := by have := HL.out; omega
  have hc1 : c = 1024 := by omega
  subst hn
  subst hc1
  obtain ⟨gb, ob, rfl⟩ := hB.some_ (by omega)
  have HB := Lib.hid hB
  have HR : Hid (loadR b = loadP b 0) := if_neg (by rw [HL.out]; decide)
  clear hz hlens hnc hc hB
  repeat (first | refine kw_seq ?_ | refine kw_skip ?_ | refine kw_region ?_ | refine kl_nil ?_ | refine kq_then ?_ | refine kq_block ?_ | refine kw_exit ?_ | refine kq_then_exit ?_ | refine kq_block_here rfl ?_ | refine kq_block_far rfl ?_ | refine kq_again_exit ?_ | refine kw_ret ?_ | refine kq_then_ret ?_ | refine kq_block_ret ?_ | refine kq_again_ret ?_ | refine kw_ift rfl ?_ | refine kw_iff rfl ?_ | refine kl_ung rfl rfl ?_ | refine kl_skipg rfl rfl rfl rfl ?_ | refine kl_skipg0 rfl rfl rfl ?_ | (first | refine kl_move rfl rfl (.inl rfl) rfl rfl ?_ | refine kl_move rfl rfl (.inr rfl) rfl rfl ?_ | refine kl_const rfl rfl (.inl rfl) rfl ?_ | refine kl_const rfl rfl (.inr rfl) rfl ?_) | ((first | refine kl_step rfl rfl rfl fun K hK => ?_ | refine kl_step0 rfl rfl rfl fun K hK => ?_); go_simp; (try go_bits); (first | refine hK _ _ ?_ | refine hK _ ?_); clear hK K))
  refine KW.less [4, 5, 6] ?_
  simp only [nrm, lk, Nat.reduceBEq, cond_true, cond_false]
  refine kw_block ?_
  have own0 : Hid (w1.ownsRow w1.heap.size 27 1 (.slice none 0 0) 0 []) := World.ownsRow_nil _ _ _ _
  refine kw_loop (fun mm L W => ∃ p acc v xs, p ≤ 64 ∧ mm = 64 - p ∧ acc.length ≤ p ∧ Below w1.heap.size w1 W ∧ Hid (W.ownsRow w1.heap.size 27 1 v acc.length xs) ∧ Hid (PsY W xs acc) ∧ Hid (loadR b = (acc ++ (loadP b p).1, (loadP b p).2)) ∧ L = [(4, v), (5, .int .i64 (p : Int)), (6, .slice (some ⟨gb, ob, none⟩) 1024 1024)])
    ⟨0, [], .slice none 0 0, [], by omega, rfl, by simp, Below.refl _ _, own0, PsY.nil _, by show _ = _; rw [HR.out]; rfl, rfl⟩ ?_
  clear own0
  rintro mm L W ⟨p, acc, v, xs, hp, rfl, hacc, hbW, HO, HX, HE, rfl⟩
  by_cases hlt : p < 64
  case neg =>
    obtain rfl : p = 64 := by omega
    have t1 : decide (((64 : Nat) : Int) < 64) = false := by decide
    rw [loadP_end (Nat.le_refl 64)] at HE
    simp only [List.append_nil] at HE
    obtain ⟨A2, c2, rfl, o1, o2, o3, _⟩ := own_slice HO.out
    repeat (first | refine kw_seq ?_ | refine kw_block ?_ | refine kw_skip ?_ | refine kw_region ?_ | refine kl_nil ?_ | refine kq_then ?_ | refine kq_block ?_ | refine kw_exit ?_ | refine kq_then_exit ?_ | refine kq_block_here rfl ?_ | refine kq_block_far rfl ?_ | refine kq_again_exit ?_ | refine kw_ret ?_ | refine kq_then_ret ?_ | refine kq_block_ret ?_ | refine kq_again_ret ?_ | refine kw_ift rfl ?_ | refine kw_iff rfl ?_ | refine kl_ung rfl rfl ?_ | refine kl_skipg rfl rfl rfl rfl ?_ | refine kl_skipg0 rfl rfl rfl ?_ | (first | refine kl_move rfl rfl (.inl rfl) rfl rfl ?_ | refine kl_move rfl rfl (.inr rfl) rfl rfl ?_ | refine kl_const rfl rfl (.inl rfl) rfl ?_ | refine kl_const rfl rfl (.inr rfl) rfl ?_) | ((first | refine kl_step rfl rfl rfl fun K hK => ?_ | refine kl_step0 rfl rfl rfl fun K hK => ?_); go_simp; (try go_bits); (first | refine hK _ _ ?_ | refine hK _ ?_); clear hK K))
    exact kq_ret2 rfl rfl rfl ⟨_, A2, acc.length, c2, _, by rw [HE.out]; rfl, HO.out, by rw [HE.out]; exact HX.out, o1, by simpa [maxLen] using o2, below_then hb hbW hb.size⟩
  have t1 : decide ((p : Int) < 64) = true := by rw [decide_eq_true_eq]; omega
  have HBW := Lib.hid (HB.out.keep (.of_below hbW))
  obtain ⟨q, hq⟩ : ∃ q, 16 * p = q := ⟨_, rfl⟩
  have j3 : (p : Int) * 16 = (q : Int) := by omega
  have j0 : (0 : Int) ≤ q := by omega
  have j1 : (q : Int) ≤ 1024 := by omega
  have j2 : (q : Int) < 1024 := by omega
  have j5 : ¬ (1024 = q) := by omega
  have j6 : ¬ ((1024 : Int) = q) := by omega
  obtain ⟨r, hr⟩ : ∃ r, 1024 - q = r := ⟨_, rfl⟩
  have j7 : (16 : Int) ≤ (r : Int) := by omega
  have j8 : 16 ≤ r := by omega
  have j9 : r ≤ 9223372036854775807 := by omega
  repeat (first | refine kw_seq ?_ | refine kw_block ?_ | refine kw_region ?_ | refine kl_nil ?_ | refine kq_then ?_ | refine kw_ift rfl ?_ | refine kw_skip ?_ | (first | refine kl_move rfl rfl (.inl rfl) rfl rfl ?_ | refine kl_move rfl rfl (.inr rfl) rfl rfl ?_ | refine kl_const rfl rfl (.inl rfl) rfl ?_ | refine kl_const rfl rfl (.inr rfl) rfl ?_) | ((first | refine kl_step rfl rfl rfl fun K hK => ?_ | refine kl_step0 rfl rfl rfl fun K hK => ?_); go_simp; (try go_bits); (first | refine hK _ _ ?_ | refine hK _ ?_); clear hK K))
  have hBq := HBW.out.from_ (k := q) (cap := 1024) (by omega) (Nat.le_refl _)
  rw [if_neg j5, hr] at hBq
  have hBq : Bs W (some ⟨gb, ob + q, none⟩) r (b.drop q) := by simpa [add_lit] using hBq
  have HBQ := Lib.hid hBq
  have HQ := Lib.hid hq
  have HRR := Lib.hid hr
  clear hBq
  refine kl_call rfl rfl rfl Try.func78 rfl (by kernel_rfl) rfl ?_
  refine Calls.mono (clean_any (some ⟨gb, ob + q, none⟩) 16 r ((b.drop q).take 16) W (HBQ.out.to_ (by omega)) (by omega)) ?_
  rintro e _ ⟨rfl, rfl⟩
  refine ⟨_, rfl, ?_⟩
  by_cases hbl : blankP ((b.drop q).take 16) = true
  · have hE2 : loadP b p = ([], p) := loadP_blank hlt (by rw [HQ.out]; exact hbl)
    rw [hbl]
    rw [hE2] at HE
    simp only [List.append_nil] at HE
    clear hbl hE2 hq hr j3 j5 j6
    obtain ⟨A2, c2, rfl, o1, o2, o3, _⟩ := own_slice HO.out
    repeat (first | refine kw_seq ?_ | refine kw_block ?_ | refine kw_skip ?_ | refine kw_region ?_ | refine kl_nil ?_ | refine kq_then ?_ | refine kq_block ?_ | refine kw_exit ?_ | refine kq_then_exit ?_ | refine kq_block_here rfl ?_ | refine kq_block_far rfl ?_ | refine kq_again_exit ?_ | refine kw_ret ?_ | refine kq_then_ret ?_ | refine kq_block_ret ?_ | refine kq_again_ret ?_ | refine kw_ift rfl ?_ | refine kw_iff rfl ?_ | refine kl_ung rfl rfl ?_ | refine kl_skipg rfl rfl rfl rfl ?_ | refine kl_skipg0 rfl rfl rfl ?_ | (first | refine kl_move rfl rfl (.inl rfl) rfl rfl ?_ | refine kl_move rfl rfl (.inr rfl) rfl rfl ?_ | refine kl_const rfl rfl (.inl rfl) rfl ?_ | refine kl_const rfl rfl (.inr rfl) rfl ?_) | ((first | refine kl_step rfl rfl rfl fun K hK => ?_ | refine kl_step0 rfl rfl rfl fun K hK => ?_); go_simp; (try go_bits); (first | refine hK _ _ ?_ | refine hK _ ?_); clear hK K))
    exact kq_ret2 rfl rfl rfl ⟨_, A2, acc.length, c2, _, by rw [HE.out], HO.out, by rw [HE.out]; exact HX.out, o1, by simpa [maxLen] using o2, below_then hb hbW hb.size⟩
  have hbl : blankP ((b.drop q).take 16) = false := by simpa using hbl
  rw [hbl]
  have HBL := Lib.hid hbl
  clear hbl hq hr j3 j5 j6
  repeat (first | refine kw_seq ?_ | refine kw_block ?_ | refine kw_skip ?_ | refine kw_region ?_ | refine kl_nil ?_ | refine kq_then ?_ | refine kq_block ?_ | refine kw_exit ?_ | refine kq_then_exit ?_ | refine kq_block_here rfl ?_ | refine kq_block_far rfl ?_ | refine kq_again_exit ?_ | refine kw_ret ?_ | refine kq_then_ret ?_ | refine kq_block_ret ?_ | refine kq_again_ret ?_ | refine kw_ift rfl ?_ | refine kw_iff rfl ?_ | refine kl_ung rfl rfl ?_ | refine kl_skipg rfl rfl rfl rfl ?_ | refine kl_skipg0 rfl rfl rfl ?_ | (first | refine kl_move rfl rfl (.inl rfl) rfl rfl ?_ | refine kl_move rfl rfl (.inr rfl) rfl rfl ?_ | refine kl_const rfl rfl (.inl rfl) rfl ?_ | refine kl_const rfl rfl (.inr rfl) rfl ?_) | ((first | refine kl_step rfl rfl rfl fun K hK => ?_ | refine kl_step0 rfl rfl rfl fun K hK => ?_); go_simp; (try go_bits); (first | refine hK _ _ ?_ | refine hK _ ?_); clear hK K))
  refine kl_call rfl rfl rfl Try.func79 rfl (by kernel_rfl) rfl ?_
  refine Calls.mono (open_full (some ⟨gb, ob + q, none⟩) r r (b.drop q) W HBQ.out (Nat.le_refl _) j9) ?_
  rintro e w2 ⟨vx, rfl, hox, hbx⟩
  refine ⟨_, rfl, ?_⟩
  have hO1 := opened_len (b.drop q)
  have hO2 := opened_err (b.drop q)
  have hO3 := opened_short (b.drop q)
  have hbad := fun h => loadP_bad hlt (by rw [HQ.out]; exact HBL.out) (by rw [HQ.out]; exact h)
  have hnext := fun h => loadP_next hlt (by rw [HQ.out]; exact HBL.out) (by rw [HQ.out]; exact h)
  rw [HQ.out] at hnext
  rw [HBQ.out.len] at hO1
  obtain ⟨O, hO⟩ : ∃ O, opened (b.drop q) = O := ⟨_, rfl⟩
  rw [hO] at hox hO1 hO2 hO3 hbad hnext ⊢
  obtain ⟨x, k, er⟩ := O
  dsimp only at hox hO1 hO2 hO3 hbad hnext ⊢
  clear hO
  have HBAD := Lib.hid hbad
  have HNEXT := Lib.hid hnext
  clear hbad hnext
  obtain ⟨Ax, cx, rfl, hBx, hcx1, hcx2⟩ := own_B hox
  have hTx : TyB w2 Ax := fun b' o' e => own_ty hox (by rw [e]; rfl)
  have HO := Lib.hid (own_below HO.out hbx)
  have HX := Lib.hid (HX.out.below hbx)
  have hbW2 := below_then hbW hbx hbW.size
  by_cases her : er = 0
  case neg =>
    have t2 : ((er : Int) != 0) = true := by rw [bne_iff_ne]; omega
    have hE2 := HBAD.out her
    rw [hE2] at HE
    simp only [List.append_nil] at HE
    clear her hE2 hO1 hO2 hO3
    obtain ⟨A2, c2, rfl, o1, o2, o3, _⟩ := own_slice HO.out
    repeat (first | refine kw_seq ?_ | refine kw_block ?_ | refine kw_skip ?_ | refine kw_region ?_ | refine kl_nil ?_ | refine kq_then ?_ | refine kq_block ?_ | refine kw_exit ?_ | refine kq_then_exit ?_ | refine kq_block_here rfl ?_ | refine kq_block_far rfl ?_ | refine kq_again_exit ?_ | refine kw_ret ?_ | refine kq_then_ret ?_ | refine kq_block_ret ?_ | refine kq_again_ret ?_ | refine kw_ift rfl ?_ | refine kw_iff rfl ?_ | refine kl_ung rfl rfl ?_ | refine kl_skipg rfl rfl rfl rfl ?_ | refine kl_skipg0 rfl rfl rfl ?_ | (first | refine kl_move rfl rfl (.inl rfl) rfl rfl ?_ | refine kl_move rfl rfl (.inr rfl) rfl rfl ?_ | refine kl_const rfl rfl (.inl rfl) rfl ?_ | refine kl_const rfl rfl (.inr rfl) rfl ?_) | ((first | refine kl_step rfl rfl rfl fun K hK => ?_ | refine kl_step0 rfl rfl rfl fun K hK => ?_); go_simp; (try go_bits); (first | refine hK _ _ ?_ | refine hK _ ?_); clear hK K))
    exact kq_ret2 rfl rfl rfl ⟨_, A2, acc.length, c2, _, by rw [HE.out]; rfl, HO.out, by rw [HE.out]; exact HX.out, o1, by simpa [maxLen] using o2, below_then hb hbW2 hb.size⟩
  subst her
  have hlx := hO1 rfl
  have hE2 := HNEXT.out rfl
  rw [hE2] at HE
  clear hE2 hO1 hO2 HNEXT HBAD
  obtain ⟨m, hm⟩ : ∃ m, x.length = m := ⟨_, rfl⟩
  rw [hm] at hBx hcx1 hlx hO3 HE ⊢
  have HM := Lib.hid hm
  have HBX := Lib.hid hBx
  have HTX := Lib.hid hTx
  clear hm hBx hTx hox hbx
  have hmk := makeBytes m (by omega)
  repeat (first | refine kw_seq ?_ | refine kw_block ?_ | refine kw_region ?_ | refine kl_nil ?_ | refine kq_then ?_ | refine kw_iff rfl ?_ | refine kw_skip ?_ | (first | refine kl_move rfl rfl (.inl rfl) rfl rfl ?_ | refine kl_move rfl rfl (.inr rfl) rfl rfl ?_ | refine kl_const rfl rfl (.inl rfl) rfl ?_ | refine kl_const rfl rfl (.inr rfl) rfl ?_) | ((first | refine kl_step rfl rfl rfl fun K hK => ?_ | refine kl_step0 rfl rfl rfl fun K hK => ?_); go_simp; (try go_bits); (first | refine hK _ _ ?_ | refine hK _ ?_); clear hK K))
  clear hmk
  have hcur : (w2.alloc (.cells (bv (List.replicate m 0)).toArray 5)).heap[w2.heap.size]? = some (.cells (bv (List.replicate m 0)).toArray 5 (0, 0)) := heap_alloc_new _ _
  refine kl_copy rfl rfl rfl w2.heap.size 0 m m Ax m cx x rfl rfl (HBX.out.alloc _) (bv (List.replicate m 0)) 5 hcur (by rw [length_bv, List.length_replicate, Nat.min_self]; omega) w2.heap.size w2 ((Below.refl _ _).alloc (Nat.le_refl _) _) (Nat.le_refl _) rfl ?_
  intro w4 hg4 hb4
  have hspl : splice (bv (List.replicate m 0)) 0 (bv (x.take (min m m))) = bv x := by
    rw [Nat.min_self, List.take_of_length_le (by rw [HM.out]; exact Nat.le_refl _)]
    unfold splice
    simp [length_bv, HM.out]
  rw [hspl] at hg4
  have hB4 : Bs w4 (some ⟨w2.heap.size, 0, none⟩) m x := by
    have := Vs.lit (n := m) hg4.out (by simp [bv, HM.out])
    simpa [Bs] using this
  have hT4 : TyB w4 (some ⟨w2.heap.size, 0, none⟩) := fun b' o' e => by injection e with e; injection e with e _; subst e; exact ⟨_, hg4.out⟩
  have HO := Lib.hid (own_below HO.out hb4)
  have HX := Lib.hid ((HX.out.below hb4))
  have hbW4 := below_then hbW2 hb4 hbW2.size
  obtain ⟨gn, hgn⟩ : ∃ gn, w2.heap.size = gn := ⟨_, rfl⟩
  rw [hgn] at hB4 hT4 ⊢
  rw [Nat.min_self]
  clear hcur hspl hg4 hb4 hbW2
  repeat (first | refine kw_seq ?_ | refine kw_region ?_ | refine kl_nil ?_ | refine kq_then ?_ | (first | refine kl_move rfl rfl (.inl rfl) rfl rfl ?_ | refine kl_move rfl rfl (.inr rfl) rfl rfl ?_ | refine kl_const rfl rfl (.inl rfl) rfl ?_ | refine kl_const rfl rfl (.inr rfl) rfl ?_) | ((first | refine kl_step rfl rfl rfl fun K hK => ?_ | refine kl_step0 rfl rfl rfl fun K hK => ?_); go_simp; (try go_bits); (first | refine hK _ _ ?_ | refine hK _ ?_); clear hK K))
  obtain ⟨w5, hw5⟩ : ∃ w5, w5 = w4.alloc (.cells #[.slice (some ⟨gn, 0, none⟩) m m] 27) := ⟨_, rfl⟩
  have hb5 : Below w4.heap.size w4 w5 := by rw [hw5]; exact (Below.refl _ _).alloc (Nat.le_refl _) _
  have hv5 : Vs w5 (some ⟨w4.heap.size, 0, none⟩) 1 [.slice (some ⟨gn, 0, none⟩) m m] := by rw [hw5]; exact Vs.one (cell_new _ _ _ 0 rfl)
  rw [← hw5]
  have HO := Lib.hid (own_below HO.out hb5)
  have HX := Lib.hid (HX.out.below hb5)
  have hB5 := hB4.below hb5
  have hT5 := hT4.below hb5
  have hbW5 := below_then hbW4 hb5 hbW4.size
  clear hw5 hB4 hT4 hbW4 hb5
  refine kl_appendV 101 27 (.slice none 0 0) 24 Try.underlying101 sliceInfo rfl w1.heap.size v acc.length xs HO.out _ 1 1 [.slice (some ⟨gn, 0, none⟩) m m] hv5 (by simp [Value.oneCell']) (by omega) (by omega) hbW5.size rfl rfl rfl rfl rfl rfl ?_
  intro v6 w6 ho6 hg6 _
  have hX6 := (HX.out.grown hg6 HO.out)
  have hB6 : Bs w6 (some ⟨gn, 0, none⟩) m x := hB5.heap fun _ b' o' e => by
    injection e with e; injection e with e _; subst e
    obtain ⟨cs, hc⟩ := hT5 gn 0 rfl
    refine hg6.block gn (Array.getElem?_eq_some_iff.1 hc).1 fun hk => ?_
    obtain ⟨cs', hc'⟩ := own_ty HO.out hk.symm
    rw [hc] at hc'
    injection hc' with hc'
    injection hc' with _ ht _
    exact absurd ht (by decide)
  have hT6 : TyB w6 (some ⟨gn, 0, none⟩) := fun b' o' e => by
    injection e with e; injection e with e _; subst e
    obtain ⟨cs, hc⟩ := hT5 gn 0 rfl
    refine ⟨cs, (hg6.block gn (Array.getElem?_eq_some_iff.1 hc).1 fun hk => ?_).trans hc⟩
    obtain ⟨cs', hc'⟩ := own_ty HO.out hk.symm
    rw [hc] at hc'
    injection hc' with hc'
    injection hc' with _ ht _
    exact absurd ht (by decide)
  have hbW6 := below_append hbW5 hg6 HO.out hbW5.size
  have HX6 := Lib.hid (hX6.snoc hB6 (Nat.le_refl m) (by omega) hT6)
  have HO6 := Lib.hid ho6
  clear hX6 hB6 hT6 ho6 hg6 hbW5 hB5 hT5 hv5 HX HO
  (first | refine kl_move rfl rfl (.inl rfl) rfl rfl ?_ | refine kl_move rfl rfl (.inr rfl) rfl rfl ?_ | refine kl_const rfl rfl (.inl rfl) rfl ?_ | refine kl_const rfl rfl (.inr rfl) rfl ?_)
  refine kl_nil ?_
  refine kq_then ?_
  repeat (first | refine kw_seq ?_ | refine kw_region ?_ | refine kl_nil ?_ | refine kq_then ?_ | (first | refine kl_move rfl rfl (.inl rfl) rfl rfl ?_ | refine kl_move rfl rfl (.inr rfl) rfl rfl ?_ | refine kl_const rfl rfl (.inl rfl) rfl ?_ | refine kl_const rfl rfl (.inr rfl) rfl ?_) | ((first | refine kl_step rfl rfl rfl fun K hK => ?_ | refine kl_step0 rfl rfl rfl fun K hK => ?_); go_simp; (try go_bits); (first | refine hK _ _ ?_ | refine hK _ ?_); clear hK K))
  refine kl_call rfl rfl rfl Try.func57 rfl (by kernel_rfl) rfl ?_
  refine Calls.mono (pages_all (m : Int) w6 (by omega)) ?_
  rintro e _ ⟨rfl, rfl⟩
  refine ⟨_, rfl, ?_⟩
  rw [pagesI_nat m hO3]
  have hpg := pagesN_ge m
  have hpl := pagesN_lt m
  have hp1 := pagesN_pos m
  obtain ⟨G, hG⟩ : ∃ G, pagesN m = G := ⟨_, rfl⟩
  rw [hG] at HE hpg hpl hp1 ⊢
  have hq := HQ.out
  have hr := HRR.out
  obtain ⟨p2, hp2⟩ : ∃ p2, p + G = p2 := ⟨_, rfl⟩
  have hp3 : p2 ≤ 64 := by omega
  have i3 : (p : Int) + (G : Int) = (p2 : Int) := by omega
  have i4 : IntKind.i64.wrap ((p : Int) + (G : Int)) = (p2 : Int) := by rw [i3, IntWalk.i64_in _ (by omega)]
  rw [hp2] at HE
  have HP := Lib.hid (show p < p2 from by omega)
  clear hG hpg hpl hp1 hq hr hp2 hlx hO3
  repeat (first | (first | refine kl_move rfl rfl (.inl rfl) rfl rfl ?_ | refine kl_move rfl rfl (.inr rfl) rfl rfl ?_ | refine kl_const rfl rfl (.inl rfl) rfl ?_ | refine kl_const rfl rfl (.inr rfl) rfl ?_) | ((first | refine kl_step rfl rfl rfl fun K hK => ?_ | refine kl_step0 rfl rfl rfl fun K hK => ?_); go_simp; (try go_bits); (first | refine hK _ _ ?_ | refine hK _ ?_); clear hK K))
  refine kl_nil ?_
  refine kq_block ?_
  have hp4 := HP.out
  refine kq_again (64 - p2) [4, 5, 6] (by omega) ?_
  exact ⟨p2, acc ++ [x], v6, xs ++ [.slice (some ⟨gn, 0, none⟩) m m], hp3, rfl, by simp; omega, hbW6, by rw [List.length_append]; exact HO6, HX6, by show _ = _; rw [HE.out]; simp, rfl⟩
theorem load_any (Q : Nat → Prop) (g : Nat) (f : FlashSt) (s : Int) (w : World) (h : FS Q w g f) :
    Calls Try.prog 55 #[.pointer (some ⟨g, 0, none⟩), .int .i64 s] w (LoadP (readF f s) w) :=
  Calls.mono (load_anyT Q g f s w h) fun e w' ⟨B0, A, n, c, xs, h1, h2, h3, h4, h5, h6⟩ => by
    obtain ⟨A', c', he, _, _, hv, _⟩ := own_slice h2
    injection he with e1 _ e3
    subst e1
    exact ⟨A, n, c, h1, h3.ps hv, h4, h5, h6⟩
end Go.Proofs.Ytcpifcdndhhmgaa
