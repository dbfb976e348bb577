/- ShaTwice: the walk. -/
import Derived.Test.YtkjfejkikejnhaaShaEq
import Derived.Test.YtkjfejkikejnhaaShaRef
import Derived.Test.YtkjfejkikejnhaaFill
namespace Go.Proofs.Ytkjfejkikejnhaa
open Go.RowKit
attribute [local go_sem] ev_tmp ev_const ev_func ev_global lk_hit lk_miss uponK_value uponK_skip look_tmp look_const look_global look_func
theorem hashInfo3 : (Try.prog.info? 24).map (fun i => (i.zero, i.size, i.bytes)) = some (some (.agg (bv z32).toArray), 32, 32) := by
  have h1 := hashZero
  have h2 : (Try.prog.info? 24).map (fun i => (i.size, i.bytes)) = some (32, 32) := by kernel_rfl
  cases hi : Try.prog.info? 24 with
  | none => rw [hi] at h1; simp at h1
  | some i =>
    rw [hi] at h1 h2
    simp only [Option.bind_some, Option.map_some, Option.some.injEq, Prod.mk.injEq] at h1 h2
    simp only [Option.map_some, h1, h2.1, h2.2]
def shas (ls : List (List UInt8)) : List Value := ls.flatMap fun l => bv (sha l)
theorem length_shas (ls : List (List UInt8)) : (shas ls).length = 32 * ls.length := by
  induction ls with
  | nil => rfl
  | cons l ls ih => simp only [shas, List.flatMap_cons, List.length_append, List.length_cons] at ih ⊢; rw [ih, length_bv, length_sha]; omega
theorem shas_snoc (ls : List (List UInt8)) (l : List UInt8) : shas (ls ++ [l]) = shas ls ++ bv (sha l) := by simp [shas]
theorem shas_get (ls : List (List UInt8)) : ∀ (i : Nat) (l : List UInt8), ls[i]? = some l → ∀ (j : Nat) (u : Value), (bv (sha l))[j]? = some u → (shas ls)[i * 32 + j]? = some u := by
  induction ls with
  | nil => intro i l h; simp at h
  | cons x ls ih =>
    intro i l h j u hu
    have hx : (bv (sha x)).length = 32 := by rw [length_bv, length_sha]
    cases i with
    | zero =>
      simp at h
      subst h
      simp only [shas, List.flatMap_cons]
      rw [List.getElem?_append_left (by have := (List.getElem?_eq_some_iff.1 hu).1; omega), Nat.zero_mul, Nat.zero_add]
      exact hu
    | succ i =>
      simp at h
      simp only [shas, List.flatMap_cons]
      rw [List.getElem?_append_right (by omega), hx, show (i + 1) * 32 + j - 32 = i * 32 + j by omega]
      exact ih i l h j u hu
set_option maxRecDepth 100000 in
set_option maxHeartbeats 2000000 in
theorem twice_back {Q : Exit → Act → World → Prop} {A A3 : Option Addr} {n c k c3 B : Nat} {ls : List (List UInt8)} {w wr : World} (hA : Ps w A n ls) (hnc : n ≤ c) (hc : c ≤ 140737488351232) (hkk : Hid (∀ i, i < k → ∃ l, ls[i]? = some l ∧ l.length ≤ 300)) (hk10 : k ≤ 10)
    (hb : Below w.heap.size w wr) (hsz : B ≤ wr.heap.size) (hwB : w.heap.size ≤ B) (p1 : k ≤ c3) (p2 : c3 ≤ 9223372036854775807) (hown : wr.ownsRow B 24 32 (.slice A3 k c3) k (shas (ls.take k)))
    (hQ : ∀ wr', Below w.heap.size w wr' → KQ Q .normal 78 [(0, .slice A n c)] wr') : KW Try.prog (blockOf Try.f5 2) Q 78 [(0, .slice A n c), (3, .slice A3 k c3), (5, .int .i64 ((k : Int) - 1))] wr := by
  conv => arg 2; whnf
  have HQ := Lib.hid hQ
  clear hQ
  refine kw_block ?_
  refine kw_loop (fun m L wr => ∃ j, j ≤ k ∧ m = j ∧ Below w.heap.size w wr ∧ B ≤ wr.heap.size ∧ wr.ownsRow B 24 32 (.slice A3 k c3) k (shas (ls.take k)) ∧ L = [(0, .slice A n c), (3, .slice A3 k c3), (5, .int .i64 ((j : Int) - 1))]) ⟨k, by omega, rfl, hb, hsz, hown, rfl⟩ ?_
  clear hb hsz hown wr
  rintro j L wr ⟨_, hjk, rfl, hb, hsz, hown, rfl⟩
  by_cases hj : 0 < j
  case neg =>
    obtain rfl : j = 0 := by omega
    rw [show ((0 : Nat) : Int) - 1 = -1 by omega]
    clear hown
    repeat (first | refine kw_seq ?_ | refine kw_block ?_ | refine kw_skip ?_ | refine kw_region ?_ | refine kl_nil ?_ | refine kq_then ?_ | refine kq_block ?_ | refine kw_exit ?_ | refine kq_then_exit ?_ | refine kq_block_here rfl ?_ | refine kq_block_far rfl ?_ | refine kq_again_exit ?_ | refine kw_ret ?_ | refine kq_then_ret ?_ | refine kq_block_ret ?_ | refine kq_again_ret ?_ | refine kw_ift rfl ?_ | refine kw_iff rfl ?_ | refine kl_ung rfl rfl ?_ | refine kl_skipg rfl rfl rfl rfl ?_ | refine kl_skipg0 rfl rfl rfl ?_ | (first | refine kl_move rfl rfl (.inl rfl) rfl rfl ?_ | refine kl_move rfl rfl (.inr rfl) rfl rfl ?_ | refine kl_const rfl rfl (.inl rfl) rfl ?_ | refine kl_const rfl rfl (.inr rfl) rfl ?_) | ((first | refine kl_step rfl rfl rfl fun K hK => ?_ | refine kl_step0 rfl rfl rfl fun K hK => ?_); go_simp; (try go_bits); (first | refine hK _ _ ?_ | refine hK _ ?_); clear hK K))
    refine KQ.less [0] ?_
    simp only [nrm, lk, Nat.reduceBEq, cond_true, cond_false]
    exact HQ.out _ hb
  obtain ⟨i, rfl⟩ : ∃ i, j = i + 1 := ⟨j - 1, by omega⟩
  rw [show ((i + 1 : Nat) : Int) - 1 = i by omega]
  obtain ⟨l, hl, hl300⟩ := hkk.out i (by omega)
  have hik : i < k := by omega
  have hlen := hA.len
  have hin : i < n := by have := (List.getElem?_eq_some_iff.1 hl).1; omega
  obtain ⟨b', o', Bl, m, c', l', rfl, hcell, hBl0, hm, hc', hnx, hgt⟩ := hA.next hin
  obtain rfl : l' = l := by have := hgt.out; rw [hl] at this; injection this with this; exact this.symm
  have hcell' := Keeps.of_below hb _ _ hcell
  have hBl := hBl0.keep (.of_below hb)
  obtain ⟨g3, rfl⟩ : ∃ g3, A3 = some ⟨g3, 0, none⟩ := by
    rcases hown.2 with ⟨h1, h2⟩ | ⟨g, cap, cur, h1, _⟩
    · omega
    · injection h1 with h1; exact ⟨g, h1⟩
  have hrange : wr.rangeAt g3 (i * 32) (bv (sha l')) := own_mid hown i _ (fun j u hu => shas_get _ i l' (by rw [List.getElem?_take, if_pos hik]; exact hl) j u hu)
  have hml : m ≤ 300 := by rw [← hBl.len]; exact hl300
  have HR := Lib.hid hrange
  have HL3 := Lib.hid hl300
  have HOWN := Lib.hid hown
  have i0 : (0 : Int) ≤ i := by omega
  have i1 : (i : Int) < k := by omega
  have i2 : (i : Int) < n := by omega
  have hcv := convB (c := c') hBl
  have he := fun W => eqSame W l'
  clear hl hl300 hlen hcell hBl0 hrange hown hnx hgt hj
  repeat (first | refine kw_seq ?_ | refine kw_block ?_ | refine kw_skip ?_ | refine kw_region ?_ | refine kl_nil ?_ | refine kq_then ?_ | refine kq_block ?_ | refine kw_exit ?_ | refine kq_then_exit ?_ | refine kq_block_here rfl ?_ | refine kq_block_far rfl ?_ | refine kq_again_exit ?_ | refine kw_ret ?_ | refine kq_then_ret ?_ | refine kq_block_ret ?_ | refine kq_again_ret ?_ | refine kw_ift rfl ?_ | refine kw_iff rfl ?_ | refine kl_ung rfl rfl ?_ | refine kl_skipg rfl rfl rfl rfl ?_ | refine kl_skipg0 rfl rfl rfl ?_ | (first | refine kl_move rfl rfl (.inl rfl) rfl rfl ?_ | refine kl_move rfl rfl (.inr rfl) rfl rfl ?_ | refine kl_const rfl rfl (.inl rfl) rfl ?_ | refine kl_const rfl rfl (.inr rfl) rfl ?_) | ((first | refine kl_step rfl rfl rfl fun K hK => ?_ | refine kl_step0 rfl rfl rfl fun K hK => ?_); go_simp; (try go_bits); (first | refine hK _ _ ?_ | refine hK _ ?_); clear hK K))
  clear hcv
  refine KW.less [0, 3, 5, 6] ?_
  simp only [nrm, lk, Nat.reduceBEq, cond_true, cond_false]
  refine kw_region_x [none, none, none, none, some (PsIs 1 [l']), none, none, none, none, none, none, none, none, none, none, none, none, none, none, none, none, none, none, none, none, none, none, none, none, none, none, none]
    [[(0, none)], [(5, none)], [(46, some 0), (47, some 1)], [(48, some 2)], [(49, some 3)], [(50, some 4)], [(3, none)], [(5, none)], [(52, some 6), (53, some 7)], [(54, some 8)], [(51, some 5), (55, some 9)], [(56, some 10)], [(57, some 11), (3, none)], [(57, some 11), (5, none)], [(57, some 11), (58, some 12), (59, some 13)], [(57, some 11), (60, some 14)], [(57, some 11), (0, none)], [(57, some 11), (5, none)], [(57, some 11), (62, some 16), (63, some 17)], [(57, some 11), (64, some 18)], [(57, some 11), (65, some 19)], [(57, some 11), (61, some 15), (66, some 20)], [(57, some 11), (67, some 21)], [(68, some 22)], [(69, some 23), (0, none)], [(69, some 23), (5, none)], [(69, some 23), (70, some 24), (71, some 25)], [(69, some 23), (72, some 26)], [(69, some 23), (73, some 27)], [(69, some 23), (6, none)], [(69, some 23), (74, some 28), (75, some 29)], [(69, some 23), (76, some 30)]]
    [0, 3, 5, 6] (by kernel_rfl) (by kernel_rfl) (by kernel_rfl) (by kernel_rfl)
    ⟨mono_psIs _ _, trivial⟩ ?_
  repeat (first | apply exs_none | apply exs_some)
  refine exs_nil (And.intro ?v1_vc ?v1_fin)
  case v1_vc =>
    refine ⟨?_, ?_, ?_, ?_, ?_, ?_, ?_, ?_, ?_, ?_, ?_, ?_, ?_, ?_, ?_, ?_, ?_, ?_, ?_, ?_, ?_, ?_, ?_, ?_, ?_, ?_, ?_, ?_, ?_, ?_, ?_, ?_, trivial⟩
    · exact vk_mov rfl (.inl rfl) fun A W _ h => h.1 _ rfl
    · exact vk_mov rfl (.inl rfl) fun A W _ h => h.1 _ rfl
    · refine vk_none rfl fun A W hR h N hN => ?_
      refine vk_of N ?_
      obtain ⟨h46, h47, _⟩ := h
      replace h46 : A.tmps[46]?.getD undef = _ := h46
      replace h47 : A.tmps[47]?.getD undef = _ := h47
      go_simp
      (try go_bits)
      exact hN _ _ (Below.refl _ _) rfl
    · refine vk_none rfl fun A W hR h N hN => ?_
      refine vk_of N ?_
      obtain ⟨h48, _⟩ := h
      replace h48 : A.tmps[48]?.getD undef = _ := h48
      have hcell' := Keeps.of_below hR _ _ hcell'
      go_simp
      (try go_bits)
      exact hN _ _ (Below.refl _ _) rfl
    · refine vk_none rfl fun A W hR h N hN => ?_
      refine vk_of N ?_
      obtain ⟨h49, _⟩ := h
      replace h49 : A.tmps[49]?.getD undef = _ := h49
      go_simp
      (try go_bits)
      exact hN _ _ ((Below.refl _ _).alloc (Nat.le_refl _) _) ⟨_, rfl, Ps.lit1 _ rfl (hBl.keep (.of_below hR)) (by omega) (by omega)⟩
    · refine vk_call rfl rfl Try.func10 rfl (by kernel_rfl) fun A W hR h => ?_
      obtain ⟨h50, _⟩ := h
      obtain ⟨g, h50, hPg⟩ := h50
      show Calls _ _ #[A.tmps[50]?.getD undef] _ _
      rw [h50]
      refine Calls.mono (shaSum_any _ 1 1 [l'] _ hPg (by omega) (by have := HL3.out; simp; omega)) ?_
      rw [show ([l'] : List (List UInt8)).flatten = l' by simp]
      rintro e W' ⟨rfl, hb'⟩
      exact ⟨_, rfl, hb', rfl⟩
    · exact vk_mov rfl (.inl rfl) fun A W _ h => h.1 _ rfl
    · exact vk_mov rfl (.inl rfl) fun A W _ h => h.1 _ rfl
    · refine vk_none rfl fun A W hR h N hN => ?_
      refine vk_of N ?_
      obtain ⟨h52, h53, _⟩ := h
      replace h52 : A.tmps[52]?.getD undef = _ := h52
      replace h53 : A.tmps[53]?.getD undef = _ := h53
      go_simp
      (try go_bits)
      exact hN _ _ (Below.refl _ _) rfl
    · refine vk_none rfl fun A W hR h N hN => ?_
      refine vk_of N ?_
      obtain ⟨h54, _⟩ := h
      replace h54 : A.tmps[54]?.getD undef = _ := h54
      rw [run_loadMid (b := g3) (off := i * 32) 24 (.tmp 54) rfl h54 (bv (sha l')) _ (rangeAt_below HR.out hR) hashUnder rfl (by rw [hashInfo, length_bv, length_sha])]
      exact hN _ _ (Below.refl _ _) rfl
    · refine vk_none rfl fun A W hR h N hN => ?_
      refine vk_of N ?_
      obtain ⟨h51, h55, _⟩ := h
      replace h51 : A.tmps[51]?.getD undef = _ := h51
      replace h55 : A.tmps[55]?.getD undef = _ := h55
      go_simp
      (try go_bits)
      exact hN _ _ (Below.refl _ _) rfl
    · exact vk_mov rfl (.inl rfl) fun A W _ h => h.1
    · refine vk_yes rfl rfl (fun A W _ h => h.1) fun A W hR h N hN => ?_
      refine vk_of N ?_
      obtain ⟨h57, h3, _⟩ := h
      replace h57 : A.tmps[57]?.getD undef = _ := h57
      replace h3 := h3 _ rfl
      go_simp
      (try go_bits)
      exact hN _ _ (Below.refl _ _) rfl
    · refine vk_yes rfl rfl (fun A W _ h => h.1) fun A W hR h N hN => ?_
      refine vk_of N ?_
      obtain ⟨h57, h5, _⟩ := h
      replace h57 : A.tmps[57]?.getD undef = _ := h57
      replace h5 := h5 _ rfl
      go_simp
      (try go_bits)
      exact hN _ _ (Below.refl _ _) rfl
    · refine vk_yes rfl rfl (fun A W _ h => h.1) fun A W hR h N hN => ?_
      refine vk_of N ?_
      obtain ⟨h57, h58, h59, _⟩ := h
      replace h57 : A.tmps[57]?.getD undef = _ := h57
      replace h58 : A.tmps[58]?.getD undef = _ := h58
      replace h59 : A.tmps[59]?.getD undef = _ := h59
      go_simp
      (try go_bits)
      exact hN _ _ (Below.refl _ _) rfl
    · refine vk_yes rfl rfl (fun A W _ h => h.1) fun A W hR h N hN => ?_
      refine vk_of N ?_
      obtain ⟨h57, h60, _⟩ := h
      replace h57 : A.tmps[57]?.getD undef = _ := h57
      replace h60 : A.tmps[60]?.getD undef = _ := h60
      rw [run_loadMid (b := g3) (off := i * 32) 24 (.tmp 60) rfl h60 (bv (sha l')) _ (rangeAt_below HR.out hR) hashUnder rfl (by rw [hashInfo, length_bv, length_sha])]
      exact hN _ _ (Below.refl _ _) rfl
    · refine vk_yes rfl rfl (fun A W _ h => h.1) fun A W hR h N hN => ?_
      refine vk_of N ?_
      obtain ⟨h57, h0, _⟩ := h
      replace h57 : A.tmps[57]?.getD undef = _ := h57
      replace h0 := h0 _ rfl
      go_simp
      (try go_bits)
      exact hN _ _ (Below.refl _ _) rfl
    · refine vk_yes rfl rfl (fun A W _ h => h.1) fun A W hR h N hN => ?_
      refine vk_of N ?_
      obtain ⟨h57, h5, _⟩ := h
      replace h57 : A.tmps[57]?.getD undef = _ := h57
      replace h5 := h5 _ rfl
      go_simp
      (try go_bits)
      exact hN _ _ (Below.refl _ _) rfl
    · refine vk_yes rfl rfl (fun A W _ h => h.1) fun A W hR h N hN => ?_
      refine vk_of N ?_
      obtain ⟨h57, h62, h63, _⟩ := h
      replace h57 : A.tmps[57]?.getD undef = _ := h57
      replace h62 : A.tmps[62]?.getD undef = _ := h62
      replace h63 : A.tmps[63]?.getD undef = _ := h63
      go_simp
      (try go_bits)
      exact hN _ _ (Below.refl _ _) rfl
    · refine vk_yes rfl rfl (fun A W _ h => h.1) fun A W hR h N hN => ?_
      refine vk_of N ?_
      obtain ⟨h57, h64, _⟩ := h
      replace h57 : A.tmps[57]?.getD undef = _ := h57
      replace h64 : A.tmps[64]?.getD undef = _ := h64
      have hcell' := Keeps.of_below hR _ _ hcell'
      go_simp
      (try go_bits)
      exact hN _ _ (Below.refl _ _) rfl
    · refine vk_callg rfl rfl (fun A W _ h => h.1) rfl Try.func11 rfl (by kernel_rfl) fun A W hR h => ?_
      obtain ⟨h57, h65, _⟩ := h
      replace h57 : A.tmps[57]?.getD undef = _ := h57
      replace h65 : A.tmps[65]?.getD undef = _ := h65
      show Calls _ _ #[A.tmps[65]?.getD undef] _ _
      rw [h65]
      refine Calls.mono (refSha_any _ _ _ l' _ (hBl.keep (.of_below hR)) (by omega)) ?_
      rintro e W' ⟨rfl, hb'⟩
      exact ⟨_, rfl, hb', rfl⟩
    · refine vk_yes rfl rfl (fun A W _ h => h.1) fun A W hR h N hN => ?_
      refine vk_of N ?_
      obtain ⟨h57, h61, h66, _⟩ := h
      replace h57 : A.tmps[57]?.getD undef = _ := h57
      replace h61 : A.tmps[61]?.getD undef = _ := h61
      replace h66 : A.tmps[66]?.getD undef = _ := h66
      go_simp
      (try go_bits)
      exact hN _ _ (Below.refl _ _) rfl
    · refine vk_none rfl fun A W hR h N hN => ?_
      refine vk_of N ?_
      obtain ⟨h57, h67, _⟩ := h
      replace h57 : A.tmps[57]?.getD undef = _ := h57
      replace h67 : A.tmps[67]?.getD undef = _ := h67
      go_simp
      (try go_bits)
      exact hN _ _ (Below.refl _ _) rfl
    · exact vk_mov rfl (.inl rfl) fun A W _ h => h.1
    · refine vk_yes rfl rfl (fun A W _ h => h.1) fun A W hR h N hN => ?_
      refine vk_of N ?_
      obtain ⟨h69, h0, _⟩ := h
      replace h69 : A.tmps[69]?.getD undef = _ := h69
      replace h0 := h0 _ rfl
      go_simp
      (try go_bits)
      exact hN _ _ (Below.refl _ _) rfl
    · refine vk_yes rfl rfl (fun A W _ h => h.1) fun A W hR h N hN => ?_
      refine vk_of N ?_
      obtain ⟨h69, h5, _⟩ := h
      replace h69 : A.tmps[69]?.getD undef = _ := h69
      replace h5 := h5 _ rfl
      go_simp
      (try go_bits)
      exact hN _ _ (Below.refl _ _) rfl
    · refine vk_yes rfl rfl (fun A W _ h => h.1) fun A W hR h N hN => ?_
      refine vk_of N ?_
      obtain ⟨h69, h70, h71, _⟩ := h
      replace h69 : A.tmps[69]?.getD undef = _ := h69
      replace h70 : A.tmps[70]?.getD undef = _ := h70
      replace h71 : A.tmps[71]?.getD undef = _ := h71
      go_simp
      (try go_bits)
      exact hN _ _ (Below.refl _ _) rfl
    · refine vk_yes rfl rfl (fun A W _ h => h.1) fun A W hR h N hN => ?_
      refine vk_of N ?_
      obtain ⟨h69, h72, _⟩ := h
      replace h69 : A.tmps[69]?.getD undef = _ := h69
      replace h72 : A.tmps[72]?.getD undef = _ := h72
      have hcell' := Keeps.of_below hR _ _ hcell'
      go_simp
      (try go_bits)
      exact hN _ _ (Below.refl _ _) rfl
    · refine vk_yes rfl rfl (fun A W _ h => h.1) fun A W hR h N hN => ?_
      refine vk_of N ?_
      obtain ⟨h69, h73, _⟩ := h
      replace h69 : A.tmps[69]?.getD undef = _ := h69
      replace h73 : A.tmps[73]?.getD undef = _ := h73
      have hcv := convB (c := c') (hBl.keep (.of_below hR))
      go_simp
      (try go_bits)
      exact hN _ _ (Below.refl _ _) rfl
    · refine vk_yes rfl rfl (fun A W _ h => h.1) fun A W hR h N hN => ?_
      refine vk_of N ?_
      obtain ⟨h69, h6, _⟩ := h
      replace h69 : A.tmps[69]?.getD undef = _ := h69
      replace h6 := h6 _ rfl
      go_simp
      (try go_bits)
      exact hN _ _ (Below.refl _ _) rfl
    · refine vk_yes rfl rfl (fun A W _ h => h.1) fun A W hR h N hN => ?_
      refine vk_of N ?_
      obtain ⟨h69, h74, h75, _⟩ := h
      replace h69 : A.tmps[69]?.getD undef = _ := h69
      replace h74 : A.tmps[74]?.getD undef = _ := h74
      replace h75 : A.tmps[75]?.getD undef = _ := h75
      go_simp
      (try go_bits)
      exact hN _ _ (Below.refl _ _) rfl
    · refine vk_none rfl fun A W hR h N hN => ?_
      refine vk_of N ?_
      obtain ⟨h69, h76, _⟩ := h
      replace h69 : A.tmps[69]?.getD undef = _ := h69
      replace h76 : A.tmps[76]?.getD undef = _ := h76
      go_simp
      (try go_bits)
      exact hN _ _ (Below.refl _ _) rfl
  case v1_fin =>
    intro fa fW fk hR he
    have e31 := he.2.2.2.2.2.2.2.2.2.2.2.2.2.2.2.2.2.2.2.2.2.2.2.2.2.2.2.2.2.2.2.1
    clear he
    replace e31 : fa.tmps[77]?.getD undef = _ := e31
    replace fk := fk.more 77 _ e31
    clear e31
    have hb := below_then hb hR hb.size
    have hown := own_below HOWN.out hR
    have hsz := Nat.le_trans hsz hR.size
    have HOWN := Lib.hid hown
    clear hown hR HR hcell' 
    refine kq_of _ _ ?_ fk
    clear fk fa
    simp only [nrm, lk, Nat.reduceBEq, cond_true, cond_false, List.take_succ_cons, List.take_zero, List.drop_succ_cons, List.drop_zero]
    repeat (first | refine kw_seq ?_ | refine kw_block ?_ | refine kw_skip ?_ | refine kw_region ?_ | refine kl_nil ?_ | refine kq_then ?_ | refine kq_block ?_ | refine kw_exit ?_ | refine kq_then_exit ?_ | refine kq_block_here rfl ?_ | refine kq_block_far rfl ?_ | refine kq_again_exit ?_ | refine kw_ret ?_ | refine kq_then_ret ?_ | refine kq_block_ret ?_ | refine kq_again_ret ?_ | refine kw_ift rfl ?_ | refine kw_iff rfl ?_ | refine kl_ung rfl rfl ?_ | refine kl_skipg rfl rfl rfl rfl ?_ | refine kl_skipg0 rfl rfl rfl ?_ | (first | refine kl_move rfl rfl (.inl rfl) rfl rfl ?_ | refine kl_move rfl rfl (.inr rfl) rfl rfl ?_ | refine kl_const rfl rfl (.inl rfl) rfl ?_ | refine kl_const rfl rfl (.inr rfl) rfl ?_) | ((first | refine kl_step rfl rfl rfl fun K hK => ?_ | refine kl_step0 rfl rfl rfl fun K hK => ?_); go_simp; (try go_bits); (first | refine hK _ _ ?_ | refine hK _ ?_); clear hK K))
    refine kq_again i [0, 3, 5] (by omega) ?_
    simp only [nrm, lk, Nat.reduceBEq, cond_true, cond_false]
    exact ⟨i, by omega, rfl, hb, hsz, HOWN.out, by congr 1⟩
set_option maxRecDepth 100000 in
set_option maxHeartbeats 4000000 in
theorem shaTwice_top (A : Option Addr) (n c : Nat) (ls : List (List UInt8)) (w : World) (hA : Ps w A n ls) (hnc : n ≤ c) (hc : c ≤ 140737488351232) :
    Calls Try.prog 5 #[.slice A n c] w fun e w' => e = .returned (.bool true) ∧ Below w.heap.size w w' := by
  have HN := Lib.hid hA.len
  refine calls_kw Try.func5 rfl Try.ntmps5 rfl [(0, .slice A n c)] rfl ?_
  repeat (first | refine kw_seq ?_ | refine kw_block ?_ | refine kw_skip ?_ | refine kw_region ?_ | refine kl_nil ?_ | refine kq_then ?_ | refine kq_block ?_ | refine kw_exit ?_ | refine kq_then_exit ?_ | refine kq_block_here rfl ?_ | refine kq_block_far rfl ?_ | refine kq_again_exit ?_ | refine kw_ret ?_ | refine kq_then_ret ?_ | refine kq_block_ret ?_ | refine kq_again_ret ?_ | refine kw_ift rfl ?_ | refine kw_iff rfl ?_ | refine kl_ung rfl rfl ?_ | refine kl_skipg rfl rfl rfl rfl ?_ | refine kl_skipg0 rfl rfl rfl ?_ | (first | refine kl_move rfl rfl (.inl rfl) rfl rfl ?_ | refine kl_move rfl rfl (.inr rfl) rfl rfl ?_ | refine kl_const rfl rfl (.inl rfl) rfl ?_ | refine kl_const rfl rfl (.inr rfl) rfl ?_) | ((first | refine kl_step rfl rfl rfl fun K hK => ?_ | refine kl_step0 rfl rfl rfl fun K hK => ?_); go_simp; (try go_bits); (first | refine hK _ _ ?_ | refine hK _ ?_); clear hK K))
  refine kl_call rfl rfl rfl Try.func8 rfl (by kernel_rfl) rfl ?_
  refine Calls.mono (known_any _) ?_
  rintro e w1 ⟨rfl, hb1⟩
  refine ⟨_, rfl, ?_⟩
  repeat (first | refine kw_seq ?_ | refine kw_skip ?_ | refine kw_region ?_ | refine kl_nil ?_ | refine kq_then ?_ | refine kq_block ?_ | refine kw_exit ?_ | refine kq_then_exit ?_ | refine kq_block_here rfl ?_ | refine kq_block_far rfl ?_ | refine kq_again_exit ?_ | refine kw_ret ?_ | refine kq_then_ret ?_ | refine kq_block_ret ?_ | refine kq_again_ret ?_ | refine kw_ift rfl ?_ | refine kw_iff rfl ?_ | refine kl_ung rfl rfl ?_ | refine kl_skipg rfl rfl rfl rfl ?_ | refine kl_skipg0 rfl rfl rfl ?_ | (first | refine kl_move rfl rfl (.inl rfl) rfl rfl ?_ | refine kl_move rfl rfl (.inr rfl) rfl rfl ?_ | refine kl_const rfl rfl (.inl rfl) rfl ?_ | refine kl_const rfl rfl (.inr rfl) rfl ?_) | ((first | refine kl_step rfl rfl rfl fun K hK => ?_ | refine kl_step0 rfl rfl rfl fun K hK => ?_); go_simp; (try go_bits); (first | refine hK _ _ ?_ | refine hK _ ?_); clear hK K))
  refine KW.less [0, 3, 4] ?_
  simp only [nrm, lk, Nat.reduceBEq, cond_true, cond_false]
  refine kw_block ?_
  refine kw_loop (fun m L wr => ∃ (k : Nat) (v : Value), k ≤ n ∧ k ≤ 10 ∧ m = n - k ∧ Hid (∀ l ∈ ls.take k, l.length ≤ 300) ∧ wr.ownsRow w1.heap.size 24 32 v k (shas (ls.take k)) ∧ Below w1.heap.size w1 wr ∧
    L = [(0, .slice A n c), (3, v), (4, .int .i64 (k : Int))]) ⟨0, _, by omega, by omega, rfl, by intro l h; simp at h, World.ownsRow_nil w1 _ _ _, Below.refl _ _, rfl⟩ ?_
  have hA1 := hA.keep (.of_below hb1)
  rintro m L wr ⟨k, v, hk, hk10, rfl, h300, hown, hb, rfl⟩
  have hsz := hb.size
  have ex : ∃ A3 c3, v = .slice A3 k c3 ∧ k ≤ c3 ∧ c3 ≤ 9223372036854775807 := by
    rcases hown.2 with ⟨h1, h2⟩ | ⟨g, cap, cur, h1, _, _, h2, h3, _⟩
    · subst h2; exact ⟨none, 0, h1, by omega, by omega⟩
    · exact ⟨_, cap, h1, h2, by simpa [maxLen] using h3⟩
  obtain ⟨A3, c3, rfl, p1, p2⟩ := ex
  have hcase : k < n ∧ k < 10 ∨ ¬ (k < n ∧ k < 10) := by omega
  rcases hcase with ⟨hlt, hlt10⟩ | hend
  · have hk1 : (k : Int) < n := by omega
    have hk0 : (0 : Int) ≤ k := by omega
    have d0 : decide ((k : Int) < n) = true := by rw [decide_eq_true_eq]; exact hk1
    have hk2 : (k : Int) < 10 := by omega
    obtain ⟨b', o', B, m, c', l, rfl, hcell, hBl, hm, hc', hnx, hgt⟩ := hA1.next hlt
    have hcell' := Keeps.of_below hb _ _ hcell
    have hBl' := hBl.keep (.of_below hb)
    clear hcell
    by_cases hm2 : 300 < m
    · have d1 : decide ((300 : Int) < m) = true := by rw [decide_eq_true_eq]; omega
      repeat (first | refine kw_seq ?_ | refine kw_block ?_ | refine kw_skip ?_ | refine kw_region ?_ | refine kl_nil ?_ | refine kq_then ?_ | refine kq_block ?_ | refine kw_exit ?_ | refine kq_then_exit ?_ | refine kq_block_here rfl ?_ | refine kq_block_far rfl ?_ | refine kq_again_exit ?_ | refine kw_ret ?_ | refine kq_then_ret ?_ | refine kq_block_ret ?_ | refine kq_again_ret ?_ | refine kw_ift rfl ?_ | refine kw_iff rfl ?_ | refine kl_ung rfl rfl ?_ | refine kl_skipg rfl rfl rfl rfl ?_ | refine kl_skipg0 rfl rfl rfl ?_ | (first | refine kl_move rfl rfl (.inl rfl) rfl rfl ?_ | refine kl_move rfl rfl (.inr rfl) rfl rfl ?_ | refine kl_const rfl rfl (.inl rfl) rfl ?_ | refine kl_const rfl rfl (.inr rfl) rfl ?_) | ((first | refine kl_step rfl rfl rfl fun K hK => ?_ | refine kl_step0 rfl rfl rfl fun K hK => ?_); go_simp; (try go_bits); (first | refine hK _ _ ?_ | refine hK _ ?_); clear hK K))
      exact kq_ret1 rfl rfl ⟨rfl, below_then hb1 hb hb1.size⟩
    have d1 : decide ((300 : Int) < m) = false := by rw [decide_eq_false_iff_not]; omega
    have hll : Hid (l.length ≤ 300) := by show l.length ≤ 300; rw [hBl.len]; omega
    repeat (first | refine kw_seq ?_ | refine kw_block ?_ | refine kw_skip ?_ | refine kw_region ?_ | refine kl_nil ?_ | refine kq_then ?_ | refine kq_block ?_ | refine kw_exit ?_ | refine kq_then_exit ?_ | refine kq_block_here rfl ?_ | refine kq_block_far rfl ?_ | refine kq_again_exit ?_ | refine kw_ret ?_ | refine kq_then_ret ?_ | refine kq_block_ret ?_ | refine kq_again_ret ?_ | refine kw_ift rfl ?_ | refine kw_iff rfl ?_ | refine kl_ung rfl rfl ?_ | refine kl_skipg rfl rfl rfl rfl ?_ | refine kl_skipg0 rfl rfl rfl ?_ | (first | refine kl_move rfl rfl (.inl rfl) rfl rfl ?_ | refine kl_move rfl rfl (.inr rfl) rfl rfl ?_ | refine kl_const rfl rfl (.inl rfl) rfl ?_ | refine kl_const rfl rfl (.inr rfl) rfl ?_) | ((first | refine kl_step rfl rfl rfl fun K hK => ?_ | refine kl_step0 rfl rfl rfl fun K hK => ?_); go_simp; (try go_bits); (first | refine hK _ _ ?_ | refine hK _ ?_); clear hK K))
    refine kl_call rfl rfl rfl Try.func10 rfl (by kernel_rfl) rfl ?_
    refine Calls.mono (shaSum_any _ 1 1 [l] _ (Ps.lit1 26 rfl hBl' (by omega) (by omega)) (by omega) (by have := hll.out; simp; omega)) ?_
    rw [show ([l] : List (List UInt8)).flatten = l by simp]
    rintro e w4 ⟨rfl, hb4⟩
    refine ⟨_, rfl, ?_⟩
    have hb04 := below_two ((Below.refl _ wr).alloc (Nat.le_refl _) _) hb4
    have hown4 := own_below hown hb04
    have hb14 := below_then hb hb04 hsz
    have B4 := hb14.size
    obtain ⟨S, hS⟩ : ∃ S, sha l = S := ⟨_, rfl⟩
    have hSl : S.length = 32 := by rw [← hS]; exact length_sha l
    rw [hS]
    have HS := Lib.hid hS
    have HSl := Lib.hid hSl
    clear hS hSl hb04 hown
    refine kl_buildSlice_row (t := 33) (e := 24) (cs := bv S) (size := 32) Try.underlying33 hashZero hashInfo (by rw [length_bv, HSl.out]) (by omega) (by omega) rfl rfl rfl rfl rfl ?_
    refine kl_appendN 33 24 (.agg (bv z32).toArray) 32 32 Try.underlying33 hashInfo3 (by simp [Value.cells, length_bv, z32_len]) (by omega) w1.heap.size _ k (shas (ls.take k)) (hown4.alloc _) _ 0 1 1 (bv S) (by rw [length_bv, HSl.out]) (rangeAt_new w4 (bv S).toArray _ _ rfl) (bv_one S) (by omega) (by omega) (by simp; omega) rfl rfl rfl rfl rfl rfl ?_
    intro v' w' hown' hg' _
    have hb' := below_appendN (hb14.alloc B4 _) hg' (hown4.alloc _) (by simp; omega)
    repeat (first | refine kw_seq ?_ | refine kw_block ?_ | refine kw_skip ?_ | refine kw_region ?_ | refine kl_nil ?_ | refine kq_then ?_ | refine kq_block ?_ | refine kw_exit ?_ | refine kq_then_exit ?_ | refine kq_block_here rfl ?_ | refine kq_block_far rfl ?_ | refine kq_again_exit ?_ | refine kw_ret ?_ | refine kq_then_ret ?_ | refine kq_block_ret ?_ | refine kq_again_ret ?_ | refine kw_ift rfl ?_ | refine kw_iff rfl ?_ | refine kl_ung rfl rfl ?_ | refine kl_skipg rfl rfl rfl rfl ?_ | refine kl_skipg0 rfl rfl rfl ?_ | (first | refine kl_move rfl rfl (.inl rfl) rfl rfl ?_ | refine kl_move rfl rfl (.inr rfl) rfl rfl ?_ | refine kl_const rfl rfl (.inl rfl) rfl ?_ | refine kl_const rfl rfl (.inr rfl) rfl ?_) | ((first | refine kl_step rfl rfl rfl fun K hK => ?_ | refine kl_step0 rfl rfl rfl fun K hK => ?_); go_simp; (try go_bits); (first | refine hK _ _ ?_ | refine hK _ ?_); clear hK K))
    refine kq_again (n - (k + 1)) [0, 3, 4] (by omega) ?_
    simp only [nrm, lk, Nat.reduceBEq, cond_true, cond_false]
    refine ⟨k + 1, v', by omega, by omega, by omega, ?_, ?_, hb', by congr 1⟩
    · intro l' hl'
      rw [hnx.out, List.mem_append] at hl'
      rcases hl' with hl' | hl'
      · exact h300.out l' hl'
      · simp at hl'; subst hl'; exact hll.out
    · rw [hnx.out, shas_snoc, HS.out]; exact hown'
  · have hB3 := hown
    have hkk : Hid (∀ i, i < k → ∃ l, ls[i]? = some l ∧ l.length ≤ 300) := by
      intro i hi
      have hil : i < ls.length := by rw [HN.out]; omega
      exact ⟨ls[i], List.getElem?_eq_getElem hil, h300.out _ (by rw [List.mem_take_iff_getElem]; exact ⟨i, by omega, rfl⟩)⟩
    have e1 : IntKind.i64.wrap ((k : Int) - 1) = k - 1 := IntWalk.i64_in _ (by omega)
    have HOWN := Lib.hid hown
    have hk0 : (0 : Int) ≤ k := by omega
    clear hown hB3
    have hcase : k < n ∧ ¬ k < 10 ∨ ¬ k < n := by omega
    have hbb := below_then hb1 hb hb1.size
    have HX : ∀ Q : Prop, Q → Q := fun _ h => h
    rcases hcase with ⟨c1, c2⟩ | c1
    · have d0 : decide ((k : Int) < n) = true := by rw [decide_eq_true_eq]; omega
      have d1 : decide ((k : Int) < 10) = false := by rw [decide_eq_false_iff_not]; omega
      repeat (first | refine kw_seq ?_ | refine kw_skip ?_ | refine kw_region ?_ | refine kl_nil ?_ | refine kq_then ?_ | refine kq_block ?_ | refine kw_exit ?_ | refine kq_then_exit ?_ | refine kq_block_here rfl ?_ | refine kq_block_far rfl ?_ | refine kq_again_exit ?_ | refine kw_ret ?_ | refine kq_then_ret ?_ | refine kq_block_ret ?_ | refine kq_again_ret ?_ | refine kw_ift rfl ?_ | refine kw_iff rfl ?_ | refine kl_ung rfl rfl ?_ | refine kl_skipg rfl rfl rfl rfl ?_ | refine kl_skipg0 rfl rfl rfl ?_ | (first | refine kl_move rfl rfl (.inl rfl) rfl rfl ?_ | refine kl_move rfl rfl (.inr rfl) rfl rfl ?_ | refine kl_const rfl rfl (.inl rfl) rfl ?_ | refine kl_const rfl rfl (.inr rfl) rfl ?_) | ((first | refine kl_step rfl rfl rfl fun K hK => ?_ | refine kl_step0 rfl rfl rfl fun K hK => ?_); go_simp; (try go_bits); (first | refine hK _ _ ?_ | refine hK _ ?_); clear hK K))
      refine KW.less [0, 3, 5] ?_
      simp only [nrm, lk, Nat.reduceBEq, cond_true, cond_false]
      refine twice_back hA hnc hc hkk hk10 hbb hsz hb1.size p1 p2 HOWN.out (fun wr' hb' => ?_)
      repeat (first | refine kw_seq ?_ | refine kw_block ?_ | refine kw_skip ?_ | refine kw_region ?_ | refine kl_nil ?_ | refine kq_then ?_ | refine kq_block ?_ | refine kw_exit ?_ | refine kq_then_exit ?_ | refine kq_block_here rfl ?_ | refine kq_block_far rfl ?_ | refine kq_again_exit ?_ | refine kw_ret ?_ | refine kq_then_ret ?_ | refine kq_block_ret ?_ | refine kq_again_ret ?_ | refine kw_ift rfl ?_ | refine kw_iff rfl ?_ | refine kl_ung rfl rfl ?_ | refine kl_skipg rfl rfl rfl rfl ?_ | refine kl_skipg0 rfl rfl rfl ?_ | (first | refine kl_move rfl rfl (.inl rfl) rfl rfl ?_ | refine kl_move rfl rfl (.inr rfl) rfl rfl ?_ | refine kl_const rfl rfl (.inl rfl) rfl ?_ | refine kl_const rfl rfl (.inr rfl) rfl ?_) | ((first | refine kl_step rfl rfl rfl fun K hK => ?_ | refine kl_step0 rfl rfl rfl fun K hK => ?_); go_simp; (try go_bits); (first | refine hK _ _ ?_ | refine hK _ ?_); clear hK K))
      exact kq_ret1 rfl rfl ⟨rfl, hb'⟩
    · have d0 : decide ((k : Int) < n) = false := by rw [decide_eq_false_iff_not]; omega
      repeat (first | refine kw_seq ?_ | refine kw_skip ?_ | refine kw_region ?_ | refine kl_nil ?_ | refine kq_then ?_ | refine kq_block ?_ | refine kw_exit ?_ | refine kq_then_exit ?_ | refine kq_block_here rfl ?_ | refine kq_block_far rfl ?_ | refine kq_again_exit ?_ | refine kw_ret ?_ | refine kq_then_ret ?_ | refine kq_block_ret ?_ | refine kq_again_ret ?_ | refine kw_ift rfl ?_ | refine kw_iff rfl ?_ | refine kl_ung rfl rfl ?_ | refine kl_skipg rfl rfl rfl rfl ?_ | refine kl_skipg0 rfl rfl rfl ?_ | (first | refine kl_move rfl rfl (.inl rfl) rfl rfl ?_ | refine kl_move rfl rfl (.inr rfl) rfl rfl ?_ | refine kl_const rfl rfl (.inl rfl) rfl ?_ | refine kl_const rfl rfl (.inr rfl) rfl ?_) | ((first | refine kl_step rfl rfl rfl fun K hK => ?_ | refine kl_step0 rfl rfl rfl fun K hK => ?_); go_simp; (try go_bits); (first | refine hK _ _ ?_ | refine hK _ ?_); clear hK K))
      refine KW.less [0, 3, 5] ?_
      simp only [nrm, lk, Nat.reduceBEq, cond_true, cond_false]
      refine twice_back hA hnc hc hkk hk10 hbb hsz hb1.size p1 p2 HOWN.out (fun wr' hb' => ?_)
      repeat (first | refine kw_seq ?_ | refine kw_block ?_ | refine kw_skip ?_ | refine kw_region ?_ | refine kl_nil ?_ | refine kq_then ?_ | refine kq_block ?_ | refine kw_exit ?_ | refine kq_then_exit ?_ | refine kq_block_here rfl ?_ | refine kq_block_far rfl ?_ | refine kq_again_exit ?_ | refine kw_ret ?_ | refine kq_then_ret ?_ | refine kq_block_ret ?_ | refine kq_again_ret ?_ | refine kw_ift rfl ?_ | refine kw_iff rfl ?_ | refine kl_ung rfl rfl ?_ | refine kl_skipg rfl rfl rfl rfl ?_ | refine kl_skipg0 rfl rfl rfl ?_ | (first | refine kl_move rfl rfl (.inl rfl) rfl rfl ?_ | refine kl_move rfl rfl (.inr rfl) rfl rfl ?_ | refine kl_const rfl rfl (.inl rfl) rfl ?_ | refine kl_const rfl rfl (.inr rfl) rfl ?_) | ((first | refine kl_step rfl rfl rfl fun K hK => ?_ | refine kl_step0 rfl rfl rfl fun K hK => ?_); go_simp; (try go_bits); (first | refine hK _ _ ?_ | refine hK _ ?_); clear hK K))
      exact kq_ret1 rfl rfl ⟨rfl, hb'⟩
end Go.Proofs.Ytkjfejkikejnhaa
