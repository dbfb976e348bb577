/- CrcSums: the walk. -/
import Derived.Test.YtdbjclpjplkkfaaChecked
import Derived.Test.YtdbjclpjplkkfaaCrcSum
import Derived.Test.YtdbjclpjplkkfaaCrcJoin
import Derived.Test.YtdbjclpjplkkfaaCrcKnown
import Derived.Test.YtdbjclpjplkkfaaRegion
namespace Go.Proofs.Ytdbjclpjplkkfaa
open Go.RowKit

theorem few_len (ls : List (List UInt8)) (hf : fewB ls = true) : ls.flatten.length ≤ 2400 := by
  have hf' : ∀ l ∈ ls, l.length ≤ 200 := by simp [fewB] at hf; exact hf.1
  have hl : ls.length ≤ 12 := by simp [fewB] at hf; exact hf.2
  have : ls.flatten.length ≤ 200 * ls.length := by
    clear hf hl
    induction ls with
    | nil => simp
    | cons l ls ih =>
      have h1 := ih (fun x hx => hf' x (by simp [hx]))
      have h2 := hf' l (by simp)
      simp only [List.flatten_cons, List.length_append, List.length_cons]
      omega
  omega

set_option maxRecDepth 100000 in
theorem crcSums_few (A : Option Addr) (n c : Nat) (ls : List (List UInt8)) (x : Int) (w : World) (hA : Ps w A n ls) (hn : n ≤ 140737488355328) (hf : fewB ls = false) :
    Calls Try.prog 3 #[.slice A n c, .int .i64 x] w fun e w' => e = .returned (.bool true) ∧ Below w.heap.size w w' := by
  go_enter Try.func3, Try.ntmps3
  go_wp2_with (go_at_call 9; refine Calls.mono (known_any _) ?_; rintro e w1 ⟨rfl, hb1⟩; have hA1 := hA.keep (.of_below hb1))
  refine Calls.mono (few_any _ _ _ ls _ hA1 hn) ?_
  rintro e _ ⟨rfl, rfl⟩
  rw [hf]
  go_wp2_with fail
  go_ret
  exact ⟨rfl, hb1⟩

set_option maxRecDepth 100000 in
set_option maxHeartbeats 1000000 in
theorem crcSums_walk (A : Option Addr) (n c : Nat) (ls : List (List UInt8)) (x : Int) (w : World) (hA : Ps w A n ls) (hn : n ≤ 140737488355328) (hf : fewB ls = true) :
    Calls Try.prog 3 #[.slice A n c, .int .i64 x] w fun e w' => e = .returned (.bool true) ∧ Below w.heap.size w w' := by
  have hL := few_len ls hf
  generalize hfl : ls.flatten = L at hL
  have Hfl := Lib.hid hfl; clear hfl
  go_enter Try.func3, Try.ntmps3
  go_wp2_with (go_at_call 9; refine Calls.mono (known_any _) ?_; rintro e w1 ⟨rfl, hb1⟩; have hA1 := hA.keep (.of_below hb1))
  refine Calls.mono (few_any _ _ _ ls _ hA1 hn) ?_
  rintro e _ ⟨rfl, rfl⟩
  rw [hf]
  go_wp2_with fail
  refine Calls.mono (join_any _ _ _ ls _ hA1 hf) ?_
  rintro e w2 ⟨v2, rfl, hown2, hb2⟩
  rw [Hfl.out] at hown2
  obtain ⟨B, d, rfl, hd1, hd2, hB, _⟩ := own_slice hown2
  have hA2 := hA1.keep (.of_below hb2)
  have hbw := below_two hb1 hb2
  generalize hN : L.length = N at hL hd1 hd2 hB
  have HN := Lib.hid hN; clear hN
  have hB : Bs w2 B N L := hB
  have hA := hA2
  have hd3 : d ≤ 9223372036854775807 := by simpa [maxLen] using hd2
  clear hown2 hA1 hA2
  go_wp2_with (go_at_call 12; refine Calls.mono (within_any _ (N + 1) _ _ (by omega) (by omega) (by omega)) ?_; rintro e w3 ⟨rfl, rfl⟩)
  have hk := within_lt x (N + 1) (by omega)
  generalize within x (N + 1) = k at hk
  have hk : k ≤ N := by omega
  have hk0 : (0 : Int) ≤ k := by omega
  have hk1 : (k : Int) ≤ N := by omega
  have hk2 : (k : Int) ≤ d := by omega
  refine wp_region_fresh [Is (.slice A n c), Is (.int .u32 ((crc L).toNat : Int)), Is (.slice B N d), Is (.int .u32 ((crc L).toNat : Int)), Is (.bool true), Is (.bool true), Is (.slice B N d), PsIs 1 [L], Is (.int .u32 ((crc L).toNat : Int)), Is (.slice B N d), Is (.int .u32 ((crc L).toNat : Int)), Is (.bool true), Is (.bool true), Is (.bool true), Is (.slice B N d), Is (.int .i64 (k : Int)), BsIs k (L.take k), Is (.slice B N d), Is (.int .i64 (k : Int)), BsIs (N - k) (L.drop k), PsIs 2 [L.take k, L.drop k], Is (.int .u32 ((crc L).toNat : Int)), Is (.slice B N d), Is (.int .u32 ((crc L).toNat : Int)), Is (.bool true), Is (.bool true), Is (.bool true), Is (.slice B N d), PsIs 3 [[], L, []], Is (.int .u32 ((crc L).toNat : Int)), Is (.slice B N d), Is (.int .u32 ((crc L).toNat : Int)), Is (.bool true), Is (.bool true), Is (.bool true)]
    [[(0, none)], [(19, some 0)], [(5, none)], [(21, some 2)], [(20, some 1), (22, some 3)], [(23, some 4)], [(24, some 5), (5, none)], [(24, some 5), (25, some 6)], [(24, some 5), (26, some 7)], [(24, some 5), (5, none)], [(24, some 5), (28, some 9)], [(24, some 5), (27, some 8), (29, some 10)], [(24, some 5), (30, some 11)], [(31, some 12)], [(32, some 13), (5, none)], [(32, some 13), (6, none)], [(32, some 13), (33, some 14), (34, some 15)], [(32, some 13), (5, none)], [(32, some 13), (6, none)], [(32, some 13), (36, some 17), (37, some 18)], [(32, some 13), (35, some 16), (38, some 19)], [(32, some 13), (39, some 20)], [(32, some 13), (5, none)], [(32, some 13), (41, some 22)], [(32, some 13), (40, some 21), (42, some 23)], [(32, some 13), (43, some 24)], [(44, some 25)], [(45, some 26), (5, none)], [(45, some 26), (46, some 27)], [(45, some 26), (47, some 28)], [(45, some 26), (5, none)], [(45, some 26), (49, some 30)], [(45, some 26), (48, some 29), (50, some 31)], [(45, some 26), (51, some 32)], [(52, some 33)]]
    (by kernel_rfl) (by kernel_rfl) (by kernel_rfl)
    ⟨mono_is _, mono_is _, mono_is _, mono_is _, mono_is _, mono_is _, mono_is _, mono_psIs _ _, mono_is _, mono_is _, mono_is _, mono_is _, mono_is _, mono_is _, mono_is _, mono_is _, mono_bsIs _ _, mono_is _, mono_is _, mono_bsIs _ _, mono_psIs _ _, mono_is _, mono_is _, mono_is _, mono_is _, mono_is _, mono_is _, mono_is _, mono_psIs _ _, mono_is _, mono_is _, mono_is _, mono_is _, mono_is _, mono_is _, trivial⟩ ?vc ?fin
  case vc =>
    refine ⟨?_, ?_, ?_, ?_, ?_, ?_, ?_, ?_, ?_, ?_, ?_, ?_, ?_, ?_, ?_, ?_, ?_, ?_, ?_, ?_, ?_, ?_, ?_, ?_, ?_, ?_, ?_, ?_, ?_, ?_, ?_, ?_, ?_, ?_, ?_, trivial⟩
    · exact vf_none rfl (f_mov (.inl rfl) fun A W _ h => h.1)
    · refine vf_none rfl (f_call rfl Try.func13 rfl (by kernel_rfl) fun A' W hR h => ?_)
      obtain ⟨h19, _⟩ := h
      replace h19 : A'.tmps[19]?.getD undef = _ := h19
      show Calls _ _ #[A'.tmps[19]?.getD undef] _ _
      rw [h19]
      refine Calls.mono (crcSum_any _ _ _ ls _ (hA.keep (.of_below hR)) hn) ?_
      rintro e W' ⟨rfl, rfl⟩
      exact ⟨_, rfl, Below.refl _ _, by rw [Hfl.out]; rfl⟩
    · exact vf_none rfl (f_mov (.inl rfl) fun A W _ h => h.1)
    · refine vf_none rfl (f_call rfl Try.func14 rfl (by kernel_rfl) fun A' W hR h => ?_)
      obtain ⟨h21, _⟩ := h
      replace h21 : A'.tmps[21]?.getD undef = _ := h21
      show Calls _ _ #[A'.tmps[21]?.getD undef] _ _
      rw [h21]
      refine Calls.mono (refSum_any _ _ _ L _ (hB.keep (.of_below hR)) (by omega)) ?_
      rintro e W' ⟨rfl, rfl⟩
      exact ⟨_, rfl, Below.refl _ _, rfl⟩
    · refine vf_none rfl (f_run fun A' W hR h => ?_)
      obtain ⟨h20, h22, _⟩ := h
      replace h20 : A'.tmps[20]?.getD undef = _ := h20
      replace h22 : A'.tmps[22]?.getD undef = _ := h22
      refine ⟨_, W, ?_, Below.refl _ _, rfl⟩
      go_simp
    · exact vf_none rfl (f_mov (.inl rfl) fun A W _ h => h.1)
    · exact vf_yes rfl rfl (fun A W _ h => h.1) (f_mov (.inl rfl) fun A W _ h => h.2.1)
    · refine vf_yes rfl rfl (fun A W _ h => h.1) (f_run fun A' W hR h => ?_)
      obtain ⟨h24, h25, _⟩ := h
      replace h24 : A'.tmps[24]?.getD undef = _ := h24
      replace h25 : A'.tmps[25]?.getD undef = _ := h25
      refine ⟨.slice (some ⟨W.heap.size, 0, none⟩) 1 1, W.alloc (.cells #[.slice B N d] 25), ?_, (Below.refl _ _).alloc (Nat.le_refl _) _, W.heap.size, rfl, Ps.lit1 _ rfl (hB.keep (.of_below hR)) (by omega) (by omega)⟩
      go_simp
    · refine vf_yes rfl rfl (fun A W _ h => h.1) (f_call rfl Try.func13 rfl (by kernel_rfl) fun A' W hR h => ?_)
      obtain ⟨_, ⟨g, h26, hP⟩, _⟩ := h
      show Calls _ _ #[A'.tmps[26]?.getD undef] _ _
      rw [h26]
      refine Calls.mono (crcSum_any _ _ _ [L] _ hP (by omega)) ?_
      rintro e W' ⟨rfl, rfl⟩
      exact ⟨_, rfl, Below.refl _ _, by simp [SL, Is]⟩
    · exact vf_yes rfl rfl (fun A W _ h => h.1) (f_mov (.inl rfl) fun A W _ h => h.2.1)
    · refine vf_yes rfl rfl (fun A W _ h => h.1) (f_call rfl Try.func14 rfl (by kernel_rfl) fun A' W hR h => ?_)
      obtain ⟨h24, h28, _⟩ := h
      replace h24 : A'.tmps[24]?.getD undef = _ := h24
      replace h28 : A'.tmps[28]?.getD undef = _ := h28
      show Calls _ _ #[A'.tmps[28]?.getD undef] _ _
      rw [h28]
      refine Calls.mono (refSum_any _ _ _ L _ (hB.keep (.of_below hR)) (by omega)) ?_
      rintro e W' ⟨rfl, rfl⟩
      exact ⟨_, rfl, Below.refl _ _, rfl⟩
    · refine vf_yes rfl rfl (fun A W _ h => h.1) (f_run fun A' W hR h => ?_)
      obtain ⟨h24, h27, h29, _⟩ := h
      replace h24 : A'.tmps[24]?.getD undef = _ := h24
      replace h27 : A'.tmps[27]?.getD undef = _ := h27
      replace h29 : A'.tmps[29]?.getD undef = _ := h29
      refine ⟨_, W, ?_, Below.refl _ _, rfl⟩
      go_simp
    · refine vf_none rfl (f_run fun A' W hR h => ?_)
      obtain ⟨h24, h30, _⟩ := h
      replace h24 : A'.tmps[24]?.getD undef = _ := h24
      replace h30 : A'.tmps[30]?.getD undef = _ := h30
      refine ⟨_, W, ?_, Below.refl _ _, rfl⟩
      go_simp
    · exact vf_none rfl (f_mov (.inl rfl) fun A W _ h => h.1)
    · exact vf_yes rfl rfl (fun A W _ h => h.1) (f_mov (.inl rfl) fun A W _ h => h.2.1)
    · exact vf_yes rfl rfl (fun A W _ h => h.1) (f_mov (.inl rfl) fun A W _ h => h.2.1)
    · refine vf_yes rfl rfl (fun A W _ h => h.1) (f_run fun A' W hR h => ?_)
      obtain ⟨h32, h33, h34, _⟩ := h
      replace h32 : A'.tmps[32]?.getD undef = _ := h32
      replace h33 : A'.tmps[33]?.getD undef = _ := h33
      replace h34 : A'.tmps[34]?.getD undef = _ := h34
      refine ⟨.slice B k d, W, ?_, Below.refl _ _, _, _, rfl, (hB.keep (.of_below hR)).to_ hk, by omega, by omega⟩
      go_simp
    · exact vf_yes rfl rfl (fun A W _ h => h.1) (f_mov (.inl rfl) fun A W _ h => h.2.1)
    · exact vf_yes rfl rfl (fun A W _ h => h.1) (f_mov (.inl rfl) fun A W _ h => h.2.1)
    · refine vf_yes rfl rfl (fun A W _ h => h.1) (f_run fun A' W hR h => ?_)
      obtain ⟨h32, h36, h37, _⟩ := h
      replace h32 : A'.tmps[32]?.getD undef = _ := h32
      replace h36 : A'.tmps[36]?.getD undef = _ := h36
      replace h37 : A'.tmps[37]?.getD undef = _ := h37
      refine ⟨.slice (if d = k then B else B.map (·.add k)) (N - k) (d - k), W, ?_, Below.refl _ _, _, _, rfl, (hB.keep (.of_below hR)).from_ hk hd1, by omega, by omega⟩
      go_simp
    · refine vf_yes rfl rfl (fun A W _ h => h.1) (f_run fun A' W hR h => ?_)
      obtain ⟨_, ⟨B1, c1, h35, b1, r1, r2⟩, ⟨B2, c2, h38, b2, r3, r4⟩, _⟩ := h
      replace h35 : A'.tmps[35]?.getD undef = _ := h35
      replace h38 : A'.tmps[38]?.getD undef = _ := h38
      refine ⟨.slice (some ⟨W.heap.size, 0, none⟩) 2 2, W.alloc (.cells #[.slice B1 k c1, .slice B2 (N - k) c2] 25), ?_, (Below.refl _ _).alloc (Nat.le_refl _) _, W.heap.size, rfl, Ps.lit2 _ rfl b1 r1 r2 b2 r3 r4⟩
      go_simp
    · refine vf_yes rfl rfl (fun A W _ h => h.1) (f_call rfl Try.func13 rfl (by kernel_rfl) fun A' W hR h => ?_)
      obtain ⟨_, ⟨g, h39, hP⟩, _⟩ := h
      show Calls _ _ #[A'.tmps[39]?.getD undef] _ _
      rw [h39]
      refine Calls.mono (crcSum_any _ _ _ [L.take k, L.drop k] _ hP (by omega)) ?_
      rintro e W' ⟨rfl, rfl⟩
      exact ⟨_, rfl, Below.refl _ _, by simp [SL, Is]⟩
    · exact vf_yes rfl rfl (fun A W _ h => h.1) (f_mov (.inl rfl) fun A W _ h => h.2.1)
    · refine vf_yes rfl rfl (fun A W _ h => h.1) (f_call rfl Try.func14 rfl (by kernel_rfl) fun A' W hR h => ?_)
      obtain ⟨h32, h41, _⟩ := h
      replace h32 : A'.tmps[32]?.getD undef = _ := h32
      replace h41 : A'.tmps[41]?.getD undef = _ := h41
      show Calls _ _ #[A'.tmps[41]?.getD undef] _ _
      rw [h41]
      refine Calls.mono (refSum_any _ _ _ L _ (hB.keep (.of_below hR)) (by omega)) ?_
      rintro e W' ⟨rfl, rfl⟩
      exact ⟨_, rfl, Below.refl _ _, rfl⟩
    · refine vf_yes rfl rfl (fun A W _ h => h.1) (f_run fun A' W hR h => ?_)
      obtain ⟨h32, h40, h42, _⟩ := h
      replace h32 : A'.tmps[32]?.getD undef = _ := h32
      replace h40 : A'.tmps[40]?.getD undef = _ := h40
      replace h42 : A'.tmps[42]?.getD undef = _ := h42
      refine ⟨_, W, ?_, Below.refl _ _, rfl⟩
      go_simp
    · refine vf_none rfl (f_run fun A' W hR h => ?_)
      obtain ⟨h32, h43, _⟩ := h
      replace h32 : A'.tmps[32]?.getD undef = _ := h32
      replace h43 : A'.tmps[43]?.getD undef = _ := h43
      refine ⟨_, W, ?_, Below.refl _ _, rfl⟩
      go_simp
    · exact vf_none rfl (f_mov (.inl rfl) fun A W _ h => h.1)
    · exact vf_yes rfl rfl (fun A W _ h => h.1) (f_mov (.inl rfl) fun A W _ h => h.2.1)
    · refine vf_yes rfl rfl (fun A W _ h => h.1) (f_run fun A' W hR h => ?_)
      obtain ⟨h45, h46, _⟩ := h
      replace h45 : A'.tmps[45]?.getD undef = _ := h45
      replace h46 : A'.tmps[46]?.getD undef = _ := h46
      refine ⟨.slice (some ⟨W.heap.size, 0, none⟩) 3 3, W.alloc (.cells #[.slice none 0 0, .slice B N d, .slice none 0 0] 25), ?_, (Below.refl _ _).alloc (Nat.le_refl _) _, W.heap.size, rfl, Ps.lit3 _ rfl (Bs.nil _ _) (by omega) (by omega) (hB.keep (.of_below hR)) (by omega) (by omega) (Bs.nil _ _) (by omega) (by omega)⟩
      go_simp
    · refine vf_yes rfl rfl (fun A W _ h => h.1) (f_call rfl Try.func13 rfl (by kernel_rfl) fun A' W hR h => ?_)
      obtain ⟨_, ⟨g, h47, hP⟩, _⟩ := h
      show Calls _ _ #[A'.tmps[47]?.getD undef] _ _
      rw [h47]
      refine Calls.mono (crcSum_any _ _ _ [[], L, []] _ hP (by omega)) ?_
      rintro e W' ⟨rfl, rfl⟩
      exact ⟨_, rfl, Below.refl _ _, by simp [SL, Is]⟩
    · exact vf_yes rfl rfl (fun A W _ h => h.1) (f_mov (.inl rfl) fun A W _ h => h.2.1)
    · refine vf_yes rfl rfl (fun A W _ h => h.1) (f_call rfl Try.func14 rfl (by kernel_rfl) fun A' W hR h => ?_)
      obtain ⟨h45, h49, _⟩ := h
      replace h45 : A'.tmps[45]?.getD undef = _ := h45
      replace h49 : A'.tmps[49]?.getD undef = _ := h49
      show Calls _ _ #[A'.tmps[49]?.getD undef] _ _
      rw [h49]
      refine Calls.mono (refSum_any _ _ _ L _ (hB.keep (.of_below hR)) (by omega)) ?_
      rintro e W' ⟨rfl, rfl⟩
      exact ⟨_, rfl, Below.refl _ _, rfl⟩
    · refine vf_yes rfl rfl (fun A W _ h => h.1) (f_run fun A' W hR h => ?_)
      obtain ⟨h45, h48, h50, _⟩ := h
      replace h45 : A'.tmps[45]?.getD undef = _ := h45
      replace h48 : A'.tmps[48]?.getD undef = _ := h48
      replace h50 : A'.tmps[50]?.getD undef = _ := h50
      refine ⟨_, W, ?_, Below.refl _ _, rfl⟩
      go_simp
    · refine vf_none rfl (f_run fun A' W hR h => ?_)
      obtain ⟨h45, h51, _⟩ := h
      replace h45 : A'.tmps[45]?.getD undef = _ := h45
      replace h51 : A'.tmps[51]?.getD undef = _ := h51
      refine ⟨_, W, ?_, Below.refl _ _, rfl⟩
      go_simp
    · exact vf_none rfl (f_mov (.inr rfl) fun A W _ h => h.1)
  case fin =>
    intro A' W hd hs hR he hr
    obtain ⟨_, _, _, e3, _, _, _, _, _, _, _, _, _, _, _, _, _, _, _, _, _, _, _, _, _, _, _, _, _, _, _, _, _, _, e34, _⟩ := he
    go_wp2
    exact ret_any rfl hd e34 ⟨rfl, below_two hbw hR⟩

theorem crcSums_top (A : Option Addr) (n c : Nat) (ls : List (List UInt8)) (x : Int) (w : World) (hA : Ps w A n ls) (hn : n ≤ c) (hc : c ≤ 140737488351232) (_ : -9223372036854775808 ≤ x ∧ x ≤ 9223372036854775807) :
    Calls Try.prog 3 #[.slice A n c, .int .i64 x] w fun e w' => e = .returned (.bool true) ∧ Below w.heap.size w w' := by
  cases hf : fewB ls
  · exact crcSums_few A n c ls x w hA (by omega) hf
  · exact crcSums_walk A n c ls x w hA (by omega) hf
end Go.Proofs.Ytdbjclpjplkkfaa
