/- CodeWrites: the walk. -/
import Derived.Test.YtpbbindeghoaaaaChecked
import Derived.Test.YtpbbindeghoaaaaCodeKnown
import Derived.Test.YtpbbindeghoaaaaRegionL
import Derived.Deep.DeepCutAuto
namespace Go.Proofs.Ytpbbindeghoaaaa
open Go.RowKit

/-- a slice of bytes that lies elsewhere than v's own block -/
def FarIs (v : Value) (N : Nat) (k : List UInt8) : SPred := fun _ W u => ∃ B c, u = .slice B N c ∧ Bs W B N k ∧ ∀ b o, B = some ⟨b, o, none⟩ → v.ownBlock ≠ some b
theorem mono_farIs (v : Value) (N : Nat) (k : List UInt8) : MonoL (FarIs v N k) := fun _ _ _ _ _ hb ⟨B, c, e, h, f⟩ => ⟨B, c, e, h.keep (.of_below hb), f⟩
/-- a slice of bytes, till operation j is done -/
def OnceIs (j N : Nat) (k : List UInt8) : SPred := fun L W u => L j = true ∨ BsIs N k W u
theorem mono_onceIs (j N : Nat) (k : List UInt8) : MonoL (OnceIs j N k) := fun _ _ _ _ _ hb h => h.imp (upd_true _) (mono_bsIs N k _ _ _ hb)
theorem Vs.grownKeep {W W' : World} {B : Option Addr} {N : Nat} {xs : List Value} {row : Option Nat} (h : Vs W B N xs) (hg : W.grownBy W' row) (hne : ∀ b o, B = some ⟨b, o, none⟩ → row ≠ some b) : Vs W' B N xs :=
  ⟨h.1, fun hn => by
    obtain ⟨b, o, e, hc⟩ := h.2 hn
    exact ⟨b, o, e, fun i u hu => hg.cell (hc i u hu) (fun h => hne b o e h.symm)⟩⟩
theorem far_pres {v : Value} {N : Nat} {k : List UInt8} {L L' : Nat → Bool} {W W' : World} {u : Value} (h : FarIs v N k L W u) (hg : W.grownBy W' v.ownBlock) : FarIs v N k L' W' u := by
  obtain ⟨B, c, e, hB, hf⟩ := h
  exact ⟨B, c, e, Vs.grownKeep hB hg hf, hf⟩
theorem far_of_own {W' : World} {base : Nat} {u v : Value} {N : Nat} {k : List UInt8} {L : Nat → Bool} (ho : W'.ownsRow base 5 1 u N (bv k)) (hN : 0 < N) (hv : ∀ b, v.ownBlock = some b → b < base) : FarIs v N k L W' u := by
  obtain ⟨g, c, rfl, h1, _⟩ := own_form ho hN
  refine ⟨_, c, rfl, Vs.of_own ho, fun b o e he => ?_⟩
  injection e with e; injection e with e1 _ _
  have := hv b he
  omega
/-- an operation that comes behind i is not done while i is not -/
theorem later {ops : List Oper} {L : Nat → Bool} (hc : Closed ops L) {i j : Nat} (hl : L i = false) (hne : j ≠ i) (D : List Nat) (hD : behindOk ops i D = true) (hj : j ∈ D) : ¬ upd L i j = true := by
  rw [upd_ne L hne]
  intro h
  have := hc.behind D hD j hj h
  rw [hl] at this
  cases this

def cwS (A : Option Addr) (n c : Nat) (l : List UInt8) (x : Int) (s : List UInt8) (v : Value) : List SPred :=
  [IsL (.slice A n c), IsL (.int .i64 x), FarIs v (n + 8) (l ++ le8 x), IsL (.string ⟨(l ++ le8 x).toArray⟩), IsL (v), IsL (.int .i64 x), OnceIs 8 (n + 8) (l ++ le8 x), IsL (.string ⟨(l ++ le8 x).toArray⟩), IsL (.bool true), IsL (.bool true), IsL (.slice A n c), IsL (.int .i64 x), FarIs v (n + 1) (l ++ [i64byte x 0]), IsL (.string ⟨(l ++ [i64byte x 0]).toArray⟩), IsL (v), IsL (.int .i64 x), OnceIs 18 (n + 1) (l ++ [i64byte x 0]), IsL (.string ⟨(l ++ [i64byte x 0]).toArray⟩), IsL (.bool true), IsL (.bool true), IsL (.bool true), IsL (.slice A n c), IsL (.string ⟨s.toArray⟩), FarIs v (n + (textBytes s).length) (l ++ textBytes s), IsL (.string ⟨(l ++ textBytes s).toArray⟩), IsL (v), IsL (.string ⟨s.toArray⟩), OnceIs 29 (n + (textBytes s).length) (l ++ textBytes s), IsL (.string ⟨(l ++ textBytes s).toArray⟩), IsL (.bool true), IsL (.bool true), IsL (.bool true)]
theorem cwS_mono (A : Option Addr) (n c : Nat) (l : List UInt8) (x : Int) (s : List UInt8) (v : Value) : MonoAllL (cwS A n c l x s v) := ⟨mono_isL _, mono_isL _, mono_farIs _ _ _, mono_isL _, mono_isL _, mono_isL _, mono_onceIs _ _ _, mono_isL _, mono_isL _, mono_isL _, mono_isL _, mono_isL _, mono_farIs _ _ _, mono_isL _, mono_isL _, mono_isL _, mono_onceIs _ _ _, mono_isL _, mono_isL _, mono_isL _, mono_isL _, mono_isL _, mono_isL _, mono_farIs _ _ _, mono_isL _, mono_isL _, mono_isL _, mono_onceIs _ _ _, mono_isL _, mono_isL _, mono_isL _, mono_isL _, trivial⟩

set_option maxRecDepth 100000 in
theorem codeWrites_none (A : Option Addr) (n c : Nat) (x : Int) (s : List UInt8) (w : World) (hn : 300 < n ∨ 500 < s.length) (hn2 : n ≤ 9223372036854775807) :
    Calls Try.prog 3 #[.slice A n c, .int .i64 x, .string ⟨s.toArray⟩] w fun e w' => e = .returned (.bool true) ∧ Below w.heap.size w w' := by
  have hz := size_str s
  by_cases h : 300 < n
  all_goals
    have hm : 300 < n ∨ 500 < s.length := hn
    first
      | (have h3 : (300 : Int) < n := by omega)
      | (have h4 : (500 : Int) < s.length := by omega)
    go_enter Try.func3, Try.ntmps3
    go_wp2_with (go_at_call 10; refine Calls.mono (known_any _) ?_; rintro e w1 ⟨rfl, hb1⟩)
    go_ret
    exact ⟨rfl, hb1⟩

set_option maxRecDepth 100000 in
set_option maxHeartbeats 2000000 in
theorem codeWrites_walk (A : Option Addr) (n c : Nat) (l : List UInt8) (x : Int) (s : List UInt8) (w : World) (hA : Bs w A n l) (hc0 : n ≤ c) (hc2 : c ≤ 9223372036854775807) (hx : -9223372036854775808 ≤ x ∧ x ≤ 9223372036854775807) (h3 : n ≤ 300) (h5 : s.length ≤ 500) :
    Calls Try.prog 3 #[.slice A n c, .int .i64 x, .string ⟨s.toArray⟩] w fun e w' => e = .returned (.bool true) ∧ Below w.heap.size w w' := by
  have hz := size_str s
  have h3' : (n : Int) ≤ 300 := by omega
  have h5' : (s.length : Int) ≤ 500 := by omega
  go_enter Try.func3, Try.ntmps3
  go_upto_region 6 with (first
    | (go_at_call 10; refine Calls.mono (known_any _) ?_; rintro e w1 ⟨rfl, hb1⟩; have hA1 := hA.keep (.of_below hb1))
    | (at_builtin; refine cloneB w1 rfl (.tmp 18) (.tmp 19) rfl _ rfl rfl _ _ _ l rfl hA1 (by omega) ?_; intro v w2 hown2 hb2))
  have hA := hA1
  have hpos : 0 < n + (textBytes s).length := by rw [length_textBytes]; omega
  refine wp_region_L (SLL (cwS A n c l x s v)) (fun _ W => Below w1.heap.size w1 W ∧ W.ownsRow w1.heap.size 5 1 v n (bv l))
    [[(0, none)], [(1, none)], [(21, some 0), (22, some 1)], [(23, some 2)], [(7, none)], [(1, none)], [(25, some 4), (26, some 5)], [(27, some 6)], [(24, some 3), (28, some 7)], [(29, some 8)], [(30, some 9), (0, none)], [(30, some 9), (1, none)], [(30, some 9), (31, some 10), (32, some 11)], [(30, some 9), (33, some 12)], [(30, some 9), (7, none)], [(30, some 9), (1, none)], [(30, some 9), (35, some 14), (36, some 15)], [(30, some 9), (37, some 16)], [(30, some 9), (34, some 13), (38, some 17)], [(30, some 9), (39, some 18)], [(40, some 19)], [(41, some 20), (0, none)], [(41, some 20), (2, none)], [(41, some 20), (42, some 21), (43, some 22)], [(41, some 20), (44, some 23)], [(41, some 20), (7, none)], [(41, some 20), (2, none)], [(41, some 20), (46, some 25), (47, some 26)], [(41, some 20), (48, some 27)], [(41, some 20), (45, some 24), (49, some 28)], [(41, some 20), (50, some 29)], [(51, some 30)]]
    (by kernel_rfl) (by kernel_rfl) (by kernel_rfl) ?start ?vc ?fin
  case vc =>
    refine ⟨?_, ?_, ?_, ?_, ?_, ?_, ?_, ?_, ?_, ?_, ?_, ?_, ?_, ?_, ?_, ?_, ?_, ?_, ?_, ?_, ?_, ?_, ?_, ?_, ?_, ?_, ?_, ?_, ?_, ?_, ?_, ?_, trivial⟩
    · refine vl_of (cwS_mono A n c l x s v) (fun L W W' hb h => ⟨below_then h.1 hb h.1.size, own_below h.2 hb⟩) fun L W0 hc hl hp hW => ?_
      exact vf_none rfl (f_mov (.inl rfl) fun A W _ h => h.1)
    · refine vl_of (cwS_mono A n c l x s v) (fun L W W' hb h => ⟨below_then h.1 hb h.1.size, own_below h.2 hb⟩) fun L W0 hc hl hp hW => ?_
      exact vf_none rfl (f_mov (.inl rfl) fun A W _ h => h.1)
    · refine vl_of (cwS_mono A n c l x s v) (fun L W W' hb h => ⟨below_then h.1 hb h.1.size, own_below h.2 hb⟩) fun L W0 hc hl hp hW => ?_
      refine vf_none rfl (f_call rfl Try.func11 rfl (by kernel_rfl) fun A' W hR h => ?_)
      obtain ⟨h21, h22, _⟩ := h
      replace h21 : A'.tmps[21]?.getD undef = _ := h21
      replace h22 : A'.tmps[22]?.getD undef = _ := h22
      show Calls _ _ #[A'.tmps[21]?.getD undef, A'.tmps[22]?.getD undef] _ _
      rw [h21, h22]
      refine Calls.mono (codeInt_any _ _ _ l x _ (hA.keep (.of_below (below_then hW.1 hR hW.1.size))) (by omega) hx) ?_
      rintro e W' ⟨u, rfl, ho, hb⟩
      exact ⟨_, rfl, hb, far_of_own (L := L) ho (by omega) (fun b hb => Nat.lt_of_lt_of_le (hW.2.lt b hb).2 hR.size)⟩
    · refine vl_of (cwS_mono A n c l x s v) (fun L W W' hb h => ⟨below_then h.1 hb h.1.size, own_below h.2 hb⟩) fun L W0 hc hl hp hW => ?_
      refine vf_none rfl (f_run fun A' W hR h => ?_)
      obtain ⟨h23, _⟩ := h
      obtain ⟨B, c', e1, hB, _⟩ := h23
      replace e1 : A'.tmps[23]?.getD undef = _ := e1
      have k1 := convB (c := c') hB
      refine ⟨_, W, ?_, Below.refl _ _, rfl⟩
      go_simp
    · refine vl_of (cwS_mono A n c l x s v) (fun L W W' hb h => ⟨below_then h.1 hb h.1.size, own_below h.2 hb⟩) fun L W0 hc hl hp hW => ?_
      exact vf_none rfl (f_mov (.inl rfl) fun A W _ h => h.1)
    · refine vl_of (cwS_mono A n c l x s v) (fun L W W' hb h => ⟨below_then h.1 hb h.1.size, own_below h.2 hb⟩) fun L W0 hc hl hp hW => ?_
      exact vf_none rfl (f_mov (.inl rfl) fun A W _ h => h.1)
    · refine vl_call (fun L A W _ => want_none rfl A) rfl Try.func12 rfl (by kernel_rfl) fun L A' W hc hl hp hW h => ?_
      obtain ⟨h25, h26, _⟩ := h
      replace h25 : A'.tmps[25]?.getD undef = _ := h25
      replace h26 : A'.tmps[26]?.getD undef = _ := h26
      show Calls _ _ #[A'.tmps[25]?.getD undef, A'.tmps[26]?.getD undef] _ _
      rw [h25, h26]
      refine Calls.mono (refInt_any v n l x W _ hW.2 hW.1.size (by omega) hx) ?_
      rintro e W' ⟨u, rfl, ho⟩
      obtain ⟨B, c', rfl, q1, q2, q3, _⟩ := own_slice ho.now
      refine ⟨_, rfl, ⟨below_append hW.1 ho.grown hW.2 hW.1.size, ho.was⟩, ?_, .inr ⟨B, c', rfl, q3, q1, by simpa [maxLen] using q2⟩⟩
      exact ⟨pres_is _, pres_is _, fun _ _ u h => far_pres h ho.grown, pres_is _, pres_is _, pres_is _, fun h => absurd rfl h, pres_is _, pres_is _, pres_is _, pres_is _, pres_is _, fun _ _ u h => far_pres h ho.grown, pres_is _, pres_is _, pres_is _, fun _ h => absurd (hc.behind (j := 6) [7, 8, 9, 16] (by kernel_rfl) 16 (by decide) h) (by rw [hl]; decide), pres_is _, pres_is _, pres_is _, pres_is _, pres_is _, pres_is _, fun _ _ u h => far_pres h ho.grown, pres_is _, pres_is _, pres_is _, fun _ h => absurd (hc.behind (j := 6) [7, 8, 9, 19, 20, 27] (by kernel_rfl) 27 (by decide) h) (by rw [hl]; decide), pres_is _, pres_is _, pres_is _, pres_is _, trivial⟩
    · refine vl_of (cwS_mono A n c l x s v) (fun L W W' hb h => ⟨below_then h.1 hb h.1.size, own_below h.2 hb⟩) fun L W0 hc hl hp hW => ?_
      refine vf_none rfl (f_run fun A' W hR h => ?_)
      obtain ⟨h27, _⟩ := h
      obtain ⟨B, c', e1, hB, _⟩ := h27.resolve_left (later hc hl (by decide) [8] (by kernel_rfl) (by decide))
      replace e1 : A'.tmps[27]?.getD undef = _ := e1
      have k1 := convB (c := c') hB
      refine ⟨_, W, ?_, Below.refl _ _, rfl⟩
      go_simp
    · refine vl_of (cwS_mono A n c l x s v) (fun L W W' hb h => ⟨below_then h.1 hb h.1.size, own_below h.2 hb⟩) fun L W0 hc hl hp hW => ?_
      refine vf_none rfl (f_run fun A' W hR h => ?_)
      obtain ⟨h24, h28, _⟩ := h
      replace h24 : A'.tmps[24]?.getD undef = _ := h24
      replace h28 : A'.tmps[28]?.getD undef = _ := h28
      refine ⟨_, W, ?_, Below.refl _ _, rfl⟩
      go_simp
    · refine vl_of (cwS_mono A n c l x s v) (fun L W W' hb h => ⟨below_then h.1 hb h.1.size, own_below h.2 hb⟩) fun L W0 hc hl hp hW => ?_
      exact vf_none rfl (f_mov (.inl rfl) fun A W _ h => h.1)
    · refine vl_of (cwS_mono A n c l x s v) (fun L W W' hb h => ⟨below_then h.1 hb h.1.size, own_below h.2 hb⟩) fun L W0 hc hl hp hW => ?_
      exact vf_yes rfl rfl (fun A W _ h => h.1) (f_mov (.inl rfl) fun A W _ h => h.2.1)
    · refine vl_of (cwS_mono A n c l x s v) (fun L W W' hb h => ⟨below_then h.1 hb h.1.size, own_below h.2 hb⟩) fun L W0 hc hl hp hW => ?_
      exact vf_yes rfl rfl (fun A W _ h => h.1) (f_mov (.inl rfl) fun A W _ h => h.2.1)
    · refine vl_of (cwS_mono A n c l x s v) (fun L W W' hb h => ⟨below_then h.1 hb h.1.size, own_below h.2 hb⟩) fun L W0 hc hl hp hW => ?_
      refine vf_yes rfl rfl (fun A W _ h => h.1) (f_call rfl Try.func13 rfl (by kernel_rfl) fun A' W hR h => ?_)
      obtain ⟨h30, h31, h32, _⟩ := h
      replace h30 : A'.tmps[30]?.getD undef = _ := h30
      replace h31 : A'.tmps[31]?.getD undef = _ := h31
      replace h32 : A'.tmps[32]?.getD undef = _ := h32
      show Calls _ _ #[A'.tmps[31]?.getD undef, A'.tmps[32]?.getD undef] _ _
      rw [h31, h32]
      refine Calls.mono (codeByte_any _ _ _ l x _ (hA.keep (.of_below (below_then hW.1 hR hW.1.size))) (by omega) hc0 hc2) ?_
      rintro e W' ⟨u, rfl, ho, hb⟩
      exact ⟨_, rfl, hb, far_of_own (L := L) ho (by omega) (fun b hb => Nat.lt_of_lt_of_le (hW.2.lt b hb).2 hR.size)⟩
    · refine vl_of (cwS_mono A n c l x s v) (fun L W W' hb h => ⟨below_then h.1 hb h.1.size, own_below h.2 hb⟩) fun L W0 hc hl hp hW => ?_
      refine vf_yes rfl rfl (fun A W _ h => h.1) (f_run fun A' W hR h => ?_)
      obtain ⟨h30, h33, _⟩ := h
      replace h30 : A'.tmps[30]?.getD undef = _ := h30
      obtain ⟨B, c', e1, hB, _⟩ := h33
      replace e1 : A'.tmps[33]?.getD undef = _ := e1
      have k1 := convB (c := c') hB
      refine ⟨_, W, ?_, Below.refl _ _, rfl⟩
      go_simp
    · refine vl_of (cwS_mono A n c l x s v) (fun L W W' hb h => ⟨below_then h.1 hb h.1.size, own_below h.2 hb⟩) fun L W0 hc hl hp hW => ?_
      exact vf_yes rfl rfl (fun A W _ h => h.1) (f_mov (.inl rfl) fun A W _ h => h.2.1)
    · refine vl_of (cwS_mono A n c l x s v) (fun L W W' hb h => ⟨below_then h.1 hb h.1.size, own_below h.2 hb⟩) fun L W0 hc hl hp hW => ?_
      exact vf_yes rfl rfl (fun A W _ h => h.1) (f_mov (.inl rfl) fun A W _ h => h.2.1)
    · refine vl_call (fun L A W h => want_yes rfl rfl h.1) rfl Try.func14 rfl (by kernel_rfl) fun L A' W hc hl hp hW h => ?_
      obtain ⟨h30, h35, h36, _⟩ := h
      replace h30 : A'.tmps[30]?.getD undef = _ := h30
      replace h35 : A'.tmps[35]?.getD undef = _ := h35
      replace h36 : A'.tmps[36]?.getD undef = _ := h36
      show Calls _ _ #[A'.tmps[35]?.getD undef, A'.tmps[36]?.getD undef] _ _
      rw [h35, h36]
      refine Calls.mono (refByte_any v n l x W _ hW.2 hW.1.size (by omega)) ?_
      rintro e W' ⟨u, rfl, ho⟩
      obtain ⟨B, c', rfl, q1, q2, q3, _⟩ := own_slice ho.now
      refine ⟨_, rfl, ⟨below_append hW.1 ho.grown hW.2 hW.1.size, ho.was⟩, ?_, .inr ⟨B, c', rfl, q3, q1, by simpa [maxLen] using q2⟩⟩
      exact ⟨pres_is _, pres_is _, fun _ _ u h => far_pres h ho.grown, pres_is _, pres_is _, pres_is _, fun _ _ u _ => .inl (upd_true _ (hc.behind (j := 8) [9] (by kernel_rfl) 9 (by decide) (hp 9 (by kernel_rfl)))), pres_is _, pres_is _, pres_is _, pres_is _, pres_is _, fun _ _ u h => far_pres h ho.grown, pres_is _, pres_is _, pres_is _, fun h => absurd rfl h, pres_is _, pres_is _, pres_is _, pres_is _, pres_is _, pres_is _, fun _ _ u h => far_pres h ho.grown, pres_is _, pres_is _, pres_is _, fun _ h => absurd (hc.behind (j := 16) [17, 18, 19, 20, 27] (by kernel_rfl) 27 (by decide) h) (by rw [hl]; decide), pres_is _, pres_is _, pres_is _, pres_is _, trivial⟩
    · refine vl_of (cwS_mono A n c l x s v) (fun L W W' hb h => ⟨below_then h.1 hb h.1.size, own_below h.2 hb⟩) fun L W0 hc hl hp hW => ?_
      refine vf_yes rfl rfl (fun A W _ h => h.1) (f_run fun A' W hR h => ?_)
      obtain ⟨h30, h37, _⟩ := h
      replace h30 : A'.tmps[30]?.getD undef = _ := h30
      obtain ⟨B, c', e1, hB, _⟩ := h37.resolve_left (later hc hl (by decide) [18] (by kernel_rfl) (by decide))
      replace e1 : A'.tmps[37]?.getD undef = _ := e1
      have k1 := convB (c := c') hB
      refine ⟨_, W, ?_, Below.refl _ _, rfl⟩
      go_simp
    · refine vl_of (cwS_mono A n c l x s v) (fun L W W' hb h => ⟨below_then h.1 hb h.1.size, own_below h.2 hb⟩) fun L W0 hc hl hp hW => ?_
      refine vf_yes rfl rfl (fun A W _ h => h.1) (f_run fun A' W hR h => ?_)
      obtain ⟨h30, h34, h38, _⟩ := h
      replace h30 : A'.tmps[30]?.getD undef = _ := h30
      replace h34 : A'.tmps[34]?.getD undef = _ := h34
      replace h38 : A'.tmps[38]?.getD undef = _ := h38
      refine ⟨_, W, ?_, Below.refl _ _, rfl⟩
      go_simp
    · refine vl_of (cwS_mono A n c l x s v) (fun L W W' hb h => ⟨below_then h.1 hb h.1.size, own_below h.2 hb⟩) fun L W0 hc hl hp hW => ?_
      refine vf_none rfl (f_run fun A' W hR h => ?_)
      obtain ⟨h30, h39, _⟩ := h
      replace h30 : A'.tmps[30]?.getD undef = _ := h30
      replace h39 : A'.tmps[39]?.getD undef = _ := h39
      refine ⟨_, W, ?_, Below.refl _ _, rfl⟩
      go_simp
    · refine vl_of (cwS_mono A n c l x s v) (fun L W W' hb h => ⟨below_then h.1 hb h.1.size, own_below h.2 hb⟩) fun L W0 hc hl hp hW => ?_
      exact vf_none rfl (f_mov (.inl rfl) fun A W _ h => h.1)
    · refine vl_of (cwS_mono A n c l x s v) (fun L W W' hb h => ⟨below_then h.1 hb h.1.size, own_below h.2 hb⟩) fun L W0 hc hl hp hW => ?_
      exact vf_yes rfl rfl (fun A W _ h => h.1) (f_mov (.inl rfl) fun A W _ h => h.2.1)
    · refine vl_of (cwS_mono A n c l x s v) (fun L W W' hb h => ⟨below_then h.1 hb h.1.size, own_below h.2 hb⟩) fun L W0 hc hl hp hW => ?_
      exact vf_yes rfl rfl (fun A W _ h => h.1) (f_mov (.inl rfl) fun A W _ h => h.2.1)
    · refine vl_of (cwS_mono A n c l x s v) (fun L W W' hb h => ⟨below_then h.1 hb h.1.size, own_below h.2 hb⟩) fun L W0 hc hl hp hW => ?_
      refine vf_yes rfl rfl (fun A W _ h => h.1) (f_call rfl Try.func15 rfl (by kernel_rfl) fun A' W hR h => ?_)
      obtain ⟨h41, h42, h43, _⟩ := h
      replace h41 : A'.tmps[41]?.getD undef = _ := h41
      replace h42 : A'.tmps[42]?.getD undef = _ := h42
      replace h43 : A'.tmps[43]?.getD undef = _ := h43
      show Calls _ _ #[A'.tmps[42]?.getD undef, A'.tmps[43]?.getD undef] _ _
      rw [h42, h43]
      refine Calls.mono (codeText_any _ _ _ l s _ (hA.keep (.of_below (below_then hW.1 hR hW.1.size))) (by omega) hc0 hc2 (by omega)) ?_
      rintro e W' ⟨u, rfl, ho, hb⟩
      exact ⟨_, rfl, hb, far_of_own (L := L) ho (by omega) (fun b hb => Nat.lt_of_lt_of_le (hW.2.lt b hb).2 hR.size)⟩
    · refine vl_of (cwS_mono A n c l x s v) (fun L W W' hb h => ⟨below_then h.1 hb h.1.size, own_below h.2 hb⟩) fun L W0 hc hl hp hW => ?_
      refine vf_yes rfl rfl (fun A W _ h => h.1) (f_run fun A' W hR h => ?_)
      obtain ⟨h41, h44, _⟩ := h
      replace h41 : A'.tmps[41]?.getD undef = _ := h41
      obtain ⟨B, c', e1, hB, _⟩ := h44
      replace e1 : A'.tmps[44]?.getD undef = _ := e1
      have k1 := convB (c := c') hB
      refine ⟨_, W, ?_, Below.refl _ _, rfl⟩
      go_simp
    · refine vl_of (cwS_mono A n c l x s v) (fun L W W' hb h => ⟨below_then h.1 hb h.1.size, own_below h.2 hb⟩) fun L W0 hc hl hp hW => ?_
      exact vf_yes rfl rfl (fun A W _ h => h.1) (f_mov (.inl rfl) fun A W _ h => h.2.1)
    · refine vl_of (cwS_mono A n c l x s v) (fun L W W' hb h => ⟨below_then h.1 hb h.1.size, own_below h.2 hb⟩) fun L W0 hc hl hp hW => ?_
      exact vf_yes rfl rfl (fun A W _ h => h.1) (f_mov (.inl rfl) fun A W _ h => h.2.1)
    · refine vl_call (fun L A W h => want_yes rfl rfl h.1) rfl Try.func16 rfl (by kernel_rfl) fun L A' W hc hl hp hW h => ?_
      obtain ⟨h41, h46, h47, _⟩ := h
      replace h41 : A'.tmps[41]?.getD undef = _ := h41
      replace h46 : A'.tmps[46]?.getD undef = _ := h46
      replace h47 : A'.tmps[47]?.getD undef = _ := h47
      show Calls _ _ #[A'.tmps[46]?.getD undef, A'.tmps[47]?.getD undef] _ _
      rw [h46, h47]
      refine Calls.mono (refText_any v n l s W _ hW.2 hW.1.size (by omega) (by omega)) ?_
      rintro e W' ⟨u, rfl, ho⟩
      obtain ⟨B, c', rfl, q1, q2, q3, _⟩ := own_slice ho.now
      refine ⟨_, rfl, ⟨below_append hW.1 ho.grown hW.2 hW.1.size, ho.was⟩, ?_, .inr ⟨B, c', rfl, q3, q1, by simpa [maxLen] using q2⟩⟩
      exact ⟨pres_is _, pres_is _, fun _ _ u h => far_pres h ho.grown, pres_is _, pres_is _, pres_is _, fun _ _ u _ => .inl (upd_true _ (hc.behind (j := 8) [9, 19, 20] (by kernel_rfl) 20 (by decide) (hp 20 (by kernel_rfl)))), pres_is _, pres_is _, pres_is _, pres_is _, pres_is _, fun _ _ u h => far_pres h ho.grown, pres_is _, pres_is _, pres_is _, fun _ _ u _ => .inl (upd_true _ (hc.behind (j := 18) [19, 20] (by kernel_rfl) 20 (by decide) (hp 20 (by kernel_rfl)))), pres_is _, pres_is _, pres_is _, pres_is _, pres_is _, pres_is _, fun _ _ u h => far_pres h ho.grown, pres_is _, pres_is _, pres_is _, fun h => absurd rfl h, pres_is _, pres_is _, pres_is _, pres_is _, trivial⟩
    · refine vl_of (cwS_mono A n c l x s v) (fun L W W' hb h => ⟨below_then h.1 hb h.1.size, own_below h.2 hb⟩) fun L W0 hc hl hp hW => ?_
      refine vf_yes rfl rfl (fun A W _ h => h.1) (f_run fun A' W hR h => ?_)
      obtain ⟨h41, h48, _⟩ := h
      replace h41 : A'.tmps[41]?.getD undef = _ := h41
      obtain ⟨B, c', e1, hB, _⟩ := h48.resolve_left (later hc hl (by decide) [29] (by kernel_rfl) (by decide))
      replace e1 : A'.tmps[48]?.getD undef = _ := e1
      have k1 := convB (c := c') hB
      refine ⟨_, W, ?_, Below.refl _ _, rfl⟩
      go_simp
    · refine vl_of (cwS_mono A n c l x s v) (fun L W W' hb h => ⟨below_then h.1 hb h.1.size, own_below h.2 hb⟩) fun L W0 hc hl hp hW => ?_
      refine vf_yes rfl rfl (fun A W _ h => h.1) (f_run fun A' W hR h => ?_)
      obtain ⟨h41, h45, h49, _⟩ := h
      replace h41 : A'.tmps[41]?.getD undef = _ := h41
      replace h45 : A'.tmps[45]?.getD undef = _ := h45
      replace h49 : A'.tmps[49]?.getD undef = _ := h49
      refine ⟨_, W, ?_, Below.refl _ _, rfl⟩
      go_simp
    · refine vl_of (cwS_mono A n c l x s v) (fun L W W' hb h => ⟨below_then h.1 hb h.1.size, own_below h.2 hb⟩) fun L W0 hc hl hp hW => ?_
      refine vf_none rfl (f_run fun A' W hR h => ?_)
      obtain ⟨h41, h50, _⟩ := h
      replace h41 : A'.tmps[41]?.getD undef = _ := h41
      replace h50 : A'.tmps[50]?.getD undef = _ := h50
      refine ⟨_, W, ?_, Below.refl _ _, rfl⟩
      go_simp
    · refine vl_of (cwS_mono A n c l x s v) (fun L W W' hb h => ⟨below_then h.1 hb h.1.size, own_below h.2 hb⟩) fun L W0 hc hl hp hW => ?_
      exact vf_none rfl (f_mov (.inr rfl) fun A W _ h => h.1)
  case fin =>
    intro L A' W hd hs hl hW he hr
    obtain ⟨_, _, _, e3, _, _, _, _, _, _, _, _, _, _, _, _, _, _, _, _, _, _, _, _, _, _, _, _, _, _, _, e31, _⟩ := he
    go_wp2
    exact ret_any rfl hd e31 ⟨rfl, below_two hb1 hW.1⟩
  case start => exact ⟨below_drewN' hb2 1, hown2⟩
theorem codeWrites_top (A : Option Addr) (n c : Nat) (l : List UInt8) (x : Int) (s : List UInt8) (w : World) (hA : Bs w A n l) (hc : n ≤ c) (hc2 : c ≤ 140737488351232) (hx : -9223372036854775808 ≤ x ∧ x ≤ 9223372036854775807) (_ : s.length ≤ 9223372036854775807) :
    Calls Try.prog 3 #[.slice A n c, .int .i64 x, .string ⟨s.toArray⟩] w fun e w' => e = .returned (.bool true) ∧ Below w.heap.size w w' := by
  by_cases h : 300 < n ∨ 500 < s.length
  · exact codeWrites_none A n c x s w h (by omega)
  · exact codeWrites_walk A n c l x s w hA hc (by omega) hx (by omega) (by omega)
end Go.Proofs.Ytpbbindeghoaaaa
