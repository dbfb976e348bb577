/- Variables such as may be, of raw ones. -/
import Derived.Test.YtcpifcdndhhmgaaTakGoodM
import Derived.Test.YtcpifcdndhhmgaaKnU
import Derived.Test.YtcpifcdndhhmgaaKnR
import Derived.Test.YtcpifcdndhhmgaaRetRd
import Derived.Test.YtcpifcdndhhmgaaKnF
import Derived.Test.YtcpifcdndhhmgaaTakBack
import Derived.Test.YtcpifcdndhhmgaaTakGive
set_option linter.unusedVariables false
set_option linter.unusedSimpArgs false
namespace Go.Proofs.Ytcpifcdndhhmgaa
open Go.RowKit
attribute [local go_sem] ev_tmp ev_const ev_func ev_global lk_hit lk_miss uponK_value uponK_skip look_tmp look_const look_global look_func valP_value
theorem typ_size_info (x : TypV) (FA : Option Addr) (fn fc : Nat) : (Try.prog.info? 71).map (·.size) = some (typC x FA fn fc).length := by rw [typSize]; rfl
def R8 (W6 : World) (gI : Nat) (W : World) : Prop := W6.grownBy W (some gI)
theorem u8_97k (q k : Nat) (h : 97 + k = q) (hk : k < 10) : [UInt8.ofNat (97 + k)] = [u8n q] := by subst h; rfl
set_option maxRecDepth 100000 in
set_option maxHeartbeats 8000000 in
theorem good8_any (A : Option Addr) (n c : Nat) (l : List SymA) (w : World) (hA : SymsI w A n l) (hn : n ≤ c) (hc : c ≤ 9223372036854775807) :
    Calls Try.prog 28 #[.slice A n c] w fun e w' => ∃ A n c l', e = .returned (.slice A n c) ∧ Syms w' A n l' ∧ SymsOk (l'.map (·.s)) ∧ n ≤ c ∧ c ≤ 9223372036854775807 ∧ Below w.heap.size w w' := by
  have HL := Lib.hid hA.row.len
  refine calls_kw Try.func28 rfl Try.ntmps28 rfl [(0, .slice A n c)] rfl ?_
  repeat (first | refine kw_seq ?_ | refine kw_region ?_ | refine kl_nil ?_ | refine kq_then ?_ | (first | refine kl_move rfl rfl (.inl rfl) rfl rfl ?_ | refine kl_move rfl rfl (.inr rfl) rfl rfl ?_ | refine kl_const rfl rfl (.inl rfl) rfl ?_ | refine kl_const rfl rfl (.inr rfl) rfl ?_))
  refine KW.less [0, 3, 4, 5, 6] ?_
  simp only [nrm, lk, Nat.reduceBEq, cond_true, cond_false]
  refine kw_cutq (fun L W => ∃ v i l', Hid (OutM w W v i l') ∧ L = [(3, v)]) ?_ ?_
  rotate_left
  · rintro L W ⟨v, i, l', hO, rfl⟩
    obtain ⟨A9, c9, rfl, hr9, hn9, hc9, _⟩ := own_rw (E := symE) hO.out.own hO.out.len
    repeat (first | refine kw_seq ?_ | refine kw_block ?_ | refine kw_skip ?_ | refine kw_region ?_ | refine kl_nil ?_ | refine kq_then ?_ | refine kq_block ?_ | refine kw_exit ?_ | refine kq_then_exit ?_ | refine kq_block_here rfl ?_ | refine kq_block_far rfl ?_ | refine kq_again_exit ?_ | refine kw_ret ?_ | refine kq_then_ret ?_ | refine kq_block_ret ?_ | refine kq_again_ret ?_ | refine kw_ift rfl ?_ | refine kw_iff rfl ?_ | refine kl_ung rfl rfl ?_ | refine kl_skipg rfl rfl rfl rfl ?_ | refine kl_skipg0 rfl rfl rfl ?_ | (first | refine kl_move rfl rfl (.inl rfl) rfl rfl ?_ | refine kl_move rfl rfl (.inr rfl) rfl rfl ?_ | refine kl_const rfl rfl (.inl rfl) rfl ?_ | refine kl_const rfl rfl (.inr rfl) rfl ?_) | ((first | refine kl_step rfl rfl rfl fun K hK => ?_ | refine kl_step0 rfl rfl rfl fun K hK => ?_); go_simp; (try go_bits); (first | refine hK _ _ ?_ | refine hK _ ?_); clear hK K))
    exact kq_ret1 rfl rfl ⟨A9, i, c9, l', rfl, ⟨hr9, fun a ha => (hO.out.mem a ha).1⟩, hO.out.ok, hn9, hc9, hO.out.bel⟩
  refine kw_block ?_
  refine kw_loop (fun mm L W => ∃ (i : Nat) (v : Value) (l' : List SymA) (nn kk : Int), i ≤ n ∧ i ≤ 10 ∧ mm = n - i ∧ Hid (OutM w W v i l') ∧ Hid (0 ≤ nn ∧ nn ≤ 64 ∧ 0 ≤ kk ∧ kk ≤ 8 * i) ∧ L = [(0, .slice A n c), (3, v), (4, .int .i64 nn), (5, .int .i64 kk), (6, .int .i64 (i : Int))]) ⟨0, .slice none 0 0, [], 0, 0, by omega, by omega, rfl, OutM.start w, by show _ ∧ _; simp, rfl⟩ ?_
  rintro mm L W0 ⟨i, v, l', nn, kk, hi, hi10, rfl, hO, hB, rfl⟩
  by_cases hlt : i < n
  case neg =>
    have t1 : decide ((i : Int) < (n : Int)) = false := by rw [decide_eq_false_iff_not]; omega
    have t1n : decide (i < n) = false := decide_eq_false hlt
    clear hlt hi hi10 hB
    repeat (first | refine kw_seq ?_ | refine kw_block ?_ | refine kw_region ?_ | refine kl_nil ?_ | refine kq_then ?_ | refine kq_block ?_ | refine kw_ift rfl ?_ | refine kw_iff rfl ?_ | refine kw_skip ?_ | refine kw_exit ?_ | refine kq_then_exit ?_ | refine kq_block_here rfl ?_ | refine kq_block_far rfl ?_ | refine kq_again_exit ?_ | refine kl_ung rfl rfl ?_ | refine kl_skipg rfl rfl rfl rfl ?_ | (first | refine kl_move rfl rfl (.inl rfl) rfl rfl ?_ | refine kl_move rfl rfl (.inr rfl) rfl rfl ?_ | refine kl_const rfl rfl (.inl rfl) rfl ?_ | refine kl_const rfl rfl (.inr rfl) rfl ?_) | ((first | refine kl_step rfl rfl rfl fun K hK => ?_ | refine kl_step0 rfl rfl rfl fun K hK => ?_); go_simp; (try go_bits); (first | refine hK _ _ ?_ | refine hK _ ?_); clear hK K))
    refine kq_cut [3] ?_
    exact ⟨v, i, l', hO, rfl⟩
  have t1 : decide ((i : Int) < (n : Int)) = true := by rw [decide_eq_true_eq]; omega
  have t1n : decide (i < n) = true := decide_eq_true hlt
  by_cases h10 : i < 10
  case neg =>
    have t2 : decide ((i : Int) < 10) = false := by rw [decide_eq_false_iff_not]; omega
    have t2n : decide (i < 10) = false := decide_eq_false h10
    clear hlt hi hi10 hB h10
    repeat (first | refine kw_seq ?_ | refine kw_block ?_ | refine kw_region ?_ | refine kl_nil ?_ | refine kq_then ?_ | refine kq_block ?_ | refine kw_ift rfl ?_ | refine kw_iff rfl ?_ | refine kw_skip ?_ | refine kw_exit ?_ | refine kq_then_exit ?_ | refine kq_block_here rfl ?_ | refine kq_block_far rfl ?_ | refine kq_again_exit ?_ | refine kl_ung rfl rfl ?_ | refine kl_skipg rfl rfl rfl rfl ?_ | (first | refine kl_move rfl rfl (.inl rfl) rfl rfl ?_ | refine kl_move rfl rfl (.inr rfl) rfl rfl ?_ | refine kl_const rfl rfl (.inl rfl) rfl ?_ | refine kl_const rfl rfl (.inr rfl) rfl ?_) | ((first | refine kl_step rfl rfl rfl fun K hK => ?_ | refine kl_step0 rfl rfl rfl fun K hK => ?_); go_simp; (try go_bits); (first | refine hK _ _ ?_ | refine hK _ ?_); clear hK K))
    refine kq_cut [3] ?_
    exact ⟨v, i, l', hO, rfl⟩
  have t2 : decide ((i : Int) < 10) = true := by rw [decide_eq_true_eq]; omega
  have t2n : decide (i < 10) = true := decide_eq_true h10
  have u0 : (0 : Int) ≤ i := by omega
  have u1 : (i : Int) < n := by omega
  obtain ⟨i1, hi1⟩ : ∃ i1, i + 1 = i1 := ⟨_, rfl⟩
  have i3 : (i : Int) + 1 = (i1 : Int) := by omega
  have i4 : (0 : Int) ≤ i1 := by omega
  have i5 : (i1 : Int) ≤ 10 := by omega
  obtain ⟨gl, ol, p, rfl, hr, _, hx⟩ := hA.row.next hlt
  obtain ⟨oi, hoi⟩ : ∃ oi, ol + i * 7 = oi := ⟨_, rfl⟩
  have hr' : w.rangeAt gl oi (symC p) := by rw [← hoi]; exact hr
  have HR : Hid (∀ W, Below w.heap.size w W → W.rangeAt gl oi (symC p)) := fun W h j u hu => Keeps.of_below h _ _ (hr' j u hu)
  have HP := Lib.hid (hA.mem p (List.mem_of_getElem? hx.out))
  have HI := Lib.hid (And.intro hi1 (And.intro hlt h10))
  have HOI : Hid (ol + i * symE.size = oi) := hoi
  clear hr hr' hx hi1 hlt hi hi10 h10
  repeat (first | refine kw_seq ?_ | refine kw_ift rfl ?_ | refine kw_skip ?_ | refine kw_block ?_ | refine kl_ung rfl rfl ?_ | refine kw_region ?_ | refine kl_nil ?_ | refine kq_then ?_ | (first | refine kl_move rfl rfl (.inl rfl) rfl rfl ?_ | refine kl_move rfl rfl (.inr rfl) rfl rfl ?_ | refine kl_const rfl rfl (.inl rfl) rfl ?_ | refine kl_const rfl rfl (.inr rfl) rfl ?_) | ((first | refine kl_step rfl rfl rfl fun K hK => ?_ | refine kl_step0 rfl rfl rfl fun K hK => ?_); go_simp; (try go_bits); (first | refine hK _ _ ?_ | refine hK _ ?_); clear hK K))
  refine KW.less [0, 3, 4, 5, 6] ?_
  simp only [nrm, lk, Nat.reduceBEq, cond_true, cond_false]
  clear t1 t1n t2 t2n
  obtain ⟨nm, hnm⟩ : ∃ nm, vName i = nm := ⟨_, rfl⟩
  have HNM := Lib.hid hnm
  clear hnm
  refine kw_cutf (fun L W => ∃ g7 x FA fn fc, Hid (SvM W0 W g7 (A0 nm x p.s.retain [] FA fn fc none 0)) ∧ L = [(0, .slice (some ⟨gl, ol, none⟩) n c), (3, v), (4, .int .i64 nn), (5, .int .i64 kk), (6, .int .i64 (i : Int)), (7, .pointer (some ⟨g7, 0, none⟩))]) ?_ ?_
  · intro Q'
    obtain ⟨q, hq⟩ : ∃ q, 97 + i = q := ⟨_, rfl⟩
    have q1 : (97 : Int) + (i : Int) = (q : Int) := by omega
    have q2 : (0 : Int) ≤ q := by omega
    have q3 : (q : Int) ≤ 106 := by have := HI.out; omega
    have q5 : IntKind.u8.wrap (q : Int) = (q : Int) := by show (q : Int) % 256 = _; have := HI.out; omega
    have Q4 := Lib.hid (u8_97k q i hq (by have := HI.out; omega))
    clear hq
    obtain ⟨u, hu⟩ : ∃ u, UInt8.ofNat (97 + i) = u := ⟨_, rfl⟩
    rw [hu] at Q4
    have HNU : Hid (nm = [118, u]) := by show _ = _; rw [← HNM.out]; unfold vName; rw [hu]
    clear hu
    have kcat : ((⟨#[118]⟩ : ByteArray) ++ ⟨[u].toArray⟩) = ⟨[118, u].toArray⟩ := rfl
    have hR : Below w.heap.size w W0.drew := hO.out.bel.drew
    have hL : Lay W0 W0.drew [] := ⟨(Below.refl _ _).drew, trivial⟩
    have r1 : ∀ W, Below w.heap.size w W → W.rangeAt gl (oi + 1) (typC p.s.typ p.FA p.fn p.fc) := fun W h => sym_typ (HR.out W h)
    have r5 : ∀ W, Below w.heap.size w W → W.cell? ⟨gl, oi + 5, none⟩ = some (.bool p.s.retain) := fun W h => HR.out W h 5 _ rfl
    have HOW := Lib.hid hO.out.bel.size
    refine kw_region_z (Below w.heap.size w) 19 [true, true, true, false, false, true, true, true, true, true, true, false, true, true, true, true, true, true, false, false] (by kernel_rfl) (by kernel_rfl) (by kernel_rfl) hR ?_
    generalize W0.drew = v0 at *
    refine kz_seg [0, 1, 2, 6, 7, 8, 9, 10, 12, 13, 14, 15, 16] [3, 4, 5, 11, 17, 18, 19] (by kernel_rfl) ?_
    simp only [pickO, pickF, nthO, nthB]
    repeat (first | refine kf_nil ?_ | refine kf_ung rfl rfl ?_ | refine kf_skipg rfl rfl rfl rfl ?_ | refine kf_load_mid (cs := typC p.s.typ p.FA p.fn p.fc) r1 Try.underlying71 rfl (typ_size_info _ _ _ _) rfl rfl rfl rfl rfl ?_ | (first | refine kf_move rfl rfl (.inl rfl) rfl rfl ?_ | refine kf_move rfl rfl (.inr rfl) rfl rfl ?_ | refine kf_const rfl rfl (.inl rfl) rfl ?_ | refine kf_const rfl rfl (.inr rfl) rfl ?_) | (refine kf_val rfl rfl rfl ?_; apply Exists.intro; refine And.intro (fun W hW N hN => ?_) ?_; · (go_simp; (try go_bits); exact hN)))
    refine kz_more ?_
    refine kz_fork3 3 11 18 (by kernel_rfl) ?_ ?_ ?_
    all_goals simp only [pickO, pickF, nthO, nthB]
    · refine kf_ch ?_
      (first | ((first | refine kl_step rfl rfl rfl fun K hK => ?_ | refine kl_step0 rfl rfl rfl fun K hK => ?_); go_simp; (try go_bits); (first | refine hK _ _ ?_ | refine hK _ ?_); clear hK K))
      have hb := (Below.refl v0.heap.size v0).alloc (Nat.le_refl _) (.cells #[.int .u8 (q : Int)] 5)
      have hBs : Bs (v0.alloc (.cells #[.int .u8 (q : Int)] 5)) (some ⟨v0.heap.size, 0, none⟩) 1 [u] := Bs.lit 5 rfl _ rfl (by rw [Q4.out]; simp [bv, u8n]; omega)
      replace hL := hL.next hb
      replace hR := below_then hR hb hR.size
      have HBS := Lib.hid hBs
      clear hb hBs
      generalize v0.heap.size = gb at *
      generalize v0.alloc (.cells #[.int .u8 (q : Int)] 5) = v1 at *
      refine kl_nil ?_
      refine kq_f hR ?_
      repeat (first | refine kf_nil ?_ | refine kf_ung rfl rfl ?_ | refine kf_skipg rfl rfl rfl rfl ?_ | refine kf_load_mid (cs := typC p.s.typ p.FA p.fn p.fc) r1 Try.underlying71 rfl (typ_size_info _ _ _ _) rfl rfl rfl rfl rfl ?_ | (first | refine kf_move rfl rfl (.inl rfl) rfl rfl ?_ | refine kf_move rfl rfl (.inr rfl) rfl rfl ?_ | refine kf_const rfl rfl (.inl rfl) rfl ?_ | refine kf_const rfl rfl (.inr rfl) rfl ?_) | (refine kf_val rfl rfl rfl ?_; apply Exists.intro; refine And.intro (fun W hW N hN => ?_) ?_; · (go_simp; (try go_bits); exact hN)))
      refine kz_more ?_
      refine kz_fork3 4 11 18 (by kernel_rfl) ?_ ?_ ?_
      all_goals simp only [pickO, pickF, nthO, nthB]
      · have kc := convB (c := 1) HBS.out
        refine kf_ch ?_
        (first | ((first | refine kl_step rfl rfl rfl fun K hK => ?_ | refine kl_step0 rfl rfl rfl fun K hK => ?_); go_simp; (try go_bits); (first | refine hK _ _ ?_ | refine hK _ ?_); clear hK K))
        clear kc HBS
        refine kl_nil ?_
        refine kq_f hR ?_
        repeat (first | refine kf_nil ?_ | refine kf_ung rfl rfl ?_ | refine kf_skipg rfl rfl rfl rfl ?_ | refine kf_load_mid (cs := typC p.s.typ p.FA p.fn p.fc) r1 Try.underlying71 rfl (typ_size_info _ _ _ _) rfl rfl rfl rfl rfl ?_ | (first | refine kf_move rfl rfl (.inl rfl) rfl rfl ?_ | refine kf_move rfl rfl (.inr rfl) rfl rfl ?_ | refine kf_const rfl rfl (.inl rfl) rfl ?_ | refine kf_const rfl rfl (.inr rfl) rfl ?_) | (refine kf_val rfl rfl rfl ?_; apply Exists.intro; refine And.intro (fun W hW N hN => ?_) ?_; · (go_simp; (try go_bits); exact hN)))
        refine kz_more ?_
        refine kz_seg [5] [11, 17, 18, 19] (by kernel_rfl) ?_
        simp only [pickO, pickF, nthO, nthB]
        repeat (first | refine kf_nil ?_ | refine kf_ung rfl rfl ?_ | refine kf_skipg rfl rfl rfl rfl ?_ | refine kf_load_mid (cs := typC p.s.typ p.FA p.fn p.fc) r1 Try.underlying71 rfl (typ_size_info _ _ _ _) rfl rfl rfl rfl rfl ?_ | (first | refine kf_move rfl rfl (.inl rfl) rfl rfl ?_ | refine kf_move rfl rfl (.inr rfl) rfl rfl ?_ | refine kf_const rfl rfl (.inl rfl) rfl ?_ | refine kf_const rfl rfl (.inr rfl) rfl ?_) | (refine kf_val rfl rfl rfl ?_; apply Exists.intro; refine And.intro (fun W hW N hN => ?_) ?_; · (go_simp; (try go_bits); exact hN)))
        refine kz_more ?_
        refine kz_fork2 11 18 (by kernel_rfl) ?_ ?_
        all_goals simp only [pickO, pickF, nthO, nthB]
        · refine kf_ch ?_
          refine kl_call rfl rfl rfl Try.func51 rfl (by kernel_rfl) rfl ?_
          refine Calls.mono (good7_any p.s.typ p.FA p.fn p.fc v1 (HP.out.mem.typ.keep (.of_below hR))) ?_
          rintro e v2 ⟨x, FA, fn, fc, rfl, hok, hT, hb, hfar⟩
          refine ⟨_, rfl, ?_⟩
          have hfar' : ∀ a, FA = some a → W0.heap.size ≤ a.block := fun a e => Nat.le_trans hL.below.size (hfar a e)
          replace hL := hL.next hb
          replace hR := below_then hR hb hR.size
          clear hb hfar
          refine kl_nil ?_
          refine kq_f hR ?_
          repeat (first | refine kf_nil ?_ | refine kf_ung rfl rfl ?_ | refine kf_skipg rfl rfl rfl rfl ?_ | refine kf_load_mid (cs := typC p.s.typ p.FA p.fn p.fc) r1 Try.underlying71 rfl (typ_size_info _ _ _ _) rfl rfl rfl rfl rfl ?_ | (first | refine kf_move rfl rfl (.inl rfl) rfl rfl ?_ | refine kf_move rfl rfl (.inr rfl) rfl rfl ?_ | refine kf_const rfl rfl (.inl rfl) rfl ?_ | refine kf_const rfl rfl (.inr rfl) rfl ?_) | (refine kf_val rfl rfl rfl ?_; apply Exists.intro; refine And.intro (fun W hW N hN => ?_) ?_; · (go_simp; (try go_bits); exact hN)))
          refine kz_more ?_
          refine kz_seg [17, 18] [19] (by kernel_rfl) ?_
          simp only [pickO, pickF, nthO, nthB]
          repeat (first | refine kf_nil ?_ | refine kf_ung rfl rfl ?_ | refine kf_skipg rfl rfl rfl rfl ?_ | refine kf_load_mid (cs := typC p.s.typ p.FA p.fn p.fc) r1 Try.underlying71 rfl (typ_size_info _ _ _ _) rfl rfl rfl rfl rfl ?_ | (first | refine kf_move rfl rfl (.inl rfl) rfl rfl ?_ | refine kf_move rfl rfl (.inr rfl) rfl rfl ?_ | refine kf_const rfl rfl (.inl rfl) rfl ?_ | refine kf_const rfl rfl (.inr rfl) rfl ?_) | (refine kf_val rfl rfl rfl ?_; apply Exists.intro; refine And.intro (fun W hW N hN => ?_) ?_; · (go_simp; (try go_bits); exact hN)))
          refine kf_ch ?_
          refine kl_zeroL hL symZero rfl rfl rfl rfl ?_
          intro g7 v3 hg7 hb hL2
          replace hR := below_then hR hb hR.size
          have haw : 0 < fn → ∀ a, FA = some a → a.block ≠ g7 := fun hn a e => by have h1 : a.block < _ := hT.row.inQ hn a e; rw [hg7]; exact Nat.ne_of_lt h1
          replace hT := hT.keep (.of_below hb)
          clear hL hb hg7
          have hL := hL2
          clear hL2
          refine kl_nil ?_
          refine kq_f hR ?_
          repeat (first | refine kf_nil ?_ | refine kf_ung rfl rfl ?_ | refine kf_skipg rfl rfl rfl rfl ?_ | refine kf_load_mid (cs := typC p.s.typ p.FA p.fn p.fc) r1 Try.underlying71 rfl (typ_size_info _ _ _ _) rfl rfl rfl rfl rfl ?_ | (first | refine kf_move rfl rfl (.inl rfl) rfl rfl ?_ | refine kf_move rfl rfl (.inr rfl) rfl rfl ?_ | refine kf_const rfl rfl (.inl rfl) rfl ?_ | refine kf_const rfl rfl (.inr rfl) rfl ?_) | (refine kf_val rfl rfl rfl ?_; apply Exists.intro; refine And.intro (fun W hW N hN => ?_) ?_; · (go_simp; (try go_bits); exact hN)))
          repeat (first | refine kf_nil ?_ | refine kf_ung rfl rfl ?_ | refine kf_skipg rfl rfl rfl rfl ?_ | refine kf_load_mid (cs := typC p.s.typ p.FA p.fn p.fc) r1 Try.underlying71 rfl (typ_size_info _ _ _ _) rfl rfl rfl rfl rfl ?_ | (first | refine kf_move rfl rfl (.inl rfl) rfl rfl ?_ | refine kf_move rfl rfl (.inr rfl) rfl rfl ?_ | refine kf_const rfl rfl (.inl rfl) rfl ?_ | refine kf_const rfl rfl (.inr rfl) rfl ?_) | (refine kf_val rfl rfl rfl ?_; apply Exists.intro; refine And.intro (fun W hW N hN => ?_) ?_; · (go_simp; (try go_bits); exact hN)))
          refine kz_more ?_
          refine kz_last rfl rfl ?_
          refine kl_putL (cells := (symC (A0 [118, u] x p.s.retain [] FA fn fc none 0)).toArray) hL 0 rfl (sym_info _) rfl (symC_agg _) rfl rfl rfl rfl rfl (fun hL7 => ?_)
          have hS : SvM W0 (World.setRow v3 g7 (symC (A0 [118, u] x p.s.retain [] FA fn fc none 0)).toArray) g7 (A0 [118, u] x p.s.retain [] FA fn fc none 0) :=
            ⟨hL7, ⟨rw_grownR hT.row (grown_row v3 g7 _) (fun hn a e h => by injection h with h; exact haw hn a e h.symm), hT.le, hT.cap⟩, haw, hfar', hok⟩
          generalize World.setRow v3 g7 (symC (A0 [118, u] x p.s.retain [] FA fn fc none 0)).toArray = v99 at hS ⊢
          clear hL7
          refine kl_nil ?_
          refine kq_last ?_
          refine kq_cut [0, 3, 4, 5, 6, 7] ?_
          exact ⟨g7, x, FA, fn, fc, by rw [HNU.out]; exact hS, rfl⟩
        · refine kf_ch ?_
          refine kl_zeroL hL symZero rfl rfl rfl rfl ?_
          intro g7 v4 hg7 hb hL2
          replace hR := below_then hR hb hR.size
          clear hL hb hg7
          have hL := hL2
          clear hL2
          refine kl_nil ?_
          refine kq_f hR ?_
          repeat (first | refine kf_nil ?_ | refine kf_ung rfl rfl ?_ | refine kf_skipg rfl rfl rfl rfl ?_ | refine kf_load_mid (cs := typC p.s.typ p.FA p.fn p.fc) r1 Try.underlying71 rfl (typ_size_info _ _ _ _) rfl rfl rfl rfl rfl ?_ | (first | refine kf_move rfl rfl (.inl rfl) rfl rfl ?_ | refine kf_move rfl rfl (.inr rfl) rfl rfl ?_ | refine kf_const rfl rfl (.inl rfl) rfl ?_ | refine kf_const rfl rfl (.inr rfl) rfl ?_) | (refine kf_val rfl rfl rfl ?_; apply Exists.intro; refine And.intro (fun W hW N hN => ?_) ?_; · (go_simp; (try go_bits); exact hN)))
          refine kz_more ?_
          refine kz_seg [11, 17] [19] (by kernel_rfl) ?_
          simp only [pickO, pickF, nthO, nthB]
          refine kf_ch ?_
          refine kl_call rfl rfl rfl Try.func51 rfl (by kernel_rfl) rfl ?_
          refine Calls.mono (good7_any p.s.typ p.FA p.fn p.fc v4 (HP.out.mem.typ.keep (.of_below hR))) ?_
          rintro e v5 ⟨x, FA, fn, fc, rfl, hok, hT, hb, hfar⟩
          refine ⟨_, rfl, ?_⟩
          have hfar' : ∀ a, FA = some a → W0.heap.size ≤ a.block := fun a e => Nat.le_trans hL.below.size (hfar a e)
          have haw : 0 < fn → ∀ a, FA = some a → a.block ≠ g7 := fun _ a e => Nat.ne_of_gt (Nat.lt_of_lt_of_le (hL.lt 0 rfl) (hfar a e))
          replace hL := hL.next hb
          replace hR := below_then hR hb hR.size
          clear hb hfar
          refine kl_nil ?_
          refine kq_f hR ?_
          repeat (first | refine kf_nil ?_ | refine kf_ung rfl rfl ?_ | refine kf_skipg rfl rfl rfl rfl ?_ | refine kf_load_mid (cs := typC p.s.typ p.FA p.fn p.fc) r1 Try.underlying71 rfl (typ_size_info _ _ _ _) rfl rfl rfl rfl rfl ?_ | (first | refine kf_move rfl rfl (.inl rfl) rfl rfl ?_ | refine kf_move rfl rfl (.inr rfl) rfl rfl ?_ | refine kf_const rfl rfl (.inl rfl) rfl ?_ | refine kf_const rfl rfl (.inr rfl) rfl ?_) | (refine kf_val rfl rfl rfl ?_; apply Exists.intro; refine And.intro (fun W hW N hN => ?_) ?_; · (go_simp; (try go_bits); exact hN)))
          repeat (first | refine kf_nil ?_ | refine kf_ung rfl rfl ?_ | refine kf_skipg rfl rfl rfl rfl ?_ | refine kf_load_mid (cs := typC p.s.typ p.FA p.fn p.fc) r1 Try.underlying71 rfl (typ_size_info _ _ _ _) rfl rfl rfl rfl rfl ?_ | (first | refine kf_move rfl rfl (.inl rfl) rfl rfl ?_ | refine kf_move rfl rfl (.inr rfl) rfl rfl ?_ | refine kf_const rfl rfl (.inl rfl) rfl ?_ | refine kf_const rfl rfl (.inr rfl) rfl ?_) | (refine kf_val rfl rfl rfl ?_; apply Exists.intro; refine And.intro (fun W hW N hN => ?_) ?_; · (go_simp; (try go_bits); exact hN)))
          refine kz_more ?_
          refine kz_last rfl rfl ?_
          refine kl_putL (cells := (symC (A0 [118, u] x p.s.retain [] FA fn fc none 0)).toArray) hL 0 rfl (sym_info _) rfl (symC_agg _) rfl rfl rfl rfl rfl (fun hL7 => ?_)
          have hS : SvM W0 (World.setRow v5 g7 (symC (A0 [118, u] x p.s.retain [] FA fn fc none 0)).toArray) g7 (A0 [118, u] x p.s.retain [] FA fn fc none 0) :=
            ⟨hL7, ⟨rw_grownR hT.row (grown_row v5 g7 _) (fun hn a e h => by injection h with h; exact haw hn a e h.symm), hT.le, hT.cap⟩, haw, hfar', hok⟩
          generalize World.setRow v5 g7 (symC (A0 [118, u] x p.s.retain [] FA fn fc none 0)).toArray = v99 at hS ⊢
          clear hL7
          refine kl_nil ?_
          refine kq_last ?_
          refine kq_cut [0, 3, 4, 5, 6, 7] ?_
          exact ⟨g7, x, FA, fn, fc, by rw [HNU.out]; exact hS, rfl⟩
      · refine kf_ch ?_
        refine kl_call rfl rfl rfl Try.func51 rfl (by kernel_rfl) rfl ?_
        refine Calls.mono (good7_any p.s.typ p.FA p.fn p.fc v1 (HP.out.mem.typ.keep (.of_below hR))) ?_
        rintro e v6 ⟨x, FA, fn, fc, rfl, hok, hT, hb, hfar⟩
        refine ⟨_, rfl, ?_⟩
        have hfar' : ∀ a, FA = some a → W0.heap.size ≤ a.block := fun a e => Nat.le_trans hL.below.size (hfar a e)
        replace hL := hL.next hb
        replace hR := below_then hR hb hR.size
        replace HBS := Lib.hid (HBS.out.keep (Keeps.of_below hb))
        clear hb hfar
        refine kl_nil ?_
        refine kq_f hR ?_
        repeat (first | refine kf_nil ?_ | refine kf_ung rfl rfl ?_ | refine kf_skipg rfl rfl rfl rfl ?_ | refine kf_load_mid (cs := typC p.s.typ p.FA p.fn p.fc) r1 Try.underlying71 rfl (typ_size_info _ _ _ _) rfl rfl rfl rfl rfl ?_ | (first | refine kf_move rfl rfl (.inl rfl) rfl rfl ?_ | refine kf_move rfl rfl (.inr rfl) rfl rfl ?_ | refine kf_const rfl rfl (.inl rfl) rfl ?_ | refine kf_const rfl rfl (.inr rfl) rfl ?_) | (refine kf_val rfl rfl rfl ?_; apply Exists.intro; refine And.intro (fun W hW N hN => ?_) ?_; · (go_simp; (try go_bits); exact hN)))
        refine kz_more ?_
        refine kz_fork2 4 18 (by kernel_rfl) ?_ ?_
        all_goals simp only [pickO, pickF, nthO, nthB]
        · have kc := convB (c := 1) HBS.out
          refine kf_ch ?_
          (first | ((first | refine kl_step rfl rfl rfl fun K hK => ?_ | refine kl_step0 rfl rfl rfl fun K hK => ?_); go_simp; (try go_bits); (first | refine hK _ _ ?_ | refine hK _ ?_); clear hK K))
          clear kc HBS
          refine kl_nil ?_
          refine kq_f hR ?_
          repeat (first | refine kf_nil ?_ | refine kf_ung rfl rfl ?_ | refine kf_skipg rfl rfl rfl rfl ?_ | refine kf_load_mid (cs := typC p.s.typ p.FA p.fn p.fc) r1 Try.underlying71 rfl (typ_size_info _ _ _ _) rfl rfl rfl rfl rfl ?_ | (first | refine kf_move rfl rfl (.inl rfl) rfl rfl ?_ | refine kf_move rfl rfl (.inr rfl) rfl rfl ?_ | refine kf_const rfl rfl (.inl rfl) rfl ?_ | refine kf_const rfl rfl (.inr rfl) rfl ?_) | (refine kf_val rfl rfl rfl ?_; apply Exists.intro; refine And.intro (fun W hW N hN => ?_) ?_; · (go_simp; (try go_bits); exact hN)))
          refine kz_more ?_
          refine kz_seg [5, 17, 18] [19] (by kernel_rfl) ?_
          simp only [pickO, pickF, nthO, nthB]
          repeat (first | refine kf_nil ?_ | refine kf_ung rfl rfl ?_ | refine kf_skipg rfl rfl rfl rfl ?_ | refine kf_load_mid (cs := typC p.s.typ p.FA p.fn p.fc) r1 Try.underlying71 rfl (typ_size_info _ _ _ _) rfl rfl rfl rfl rfl ?_ | (first | refine kf_move rfl rfl (.inl rfl) rfl rfl ?_ | refine kf_move rfl rfl (.inr rfl) rfl rfl ?_ | refine kf_const rfl rfl (.inl rfl) rfl ?_ | refine kf_const rfl rfl (.inr rfl) rfl ?_) | (refine kf_val rfl rfl rfl ?_; apply Exists.intro; refine And.intro (fun W hW N hN => ?_) ?_; · (go_simp; (try go_bits); exact hN)))
          refine kf_ch ?_
          refine kl_zeroL hL symZero rfl rfl rfl rfl ?_
          intro g7 v7 hg7 hb hL2
          replace hR := below_then hR hb hR.size
          have haw : 0 < fn → ∀ a, FA = some a → a.block ≠ g7 := fun hn a e => by have h1 : a.block < _ := hT.row.inQ hn a e; rw [hg7]; exact Nat.ne_of_lt h1
          replace hT := hT.keep (.of_below hb)
          clear hL hb hg7
          have hL := hL2
          clear hL2
          refine kl_nil ?_
          refine kq_f hR ?_
          repeat (first | refine kf_nil ?_ | refine kf_ung rfl rfl ?_ | refine kf_skipg rfl rfl rfl rfl ?_ | refine kf_load_mid (cs := typC p.s.typ p.FA p.fn p.fc) r1 Try.underlying71 rfl (typ_size_info _ _ _ _) rfl rfl rfl rfl rfl ?_ | (first | refine kf_move rfl rfl (.inl rfl) rfl rfl ?_ | refine kf_move rfl rfl (.inr rfl) rfl rfl ?_ | refine kf_const rfl rfl (.inl rfl) rfl ?_ | refine kf_const rfl rfl (.inr rfl) rfl ?_) | (refine kf_val rfl rfl rfl ?_; apply Exists.intro; refine And.intro (fun W hW N hN => ?_) ?_; · (go_simp; (try go_bits); exact hN)))
          repeat (first | refine kf_nil ?_ | refine kf_ung rfl rfl ?_ | refine kf_skipg rfl rfl rfl rfl ?_ | refine kf_load_mid (cs := typC p.s.typ p.FA p.fn p.fc) r1 Try.underlying71 rfl (typ_size_info _ _ _ _) rfl rfl rfl rfl rfl ?_ | (first | refine kf_move rfl rfl (.inl rfl) rfl rfl ?_ | refine kf_move rfl rfl (.inr rfl) rfl rfl ?_ | refine kf_const rfl rfl (.inl rfl) rfl ?_ | refine kf_const rfl rfl (.inr rfl) rfl ?_) | (refine kf_val rfl rfl rfl ?_; apply Exists.intro; refine And.intro (fun W hW N hN => ?_) ?_; · (go_simp; (try go_bits); exact hN)))
          refine kz_more ?_
          refine kz_last rfl rfl ?_
          refine kl_putL (cells := (symC (A0 [118, u] x p.s.retain [] FA fn fc none 0)).toArray) hL 0 rfl (sym_info _) rfl (symC_agg _) rfl rfl rfl rfl rfl (fun hL7 => ?_)
          have hS : SvM W0 (World.setRow v7 g7 (symC (A0 [118, u] x p.s.retain [] FA fn fc none 0)).toArray) g7 (A0 [118, u] x p.s.retain [] FA fn fc none 0) :=
            ⟨hL7, ⟨rw_grownR hT.row (grown_row v7 g7 _) (fun hn a e h => by injection h with h; exact haw hn a e h.symm), hT.le, hT.cap⟩, haw, hfar', hok⟩
          generalize World.setRow v7 g7 (symC (A0 [118, u] x p.s.retain [] FA fn fc none 0)).toArray = v99 at hS ⊢
          clear hL7
          refine kl_nil ?_
          refine kq_last ?_
          refine kq_cut [0, 3, 4, 5, 6, 7] ?_
          exact ⟨g7, x, FA, fn, fc, by rw [HNU.out]; exact hS, rfl⟩
        · refine kf_ch ?_
          refine kl_zeroL hL symZero rfl rfl rfl rfl ?_
          intro g7 v8 hg7 hb hL2
          replace hR := below_then hR hb hR.size
          have haw : 0 < fn → ∀ a, FA = some a → a.block ≠ g7 := fun hn a e => by have h1 : a.block < _ := hT.row.inQ hn a e; rw [hg7]; exact Nat.ne_of_lt h1
          replace hT := hT.keep (.of_below hb)
          replace HBS := Lib.hid (HBS.out.keep (Keeps.of_below hb))
          clear hL hb hg7
          have hL := hL2
          clear hL2
          refine kl_nil ?_
          refine kq_f hR ?_
          repeat (first | refine kf_nil ?_ | refine kf_ung rfl rfl ?_ | refine kf_skipg rfl rfl rfl rfl ?_ | refine kf_load_mid (cs := typC p.s.typ p.FA p.fn p.fc) r1 Try.underlying71 rfl (typ_size_info _ _ _ _) rfl rfl rfl rfl rfl ?_ | (first | refine kf_move rfl rfl (.inl rfl) rfl rfl ?_ | refine kf_move rfl rfl (.inr rfl) rfl rfl ?_ | refine kf_const rfl rfl (.inl rfl) rfl ?_ | refine kf_const rfl rfl (.inr rfl) rfl ?_) | (refine kf_val rfl rfl rfl ?_; apply Exists.intro; refine And.intro (fun W hW N hN => ?_) ?_; · (go_simp; (try go_bits); exact hN)))
          refine kz_more ?_
          refine kz_seg [4, 5, 17] [19] (by kernel_rfl) ?_
          simp only [pickO, pickF, nthO, nthB]
          have kc := convB (c := 1) HBS.out
          refine kf_ch ?_
          (first | ((first | refine kl_step rfl rfl rfl fun K hK => ?_ | refine kl_step0 rfl rfl rfl fun K hK => ?_); go_simp; (try go_bits); (first | refine hK _ _ ?_ | refine hK _ ?_); clear hK K))
          clear kc HBS
          refine kl_nil ?_
          refine kq_f hR ?_
          repeat (first | refine kf_nil ?_ | refine kf_ung rfl rfl ?_ | refine kf_skipg rfl rfl rfl rfl ?_ | refine kf_load_mid (cs := typC p.s.typ p.FA p.fn p.fc) r1 Try.underlying71 rfl (typ_size_info _ _ _ _) rfl rfl rfl rfl rfl ?_ | (first | refine kf_move rfl rfl (.inl rfl) rfl rfl ?_ | refine kf_move rfl rfl (.inr rfl) rfl rfl ?_ | refine kf_const rfl rfl (.inl rfl) rfl ?_ | refine kf_const rfl rfl (.inr rfl) rfl ?_) | (refine kf_val rfl rfl rfl ?_; apply Exists.intro; refine And.intro (fun W hW N hN => ?_) ?_; · (go_simp; (try go_bits); exact hN)))
          repeat (first | refine kf_nil ?_ | refine kf_ung rfl rfl ?_ | refine kf_skipg rfl rfl rfl rfl ?_ | refine kf_load_mid (cs := typC p.s.typ p.FA p.fn p.fc) r1 Try.underlying71 rfl (typ_size_info _ _ _ _) rfl rfl rfl rfl rfl ?_ | (first | refine kf_move rfl rfl (.inl rfl) rfl rfl ?_ | refine kf_move rfl rfl (.inr rfl) rfl rfl ?_ | refine kf_const rfl rfl (.inl rfl) rfl ?_ | refine kf_const rfl rfl (.inr rfl) rfl ?_) | (refine kf_val rfl rfl rfl ?_; apply Exists.intro; refine And.intro (fun W hW N hN => ?_) ?_; · (go_simp; (try go_bits); exact hN)))
          refine kz_more ?_
          refine kz_last rfl rfl ?_
          refine kl_putL (cells := (symC (A0 [118, u] x p.s.retain [] FA fn fc none 0)).toArray) hL 0 rfl (sym_info _) rfl (symC_agg _) rfl rfl rfl rfl rfl (fun hL7 => ?_)
          have hS : SvM W0 (World.setRow v8 g7 (symC (A0 [118, u] x p.s.retain [] FA fn fc none 0)).toArray) g7 (A0 [118, u] x p.s.retain [] FA fn fc none 0) :=
            ⟨hL7, ⟨rw_grownR hT.row (grown_row v8 g7 _) (fun hn a e h => by injection h with h; exact haw hn a e h.symm), hT.le, hT.cap⟩, haw, hfar', hok⟩
          generalize World.setRow v8 g7 (symC (A0 [118, u] x p.s.retain [] FA fn fc none 0)).toArray = v99 at hS ⊢
          clear hL7
          refine kl_nil ?_
          refine kq_last ?_
          refine kq_cut [0, 3, 4, 5, 6, 7] ?_
          exact ⟨g7, x, FA, fn, fc, by rw [HNU.out]; exact hS, rfl⟩
      · refine kf_ch ?_
        refine kl_zeroL hL symZero rfl rfl rfl rfl ?_
        intro g7 v9 hg7 hb hL2
        replace hR := below_then hR hb hR.size
        replace HBS := Lib.hid (HBS.out.keep (Keeps.of_below hb))
        clear hL hb hg7
        have hL := hL2
        clear hL2
        refine kl_nil ?_
        refine kq_f hR ?_
        repeat (first | refine kf_nil ?_ | refine kf_ung rfl rfl ?_ | refine kf_skipg rfl rfl rfl rfl ?_ | refine kf_load_mid (cs := typC p.s.typ p.FA p.fn p.fc) r1 Try.underlying71 rfl (typ_size_info _ _ _ _) rfl rfl rfl rfl rfl ?_ | (first | refine kf_move rfl rfl (.inl rfl) rfl rfl ?_ | refine kf_move rfl rfl (.inr rfl) rfl rfl ?_ | refine kf_const rfl rfl (.inl rfl) rfl ?_ | refine kf_const rfl rfl (.inr rfl) rfl ?_) | (refine kf_val rfl rfl rfl ?_; apply Exists.intro; refine And.intro (fun W hW N hN => ?_) ?_; · (go_simp; (try go_bits); exact hN)))
        refine kz_more ?_
        refine kz_fork2 4 11 (by kernel_rfl) ?_ ?_
        all_goals simp only [pickO, pickF, nthO, nthB]
        · have kc := convB (c := 1) HBS.out
          refine kf_ch ?_
          (first | ((first | refine kl_step rfl rfl rfl fun K hK => ?_ | refine kl_step0 rfl rfl rfl fun K hK => ?_); go_simp; (try go_bits); (first | refine hK _ _ ?_ | refine hK _ ?_); clear hK K))
          clear kc HBS
          refine kl_nil ?_
          refine kq_f hR ?_
          repeat (first | refine kf_nil ?_ | refine kf_ung rfl rfl ?_ | refine kf_skipg rfl rfl rfl rfl ?_ | refine kf_load_mid (cs := typC p.s.typ p.FA p.fn p.fc) r1 Try.underlying71 rfl (typ_size_info _ _ _ _) rfl rfl rfl rfl rfl ?_ | (first | refine kf_move rfl rfl (.inl rfl) rfl rfl ?_ | refine kf_move rfl rfl (.inr rfl) rfl rfl ?_ | refine kf_const rfl rfl (.inl rfl) rfl ?_ | refine kf_const rfl rfl (.inr rfl) rfl ?_) | (refine kf_val rfl rfl rfl ?_; apply Exists.intro; refine And.intro (fun W hW N hN => ?_) ?_; · (go_simp; (try go_bits); exact hN)))
          refine kz_more ?_
          refine kz_seg [5, 11, 17] [19] (by kernel_rfl) ?_
          simp only [pickO, pickF, nthO, nthB]
          repeat (first | refine kf_nil ?_ | refine kf_ung rfl rfl ?_ | refine kf_skipg rfl rfl rfl rfl ?_ | refine kf_load_mid (cs := typC p.s.typ p.FA p.fn p.fc) r1 Try.underlying71 rfl (typ_size_info _ _ _ _) rfl rfl rfl rfl rfl ?_ | (first | refine kf_move rfl rfl (.inl rfl) rfl rfl ?_ | refine kf_move rfl rfl (.inr rfl) rfl rfl ?_ | refine kf_const rfl rfl (.inl rfl) rfl ?_ | refine kf_const rfl rfl (.inr rfl) rfl ?_) | (refine kf_val rfl rfl rfl ?_; apply Exists.intro; refine And.intro (fun W hW N hN => ?_) ?_; · (go_simp; (try go_bits); exact hN)))
          refine kf_ch ?_
          refine kl_call rfl rfl rfl Try.func51 rfl (by kernel_rfl) rfl ?_
          refine Calls.mono (good7_any p.s.typ p.FA p.fn p.fc v9 (HP.out.mem.typ.keep (.of_below hR))) ?_
          rintro e v10 ⟨x, FA, fn, fc, rfl, hok, hT, hb, hfar⟩
          refine ⟨_, rfl, ?_⟩
          have hfar' : ∀ a, FA = some a → W0.heap.size ≤ a.block := fun a e => Nat.le_trans hL.below.size (hfar a e)
          have haw : 0 < fn → ∀ a, FA = some a → a.block ≠ g7 := fun _ a e => Nat.ne_of_gt (Nat.lt_of_lt_of_le (hL.lt 0 rfl) (hfar a e))
          replace hL := hL.next hb
          replace hR := below_then hR hb hR.size
          clear hb hfar
          refine kl_nil ?_
          refine kq_f hR ?_
          repeat (first | refine kf_nil ?_ | refine kf_ung rfl rfl ?_ | refine kf_skipg rfl rfl rfl rfl ?_ | refine kf_load_mid (cs := typC p.s.typ p.FA p.fn p.fc) r1 Try.underlying71 rfl (typ_size_info _ _ _ _) rfl rfl rfl rfl rfl ?_ | (first | refine kf_move rfl rfl (.inl rfl) rfl rfl ?_ | refine kf_move rfl rfl (.inr rfl) rfl rfl ?_ | refine kf_const rfl rfl (.inl rfl) rfl ?_ | refine kf_const rfl rfl (.inr rfl) rfl ?_) | (refine kf_val rfl rfl rfl ?_; apply Exists.intro; refine And.intro (fun W hW N hN => ?_) ?_; · (go_simp; (try go_bits); exact hN)))
          repeat (first | refine kf_nil ?_ | refine kf_ung rfl rfl ?_ | refine kf_skipg rfl rfl rfl rfl ?_ | refine kf_load_mid (cs := typC p.s.typ p.FA p.fn p.fc) r1 Try.underlying71 rfl (typ_size_info _ _ _ _) rfl rfl rfl rfl rfl ?_ | (first | refine kf_move rfl rfl (.inl rfl) rfl rfl ?_ | refine kf_move rfl rfl (.inr rfl) rfl rfl ?_ | refine kf_const rfl rfl (.inl rfl) rfl ?_ | refine kf_const rfl rfl (.inr rfl) rfl ?_) | (refine kf_val rfl rfl rfl ?_; apply Exists.intro; refine And.intro (fun W hW N hN => ?_) ?_; · (go_simp; (try go_bits); exact hN)))
          refine kz_more ?_
          refine kz_last rfl rfl ?_
          refine kl_putL (cells := (symC (A0 [118, u] x p.s.retain [] FA fn fc none 0)).toArray) hL 0 rfl (sym_info _) rfl (symC_agg _) rfl rfl rfl rfl rfl (fun hL7 => ?_)
          have hS : SvM W0 (World.setRow v10 g7 (symC (A0 [118, u] x p.s.retain [] FA fn fc none 0)).toArray) g7 (A0 [118, u] x p.s.retain [] FA fn fc none 0) :=
            ⟨hL7, ⟨rw_grownR hT.row (grown_row v10 g7 _) (fun hn a e h => by injection h with h; exact haw hn a e h.symm), hT.le, hT.cap⟩, haw, hfar', hok⟩
          generalize World.setRow v10 g7 (symC (A0 [118, u] x p.s.retain [] FA fn fc none 0)).toArray = v99 at hS ⊢
          clear hL7
          refine kl_nil ?_
          refine kq_last ?_
          refine kq_cut [0, 3, 4, 5, 6, 7] ?_
          exact ⟨g7, x, FA, fn, fc, by rw [HNU.out]; exact hS, rfl⟩
        · refine kf_ch ?_
          refine kl_call rfl rfl rfl Try.func51 rfl (by kernel_rfl) rfl ?_
          refine Calls.mono (good7_any p.s.typ p.FA p.fn p.fc v9 (HP.out.mem.typ.keep (.of_below hR))) ?_
          rintro e v11 ⟨x, FA, fn, fc, rfl, hok, hT, hb, hfar⟩
          refine ⟨_, rfl, ?_⟩
          have hfar' : ∀ a, FA = some a → W0.heap.size ≤ a.block := fun a e => Nat.le_trans hL.below.size (hfar a e)
          have haw : 0 < fn → ∀ a, FA = some a → a.block ≠ g7 := fun _ a e => Nat.ne_of_gt (Nat.lt_of_lt_of_le (hL.lt 0 rfl) (hfar a e))
          replace hL := hL.next hb
          replace hR := below_then hR hb hR.size
          replace HBS := Lib.hid (HBS.out.keep (Keeps.of_below hb))
          clear hb hfar
          refine kl_nil ?_
          refine kq_f hR ?_
          repeat (first | refine kf_nil ?_ | refine kf_ung rfl rfl ?_ | refine kf_skipg rfl rfl rfl rfl ?_ | refine kf_load_mid (cs := typC p.s.typ p.FA p.fn p.fc) r1 Try.underlying71 rfl (typ_size_info _ _ _ _) rfl rfl rfl rfl rfl ?_ | (first | refine kf_move rfl rfl (.inl rfl) rfl rfl ?_ | refine kf_move rfl rfl (.inr rfl) rfl rfl ?_ | refine kf_const rfl rfl (.inl rfl) rfl ?_ | refine kf_const rfl rfl (.inr rfl) rfl ?_) | (refine kf_val rfl rfl rfl ?_; apply Exists.intro; refine And.intro (fun W hW N hN => ?_) ?_; · (go_simp; (try go_bits); exact hN)))
          refine kz_more ?_
          refine kz_seg [4, 5, 17] [19] (by kernel_rfl) ?_
          simp only [pickO, pickF, nthO, nthB]
          have kc := convB (c := 1) HBS.out
          refine kf_ch ?_
          (first | ((first | refine kl_step rfl rfl rfl fun K hK => ?_ | refine kl_step0 rfl rfl rfl fun K hK => ?_); go_simp; (try go_bits); (first | refine hK _ _ ?_ | refine hK _ ?_); clear hK K))
          clear kc HBS
          refine kl_nil ?_
          refine kq_f hR ?_
          repeat (first | refine kf_nil ?_ | refine kf_ung rfl rfl ?_ | refine kf_skipg rfl rfl rfl rfl ?_ | refine kf_load_mid (cs := typC p.s.typ p.FA p.fn p.fc) r1 Try.underlying71 rfl (typ_size_info _ _ _ _) rfl rfl rfl rfl rfl ?_ | (first | refine kf_move rfl rfl (.inl rfl) rfl rfl ?_ | refine kf_move rfl rfl (.inr rfl) rfl rfl ?_ | refine kf_const rfl rfl (.inl rfl) rfl ?_ | refine kf_const rfl rfl (.inr rfl) rfl ?_) | (refine kf_val rfl rfl rfl ?_; apply Exists.intro; refine And.intro (fun W hW N hN => ?_) ?_; · (go_simp; (try go_bits); exact hN)))
          repeat (first | refine kf_nil ?_ | refine kf_ung rfl rfl ?_ | refine kf_skipg rfl rfl rfl rfl ?_ | refine kf_load_mid (cs := typC p.s.typ p.FA p.fn p.fc) r1 Try.underlying71 rfl (typ_size_info _ _ _ _) rfl rfl rfl rfl rfl ?_ | (first | refine kf_move rfl rfl (.inl rfl) rfl rfl ?_ | refine kf_move rfl rfl (.inr rfl) rfl rfl ?_ | refine kf_const rfl rfl (.inl rfl) rfl ?_ | refine kf_const rfl rfl (.inr rfl) rfl ?_) | (refine kf_val rfl rfl rfl ?_; apply Exists.intro; refine And.intro (fun W hW N hN => ?_) ?_; · (go_simp; (try go_bits); exact hN)))
          refine kz_more ?_
          refine kz_last rfl rfl ?_
          refine kl_putL (cells := (symC (A0 [118, u] x p.s.retain [] FA fn fc none 0)).toArray) hL 0 rfl (sym_info _) rfl (symC_agg _) rfl rfl rfl rfl rfl (fun hL7 => ?_)
          have hS : SvM W0 (World.setRow v11 g7 (symC (A0 [118, u] x p.s.retain [] FA fn fc none 0)).toArray) g7 (A0 [118, u] x p.s.retain [] FA fn fc none 0) :=
            ⟨hL7, ⟨rw_grownR hT.row (grown_row v11 g7 _) (fun hn a e h => by injection h with h; exact haw hn a e h.symm), hT.le, hT.cap⟩, haw, hfar', hok⟩
          generalize World.setRow v11 g7 (symC (A0 [118, u] x p.s.retain [] FA fn fc none 0)).toArray = v99 at hS ⊢
          clear hL7
          refine kl_nil ?_
          refine kq_last ?_
          refine kq_cut [0, 3, 4, 5, 6, 7] ?_
          exact ⟨g7, x, FA, fn, fc, by rw [HNU.out]; exact hS, rfl⟩
    · refine kf_ch ?_
      refine kl_call rfl rfl rfl Try.func51 rfl (by kernel_rfl) rfl ?_
      refine Calls.mono (good7_any p.s.typ p.FA p.fn p.fc v0 (HP.out.mem.typ.keep (.of_below hR))) ?_
      rintro e v12 ⟨x, FA, fn, fc, rfl, hok, hT, hb, hfar⟩
      refine ⟨_, rfl, ?_⟩
      have hfar' : ∀ a, FA = some a → W0.heap.size ≤ a.block := fun a e => Nat.le_trans hL.below.size (hfar a e)
      replace hL := hL.next hb
      replace hR := below_then hR hb hR.size
      clear hb hfar
      refine kl_nil ?_
      refine kq_f hR ?_
      repeat (first | refine kf_nil ?_ | refine kf_ung rfl rfl ?_ | refine kf_skipg rfl rfl rfl rfl ?_ | refine kf_load_mid (cs := typC p.s.typ p.FA p.fn p.fc) r1 Try.underlying71 rfl (typ_size_info _ _ _ _) rfl rfl rfl rfl rfl ?_ | (first | refine kf_move rfl rfl (.inl rfl) rfl rfl ?_ | refine kf_move rfl rfl (.inr rfl) rfl rfl ?_ | refine kf_const rfl rfl (.inl rfl) rfl ?_ | refine kf_const rfl rfl (.inr rfl) rfl ?_) | (refine kf_val rfl rfl rfl ?_; apply Exists.intro; refine And.intro (fun W hW N hN => ?_) ?_; · (go_simp; (try go_bits); exact hN)))
      refine kz_more ?_
      refine kz_fork2 3 18 (by kernel_rfl) ?_ ?_
      all_goals simp only [pickO, pickF, nthO, nthB]
      · refine kf_ch ?_
        (first | ((first | refine kl_step rfl rfl rfl fun K hK => ?_ | refine kl_step0 rfl rfl rfl fun K hK => ?_); go_simp; (try go_bits); (first | refine hK _ _ ?_ | refine hK _ ?_); clear hK K))
        have hb := (Below.refl v12.heap.size v12).alloc (Nat.le_refl _) (.cells #[.int .u8 (q : Int)] 5)
        have hBs : Bs (v12.alloc (.cells #[.int .u8 (q : Int)] 5)) (some ⟨v12.heap.size, 0, none⟩) 1 [u] := Bs.lit 5 rfl _ rfl (by rw [Q4.out]; simp [bv, u8n]; omega)
        replace hL := hL.next hb
        replace hR := below_then hR hb hR.size
        replace hT := hT.keep (.of_below hb)
        have HBS := Lib.hid hBs
        clear hb hBs
        generalize v12.heap.size = gb at *
        generalize v12.alloc (.cells #[.int .u8 (q : Int)] 5) = v13 at *
        refine kl_nil ?_
        refine kq_f hR ?_
        repeat (first | refine kf_nil ?_ | refine kf_ung rfl rfl ?_ | refine kf_skipg rfl rfl rfl rfl ?_ | refine kf_load_mid (cs := typC p.s.typ p.FA p.fn p.fc) r1 Try.underlying71 rfl (typ_size_info _ _ _ _) rfl rfl rfl rfl rfl ?_ | (first | refine kf_move rfl rfl (.inl rfl) rfl rfl ?_ | refine kf_move rfl rfl (.inr rfl) rfl rfl ?_ | refine kf_const rfl rfl (.inl rfl) rfl ?_ | refine kf_const rfl rfl (.inr rfl) rfl ?_) | (refine kf_val rfl rfl rfl ?_; apply Exists.intro; refine And.intro (fun W hW N hN => ?_) ?_; · (go_simp; (try go_bits); exact hN)))
        refine kz_more ?_
        refine kz_fork2 4 18 (by kernel_rfl) ?_ ?_
        all_goals simp only [pickO, pickF, nthO, nthB]
        · have kc := convB (c := 1) HBS.out
          refine kf_ch ?_
          (first | ((first | refine kl_step rfl rfl rfl fun K hK => ?_ | refine kl_step0 rfl rfl rfl fun K hK => ?_); go_simp; (try go_bits); (first | refine hK _ _ ?_ | refine hK _ ?_); clear hK K))
          clear kc HBS
          refine kl_nil ?_
          refine kq_f hR ?_
          repeat (first | refine kf_nil ?_ | refine kf_ung rfl rfl ?_ | refine kf_skipg rfl rfl rfl rfl ?_ | refine kf_load_mid (cs := typC p.s.typ p.FA p.fn p.fc) r1 Try.underlying71 rfl (typ_size_info _ _ _ _) rfl rfl rfl rfl rfl ?_ | (first | refine kf_move rfl rfl (.inl rfl) rfl rfl ?_ | refine kf_move rfl rfl (.inr rfl) rfl rfl ?_ | refine kf_const rfl rfl (.inl rfl) rfl ?_ | refine kf_const rfl rfl (.inr rfl) rfl ?_) | (refine kf_val rfl rfl rfl ?_; apply Exists.intro; refine And.intro (fun W hW N hN => ?_) ?_; · (go_simp; (try go_bits); exact hN)))
          refine kz_more ?_
          refine kz_seg [5, 17, 18] [19] (by kernel_rfl) ?_
          simp only [pickO, pickF, nthO, nthB]
          repeat (first | refine kf_nil ?_ | refine kf_ung rfl rfl ?_ | refine kf_skipg rfl rfl rfl rfl ?_ | refine kf_load_mid (cs := typC p.s.typ p.FA p.fn p.fc) r1 Try.underlying71 rfl (typ_size_info _ _ _ _) rfl rfl rfl rfl rfl ?_ | (first | refine kf_move rfl rfl (.inl rfl) rfl rfl ?_ | refine kf_move rfl rfl (.inr rfl) rfl rfl ?_ | refine kf_const rfl rfl (.inl rfl) rfl ?_ | refine kf_const rfl rfl (.inr rfl) rfl ?_) | (refine kf_val rfl rfl rfl ?_; apply Exists.intro; refine And.intro (fun W hW N hN => ?_) ?_; · (go_simp; (try go_bits); exact hN)))
          refine kf_ch ?_
          refine kl_zeroL hL symZero rfl rfl rfl rfl ?_
          intro g7 v14 hg7 hb hL2
          replace hR := below_then hR hb hR.size
          have haw : 0 < fn → ∀ a, FA = some a → a.block ≠ g7 := fun hn a e => by have h1 : a.block < _ := hT.row.inQ hn a e; rw [hg7]; exact Nat.ne_of_lt h1
          replace hT := hT.keep (.of_below hb)
          clear hL hb hg7
          have hL := hL2
          clear hL2
          refine kl_nil ?_
          refine kq_f hR ?_
          repeat (first | refine kf_nil ?_ | refine kf_ung rfl rfl ?_ | refine kf_skipg rfl rfl rfl rfl ?_ | refine kf_load_mid (cs := typC p.s.typ p.FA p.fn p.fc) r1 Try.underlying71 rfl (typ_size_info _ _ _ _) rfl rfl rfl rfl rfl ?_ | (first | refine kf_move rfl rfl (.inl rfl) rfl rfl ?_ | refine kf_move rfl rfl (.inr rfl) rfl rfl ?_ | refine kf_const rfl rfl (.inl rfl) rfl ?_ | refine kf_const rfl rfl (.inr rfl) rfl ?_) | (refine kf_val rfl rfl rfl ?_; apply Exists.intro; refine And.intro (fun W hW N hN => ?_) ?_; · (go_simp; (try go_bits); exact hN)))
          repeat (first | refine kf_nil ?_ | refine kf_ung rfl rfl ?_ | refine kf_skipg rfl rfl rfl rfl ?_ | refine kf_load_mid (cs := typC p.s.typ p.FA p.fn p.fc) r1 Try.underlying71 rfl (typ_size_info _ _ _ _) rfl rfl rfl rfl rfl ?_ | (first | refine kf_move rfl rfl (.inl rfl) rfl rfl ?_ | refine kf_move rfl rfl (.inr rfl) rfl rfl ?_ | refine kf_const rfl rfl (.inl rfl) rfl ?_ | refine kf_const rfl rfl (.inr rfl) rfl ?_) | (refine kf_val rfl rfl rfl ?_; apply Exists.intro; refine And.intro (fun W hW N hN => ?_) ?_; · (go_simp; (try go_bits); exact hN)))
          refine kz_more ?_
          refine kz_last rfl rfl ?_
          refine kl_putL (cells := (symC (A0 [118, u] x p.s.retain [] FA fn fc none 0)).toArray) hL 0 rfl (sym_info _) rfl (symC_agg _) rfl rfl rfl rfl rfl (fun hL7 => ?_)
          have hS : SvM W0 (World.setRow v14 g7 (symC (A0 [118, u] x p.s.retain [] FA fn fc none 0)).toArray) g7 (A0 [118, u] x p.s.retain [] FA fn fc none 0) :=
            ⟨hL7, ⟨rw_grownR hT.row (grown_row v14 g7 _) (fun hn a e h => by injection h with h; exact haw hn a e h.symm), hT.le, hT.cap⟩, haw, hfar', hok⟩
          generalize World.setRow v14 g7 (symC (A0 [118, u] x p.s.retain [] FA fn fc none 0)).toArray = v99 at hS ⊢
          clear hL7
          refine kl_nil ?_
          refine kq_last ?_
          refine kq_cut [0, 3, 4, 5, 6, 7] ?_
          exact ⟨g7, x, FA, fn, fc, by rw [HNU.out]; exact hS, rfl⟩
        · refine kf_ch ?_
          refine kl_zeroL hL symZero rfl rfl rfl rfl ?_
          intro g7 v15 hg7 hb hL2
          replace hR := below_then hR hb hR.size
          have haw : 0 < fn → ∀ a, FA = some a → a.block ≠ g7 := fun hn a e => by have h1 : a.block < _ := hT.row.inQ hn a e; rw [hg7]; exact Nat.ne_of_lt h1
          replace hT := hT.keep (.of_below hb)
          replace HBS := Lib.hid (HBS.out.keep (Keeps.of_below hb))
          clear hL hb hg7
          have hL := hL2
          clear hL2
          refine kl_nil ?_
          refine kq_f hR ?_
          repeat (first | refine kf_nil ?_ | refine kf_ung rfl rfl ?_ | refine kf_skipg rfl rfl rfl rfl ?_ | refine kf_load_mid (cs := typC p.s.typ p.FA p.fn p.fc) r1 Try.underlying71 rfl (typ_size_info _ _ _ _) rfl rfl rfl rfl rfl ?_ | (first | refine kf_move rfl rfl (.inl rfl) rfl rfl ?_ | refine kf_move rfl rfl (.inr rfl) rfl rfl ?_ | refine kf_const rfl rfl (.inl rfl) rfl ?_ | refine kf_const rfl rfl (.inr rfl) rfl ?_) | (refine kf_val rfl rfl rfl ?_; apply Exists.intro; refine And.intro (fun W hW N hN => ?_) ?_; · (go_simp; (try go_bits); exact hN)))
          refine kz_more ?_
          refine kz_seg [4, 5, 17] [19] (by kernel_rfl) ?_
          simp only [pickO, pickF, nthO, nthB]
          have kc := convB (c := 1) HBS.out
          refine kf_ch ?_
          (first | ((first | refine kl_step rfl rfl rfl fun K hK => ?_ | refine kl_step0 rfl rfl rfl fun K hK => ?_); go_simp; (try go_bits); (first | refine hK _ _ ?_ | refine hK _ ?_); clear hK K))
          clear kc HBS
          refine kl_nil ?_
          refine kq_f hR ?_
          repeat (first | refine kf_nil ?_ | refine kf_ung rfl rfl ?_ | refine kf_skipg rfl rfl rfl rfl ?_ | refine kf_load_mid (cs := typC p.s.typ p.FA p.fn p.fc) r1 Try.underlying71 rfl (typ_size_info _ _ _ _) rfl rfl rfl rfl rfl ?_ | (first | refine kf_move rfl rfl (.inl rfl) rfl rfl ?_ | refine kf_move rfl rfl (.inr rfl) rfl rfl ?_ | refine kf_const rfl rfl (.inl rfl) rfl ?_ | refine kf_const rfl rfl (.inr rfl) rfl ?_) | (refine kf_val rfl rfl rfl ?_; apply Exists.intro; refine And.intro (fun W hW N hN => ?_) ?_; · (go_simp; (try go_bits); exact hN)))
          repeat (first | refine kf_nil ?_ | refine kf_ung rfl rfl ?_ | refine kf_skipg rfl rfl rfl rfl ?_ | refine kf_load_mid (cs := typC p.s.typ p.FA p.fn p.fc) r1 Try.underlying71 rfl (typ_size_info _ _ _ _) rfl rfl rfl rfl rfl ?_ | (first | refine kf_move rfl rfl (.inl rfl) rfl rfl ?_ | refine kf_move rfl rfl (.inr rfl) rfl rfl ?_ | refine kf_const rfl rfl (.inl rfl) rfl ?_ | refine kf_const rfl rfl (.inr rfl) rfl ?_) | (refine kf_val rfl rfl rfl ?_; apply Exists.intro; refine And.intro (fun W hW N hN => ?_) ?_; · (go_simp; (try go_bits); exact hN)))
          refine kz_more ?_
          refine kz_last rfl rfl ?_
          refine kl_putL (cells := (symC (A0 [118, u] x p.s.retain [] FA fn fc none 0)).toArray) hL 0 rfl (sym_info _) rfl (symC_agg _) rfl rfl rfl rfl rfl (fun hL7 => ?_)
          have hS : SvM W0 (World.setRow v15 g7 (symC (A0 [118, u] x p.s.retain [] FA fn fc none 0)).toArray) g7 (A0 [118, u] x p.s.retain [] FA fn fc none 0) :=
            ⟨hL7, ⟨rw_grownR hT.row (grown_row v15 g7 _) (fun hn a e h => by injection h with h; exact haw hn a e h.symm), hT.le, hT.cap⟩, haw, hfar', hok⟩
          generalize World.setRow v15 g7 (symC (A0 [118, u] x p.s.retain [] FA fn fc none 0)).toArray = v99 at hS ⊢
          clear hL7
          refine kl_nil ?_
          refine kq_last ?_
          refine kq_cut [0, 3, 4, 5, 6, 7] ?_
          exact ⟨g7, x, FA, fn, fc, by rw [HNU.out]; exact hS, rfl⟩
      · refine kf_ch ?_
        refine kl_zeroL hL symZero rfl rfl rfl rfl ?_
        intro g7 v16 hg7 hb hL2
        replace hR := below_then hR hb hR.size
        have haw : 0 < fn → ∀ a, FA = some a → a.block ≠ g7 := fun hn a e => by have h1 : a.block < _ := hT.row.inQ hn a e; rw [hg7]; exact Nat.ne_of_lt h1
        replace hT := hT.keep (.of_below hb)
        clear hL hb hg7
        have hL := hL2
        clear hL2
        refine kl_nil ?_
        refine kq_f hR ?_
        repeat (first | refine kf_nil ?_ | refine kf_ung rfl rfl ?_ | refine kf_skipg rfl rfl rfl rfl ?_ | refine kf_load_mid (cs := typC p.s.typ p.FA p.fn p.fc) r1 Try.underlying71 rfl (typ_size_info _ _ _ _) rfl rfl rfl rfl rfl ?_ | (first | refine kf_move rfl rfl (.inl rfl) rfl rfl ?_ | refine kf_move rfl rfl (.inr rfl) rfl rfl ?_ | refine kf_const rfl rfl (.inl rfl) rfl ?_ | refine kf_const rfl rfl (.inr rfl) rfl ?_) | (refine kf_val rfl rfl rfl ?_; apply Exists.intro; refine And.intro (fun W hW N hN => ?_) ?_; · (go_simp; (try go_bits); exact hN)))
        refine kz_more ?_
        refine kz_seg [3, 4, 5, 17] [19] (by kernel_rfl) ?_
        simp only [pickO, pickF, nthO, nthB]
        refine kf_ch ?_
        (first | ((first | refine kl_step rfl rfl rfl fun K hK => ?_ | refine kl_step0 rfl rfl rfl fun K hK => ?_); go_simp; (try go_bits); (first | refine hK _ _ ?_ | refine hK _ ?_); clear hK K))
        have hb := (Below.refl v16.heap.size v16).alloc (Nat.le_refl _) (.cells #[.int .u8 (q : Int)] 5)
        have hBs : Bs (v16.alloc (.cells #[.int .u8 (q : Int)] 5)) (some ⟨v16.heap.size, 0, none⟩) 1 [u] := Bs.lit 5 rfl _ rfl (by rw [Q4.out]; simp [bv, u8n]; omega)
        replace hL := hL.next hb
        replace hR := below_then hR hb hR.size
        replace hT := hT.keep (.of_below hb)
        have HBS := Lib.hid hBs
        clear hb hBs
        generalize v16.heap.size = gb at *
        generalize v16.alloc (.cells #[.int .u8 (q : Int)] 5) = v17 at *
        refine kl_nil ?_
        refine kq_f hR ?_
        repeat (first | refine kf_nil ?_ | refine kf_ung rfl rfl ?_ | refine kf_skipg rfl rfl rfl rfl ?_ | refine kf_load_mid (cs := typC p.s.typ p.FA p.fn p.fc) r1 Try.underlying71 rfl (typ_size_info _ _ _ _) rfl rfl rfl rfl rfl ?_ | (first | refine kf_move rfl rfl (.inl rfl) rfl rfl ?_ | refine kf_move rfl rfl (.inr rfl) rfl rfl ?_ | refine kf_const rfl rfl (.inl rfl) rfl ?_ | refine kf_const rfl rfl (.inr rfl) rfl ?_) | (refine kf_val rfl rfl rfl ?_; apply Exists.intro; refine And.intro (fun W hW N hN => ?_) ?_; · (go_simp; (try go_bits); exact hN)))
        have kc := convB (c := 1) HBS.out
        refine kf_ch ?_
        (first | ((first | refine kl_step rfl rfl rfl fun K hK => ?_ | refine kl_step0 rfl rfl rfl fun K hK => ?_); go_simp; (try go_bits); (first | refine hK _ _ ?_ | refine hK _ ?_); clear hK K))
        clear kc HBS
        refine kl_nil ?_
        refine kq_f hR ?_
        repeat (first | refine kf_nil ?_ | refine kf_ung rfl rfl ?_ | refine kf_skipg rfl rfl rfl rfl ?_ | refine kf_load_mid (cs := typC p.s.typ p.FA p.fn p.fc) r1 Try.underlying71 rfl (typ_size_info _ _ _ _) rfl rfl rfl rfl rfl ?_ | (first | refine kf_move rfl rfl (.inl rfl) rfl rfl ?_ | refine kf_move rfl rfl (.inr rfl) rfl rfl ?_ | refine kf_const rfl rfl (.inl rfl) rfl ?_ | refine kf_const rfl rfl (.inr rfl) rfl ?_) | (refine kf_val rfl rfl rfl ?_; apply Exists.intro; refine And.intro (fun W hW N hN => ?_) ?_; · (go_simp; (try go_bits); exact hN)))
        repeat (first | refine kf_nil ?_ | refine kf_ung rfl rfl ?_ | refine kf_skipg rfl rfl rfl rfl ?_ | refine kf_load_mid (cs := typC p.s.typ p.FA p.fn p.fc) r1 Try.underlying71 rfl (typ_size_info _ _ _ _) rfl rfl rfl rfl rfl ?_ | (first | refine kf_move rfl rfl (.inl rfl) rfl rfl ?_ | refine kf_move rfl rfl (.inr rfl) rfl rfl ?_ | refine kf_const rfl rfl (.inl rfl) rfl ?_ | refine kf_const rfl rfl (.inr rfl) rfl ?_) | (refine kf_val rfl rfl rfl ?_; apply Exists.intro; refine And.intro (fun W hW N hN => ?_) ?_; · (go_simp; (try go_bits); exact hN)))
        refine kz_more ?_
        refine kz_last rfl rfl ?_
        refine kl_putL (cells := (symC (A0 [118, u] x p.s.retain [] FA fn fc none 0)).toArray) hL 0 rfl (sym_info _) rfl (symC_agg _) rfl rfl rfl rfl rfl (fun hL7 => ?_)
        have hS : SvM W0 (World.setRow v17 g7 (symC (A0 [118, u] x p.s.retain [] FA fn fc none 0)).toArray) g7 (A0 [118, u] x p.s.retain [] FA fn fc none 0) :=
          ⟨hL7, ⟨rw_grownR hT.row (grown_row v17 g7 _) (fun hn a e h => by injection h with h; exact haw hn a e h.symm), hT.le, hT.cap⟩, haw, hfar', hok⟩
        generalize World.setRow v17 g7 (symC (A0 [118, u] x p.s.retain [] FA fn fc none 0)).toArray = v99 at hS ⊢
        clear hL7
        refine kl_nil ?_
        refine kq_last ?_
        refine kq_cut [0, 3, 4, 5, 6, 7] ?_
        exact ⟨g7, x, FA, fn, fc, by rw [HNU.out]; exact hS, rfl⟩
    · refine kf_ch ?_
      refine kl_zeroL hL symZero rfl rfl rfl rfl ?_
      intro g7 v18 hg7 hb hL2
      replace hR := below_then hR hb hR.size
      clear hL hb hg7
      have hL := hL2
      clear hL2
      refine kl_nil ?_
      refine kq_f hR ?_
      repeat (first | refine kf_nil ?_ | refine kf_ung rfl rfl ?_ | refine kf_skipg rfl rfl rfl rfl ?_ | refine kf_load_mid (cs := typC p.s.typ p.FA p.fn p.fc) r1 Try.underlying71 rfl (typ_size_info _ _ _ _) rfl rfl rfl rfl rfl ?_ | (first | refine kf_move rfl rfl (.inl rfl) rfl rfl ?_ | refine kf_move rfl rfl (.inr rfl) rfl rfl ?_ | refine kf_const rfl rfl (.inl rfl) rfl ?_ | refine kf_const rfl rfl (.inr rfl) rfl ?_) | (refine kf_val rfl rfl rfl ?_; apply Exists.intro; refine And.intro (fun W hW N hN => ?_) ?_; · (go_simp; (try go_bits); exact hN)))
      refine kz_more ?_
      refine kz_fork2 3 11 (by kernel_rfl) ?_ ?_
      all_goals simp only [pickO, pickF, nthO, nthB]
      · refine kf_ch ?_
        (first | ((first | refine kl_step rfl rfl rfl fun K hK => ?_ | refine kl_step0 rfl rfl rfl fun K hK => ?_); go_simp; (try go_bits); (first | refine hK _ _ ?_ | refine hK _ ?_); clear hK K))
        have hb := (Below.refl v18.heap.size v18).alloc (Nat.le_refl _) (.cells #[.int .u8 (q : Int)] 5)
        have hBs : Bs (v18.alloc (.cells #[.int .u8 (q : Int)] 5)) (some ⟨v18.heap.size, 0, none⟩) 1 [u] := Bs.lit 5 rfl _ rfl (by rw [Q4.out]; simp [bv, u8n]; omega)
        replace hL := hL.next hb
        replace hR := below_then hR hb hR.size
        have HBS := Lib.hid hBs
        clear hb hBs
        generalize v18.heap.size = gb at *
        generalize v18.alloc (.cells #[.int .u8 (q : Int)] 5) = v19 at *
        refine kl_nil ?_
        refine kq_f hR ?_
        repeat (first | refine kf_nil ?_ | refine kf_ung rfl rfl ?_ | refine kf_skipg rfl rfl rfl rfl ?_ | refine kf_load_mid (cs := typC p.s.typ p.FA p.fn p.fc) r1 Try.underlying71 rfl (typ_size_info _ _ _ _) rfl rfl rfl rfl rfl ?_ | (first | refine kf_move rfl rfl (.inl rfl) rfl rfl ?_ | refine kf_move rfl rfl (.inr rfl) rfl rfl ?_ | refine kf_const rfl rfl (.inl rfl) rfl ?_ | refine kf_const rfl rfl (.inr rfl) rfl ?_) | (refine kf_val rfl rfl rfl ?_; apply Exists.intro; refine And.intro (fun W hW N hN => ?_) ?_; · (go_simp; (try go_bits); exact hN)))
        refine kz_more ?_
        refine kz_fork2 4 11 (by kernel_rfl) ?_ ?_
        all_goals simp only [pickO, pickF, nthO, nthB]
        · have kc := convB (c := 1) HBS.out
          refine kf_ch ?_
          (first | ((first | refine kl_step rfl rfl rfl fun K hK => ?_ | refine kl_step0 rfl rfl rfl fun K hK => ?_); go_simp; (try go_bits); (first | refine hK _ _ ?_ | refine hK _ ?_); clear hK K))
          clear kc HBS
          refine kl_nil ?_
          refine kq_f hR ?_
          repeat (first | refine kf_nil ?_ | refine kf_ung rfl rfl ?_ | refine kf_skipg rfl rfl rfl rfl ?_ | refine kf_load_mid (cs := typC p.s.typ p.FA p.fn p.fc) r1 Try.underlying71 rfl (typ_size_info _ _ _ _) rfl rfl rfl rfl rfl ?_ | (first | refine kf_move rfl rfl (.inl rfl) rfl rfl ?_ | refine kf_move rfl rfl (.inr rfl) rfl rfl ?_ | refine kf_const rfl rfl (.inl rfl) rfl ?_ | refine kf_const rfl rfl (.inr rfl) rfl ?_) | (refine kf_val rfl rfl rfl ?_; apply Exists.intro; refine And.intro (fun W hW N hN => ?_) ?_; · (go_simp; (try go_bits); exact hN)))
          refine kz_more ?_
          refine kz_seg [5, 11, 17] [19] (by kernel_rfl) ?_
          simp only [pickO, pickF, nthO, nthB]
          repeat (first | refine kf_nil ?_ | refine kf_ung rfl rfl ?_ | refine kf_skipg rfl rfl rfl rfl ?_ | refine kf_load_mid (cs := typC p.s.typ p.FA p.fn p.fc) r1 Try.underlying71 rfl (typ_size_info _ _ _ _) rfl rfl rfl rfl rfl ?_ | (first | refine kf_move rfl rfl (.inl rfl) rfl rfl ?_ | refine kf_move rfl rfl (.inr rfl) rfl rfl ?_ | refine kf_const rfl rfl (.inl rfl) rfl ?_ | refine kf_const rfl rfl (.inr rfl) rfl ?_) | (refine kf_val rfl rfl rfl ?_; apply Exists.intro; refine And.intro (fun W hW N hN => ?_) ?_; · (go_simp; (try go_bits); exact hN)))
          refine kf_ch ?_
          refine kl_call rfl rfl rfl Try.func51 rfl (by kernel_rfl) rfl ?_
          refine Calls.mono (good7_any p.s.typ p.FA p.fn p.fc v19 (HP.out.mem.typ.keep (.of_below hR))) ?_
          rintro e v20 ⟨x, FA, fn, fc, rfl, hok, hT, hb, hfar⟩
          refine ⟨_, rfl, ?_⟩
          have hfar' : ∀ a, FA = some a → W0.heap.size ≤ a.block := fun a e => Nat.le_trans hL.below.size (hfar a e)
          have haw : 0 < fn → ∀ a, FA = some a → a.block ≠ g7 := fun _ a e => Nat.ne_of_gt (Nat.lt_of_lt_of_le (hL.lt 0 rfl) (hfar a e))
          replace hL := hL.next hb
          replace hR := below_then hR hb hR.size
          clear hb hfar
          refine kl_nil ?_
          refine kq_f hR ?_
          repeat (first | refine kf_nil ?_ | refine kf_ung rfl rfl ?_ | refine kf_skipg rfl rfl rfl rfl ?_ | refine kf_load_mid (cs := typC p.s.typ p.FA p.fn p.fc) r1 Try.underlying71 rfl (typ_size_info _ _ _ _) rfl rfl rfl rfl rfl ?_ | (first | refine kf_move rfl rfl (.inl rfl) rfl rfl ?_ | refine kf_move rfl rfl (.inr rfl) rfl rfl ?_ | refine kf_const rfl rfl (.inl rfl) rfl ?_ | refine kf_const rfl rfl (.inr rfl) rfl ?_) | (refine kf_val rfl rfl rfl ?_; apply Exists.intro; refine And.intro (fun W hW N hN => ?_) ?_; · (go_simp; (try go_bits); exact hN)))
          repeat (first | refine kf_nil ?_ | refine kf_ung rfl rfl ?_ | refine kf_skipg rfl rfl rfl rfl ?_ | refine kf_load_mid (cs := typC p.s.typ p.FA p.fn p.fc) r1 Try.underlying71 rfl (typ_size_info _ _ _ _) rfl rfl rfl rfl rfl ?_ | (first | refine kf_move rfl rfl (.inl rfl) rfl rfl ?_ | refine kf_move rfl rfl (.inr rfl) rfl rfl ?_ | refine kf_const rfl rfl (.inl rfl) rfl ?_ | refine kf_const rfl rfl (.inr rfl) rfl ?_) | (refine kf_val rfl rfl rfl ?_; apply Exists.intro; refine And.intro (fun W hW N hN => ?_) ?_; · (go_simp; (try go_bits); exact hN)))
          refine kz_more ?_
          refine kz_last rfl rfl ?_
          refine kl_putL (cells := (symC (A0 [118, u] x p.s.retain [] FA fn fc none 0)).toArray) hL 0 rfl (sym_info _) rfl (symC_agg _) rfl rfl rfl rfl rfl (fun hL7 => ?_)
          have hS : SvM W0 (World.setRow v20 g7 (symC (A0 [118, u] x p.s.retain [] FA fn fc none 0)).toArray) g7 (A0 [118, u] x p.s.retain [] FA fn fc none 0) :=
            ⟨hL7, ⟨rw_grownR hT.row (grown_row v20 g7 _) (fun hn a e h => by injection h with h; exact haw hn a e h.symm), hT.le, hT.cap⟩, haw, hfar', hok⟩
          generalize World.setRow v20 g7 (symC (A0 [118, u] x p.s.retain [] FA fn fc none 0)).toArray = v99 at hS ⊢
          clear hL7
          refine kl_nil ?_
          refine kq_last ?_
          refine kq_cut [0, 3, 4, 5, 6, 7] ?_
          exact ⟨g7, x, FA, fn, fc, by rw [HNU.out]; exact hS, rfl⟩
        · refine kf_ch ?_
          refine kl_call rfl rfl rfl Try.func51 rfl (by kernel_rfl) rfl ?_
          refine Calls.mono (good7_any p.s.typ p.FA p.fn p.fc v19 (HP.out.mem.typ.keep (.of_below hR))) ?_
          rintro e v21 ⟨x, FA, fn, fc, rfl, hok, hT, hb, hfar⟩
          refine ⟨_, rfl, ?_⟩
          have hfar' : ∀ a, FA = some a → W0.heap.size ≤ a.block := fun a e => Nat.le_trans hL.below.size (hfar a e)
          have haw : 0 < fn → ∀ a, FA = some a → a.block ≠ g7 := fun _ a e => Nat.ne_of_gt (Nat.lt_of_lt_of_le (hL.lt 0 rfl) (hfar a e))
          replace hL := hL.next hb
          replace hR := below_then hR hb hR.size
          replace HBS := Lib.hid (HBS.out.keep (Keeps.of_below hb))
          clear hb hfar
          refine kl_nil ?_
          refine kq_f hR ?_
          repeat (first | refine kf_nil ?_ | refine kf_ung rfl rfl ?_ | refine kf_skipg rfl rfl rfl rfl ?_ | refine kf_load_mid (cs := typC p.s.typ p.FA p.fn p.fc) r1 Try.underlying71 rfl (typ_size_info _ _ _ _) rfl rfl rfl rfl rfl ?_ | (first | refine kf_move rfl rfl (.inl rfl) rfl rfl ?_ | refine kf_move rfl rfl (.inr rfl) rfl rfl ?_ | refine kf_const rfl rfl (.inl rfl) rfl ?_ | refine kf_const rfl rfl (.inr rfl) rfl ?_) | (refine kf_val rfl rfl rfl ?_; apply Exists.intro; refine And.intro (fun W hW N hN => ?_) ?_; · (go_simp; (try go_bits); exact hN)))
          refine kz_more ?_
          refine kz_seg [4, 5, 17] [19] (by kernel_rfl) ?_
          simp only [pickO, pickF, nthO, nthB]
          have kc := convB (c := 1) HBS.out
          refine kf_ch ?_
          (first | ((first | refine kl_step rfl rfl rfl fun K hK => ?_ | refine kl_step0 rfl rfl rfl fun K hK => ?_); go_simp; (try go_bits); (first | refine hK _ _ ?_ | refine hK _ ?_); clear hK K))
          clear kc HBS
          refine kl_nil ?_
          refine kq_f hR ?_
          repeat (first | refine kf_nil ?_ | refine kf_ung rfl rfl ?_ | refine kf_skipg rfl rfl rfl rfl ?_ | refine kf_load_mid (cs := typC p.s.typ p.FA p.fn p.fc) r1 Try.underlying71 rfl (typ_size_info _ _ _ _) rfl rfl rfl rfl rfl ?_ | (first | refine kf_move rfl rfl (.inl rfl) rfl rfl ?_ | refine kf_move rfl rfl (.inr rfl) rfl rfl ?_ | refine kf_const rfl rfl (.inl rfl) rfl ?_ | refine kf_const rfl rfl (.inr rfl) rfl ?_) | (refine kf_val rfl rfl rfl ?_; apply Exists.intro; refine And.intro (fun W hW N hN => ?_) ?_; · (go_simp; (try go_bits); exact hN)))
          repeat (first | refine kf_nil ?_ | refine kf_ung rfl rfl ?_ | refine kf_skipg rfl rfl rfl rfl ?_ | refine kf_load_mid (cs := typC p.s.typ p.FA p.fn p.fc) r1 Try.underlying71 rfl (typ_size_info _ _ _ _) rfl rfl rfl rfl rfl ?_ | (first | refine kf_move rfl rfl (.inl rfl) rfl rfl ?_ | refine kf_move rfl rfl (.inr rfl) rfl rfl ?_ | refine kf_const rfl rfl (.inl rfl) rfl ?_ | refine kf_const rfl rfl (.inr rfl) rfl ?_) | (refine kf_val rfl rfl rfl ?_; apply Exists.intro; refine And.intro (fun W hW N hN => ?_) ?_; · (go_simp; (try go_bits); exact hN)))
          refine kz_more ?_
          refine kz_last rfl rfl ?_
          refine kl_putL (cells := (symC (A0 [118, u] x p.s.retain [] FA fn fc none 0)).toArray) hL 0 rfl (sym_info _) rfl (symC_agg _) rfl rfl rfl rfl rfl (fun hL7 => ?_)
          have hS : SvM W0 (World.setRow v21 g7 (symC (A0 [118, u] x p.s.retain [] FA fn fc none 0)).toArray) g7 (A0 [118, u] x p.s.retain [] FA fn fc none 0) :=
            ⟨hL7, ⟨rw_grownR hT.row (grown_row v21 g7 _) (fun hn a e h => by injection h with h; exact haw hn a e h.symm), hT.le, hT.cap⟩, haw, hfar', hok⟩
          generalize World.setRow v21 g7 (symC (A0 [118, u] x p.s.retain [] FA fn fc none 0)).toArray = v99 at hS ⊢
          clear hL7
          refine kl_nil ?_
          refine kq_last ?_
          refine kq_cut [0, 3, 4, 5, 6, 7] ?_
          exact ⟨g7, x, FA, fn, fc, by rw [HNU.out]; exact hS, rfl⟩
      · refine kf_ch ?_
        refine kl_call rfl rfl rfl Try.func51 rfl (by kernel_rfl) rfl ?_
        refine Calls.mono (good7_any p.s.typ p.FA p.fn p.fc v18 (HP.out.mem.typ.keep (.of_below hR))) ?_
        rintro e v22 ⟨x, FA, fn, fc, rfl, hok, hT, hb, hfar⟩
        refine ⟨_, rfl, ?_⟩
        have hfar' : ∀ a, FA = some a → W0.heap.size ≤ a.block := fun a e => Nat.le_trans hL.below.size (hfar a e)
        have haw : 0 < fn → ∀ a, FA = some a → a.block ≠ g7 := fun _ a e => Nat.ne_of_gt (Nat.lt_of_lt_of_le (hL.lt 0 rfl) (hfar a e))
        replace hL := hL.next hb
        replace hR := below_then hR hb hR.size
        clear hb hfar
        refine kl_nil ?_
        refine kq_f hR ?_
        repeat (first | refine kf_nil ?_ | refine kf_ung rfl rfl ?_ | refine kf_skipg rfl rfl rfl rfl ?_ | refine kf_load_mid (cs := typC p.s.typ p.FA p.fn p.fc) r1 Try.underlying71 rfl (typ_size_info _ _ _ _) rfl rfl rfl rfl rfl ?_ | (first | refine kf_move rfl rfl (.inl rfl) rfl rfl ?_ | refine kf_move rfl rfl (.inr rfl) rfl rfl ?_ | refine kf_const rfl rfl (.inl rfl) rfl ?_ | refine kf_const rfl rfl (.inr rfl) rfl ?_) | (refine kf_val rfl rfl rfl ?_; apply Exists.intro; refine And.intro (fun W hW N hN => ?_) ?_; · (go_simp; (try go_bits); exact hN)))
        refine kz_more ?_
        refine kz_seg [3, 4, 5, 17] [19] (by kernel_rfl) ?_
        simp only [pickO, pickF, nthO, nthB]
        refine kf_ch ?_
        (first | ((first | refine kl_step rfl rfl rfl fun K hK => ?_ | refine kl_step0 rfl rfl rfl fun K hK => ?_); go_simp; (try go_bits); (first | refine hK _ _ ?_ | refine hK _ ?_); clear hK K))
        have hb := (Below.refl v22.heap.size v22).alloc (Nat.le_refl _) (.cells #[.int .u8 (q : Int)] 5)
        have hBs : Bs (v22.alloc (.cells #[.int .u8 (q : Int)] 5)) (some ⟨v22.heap.size, 0, none⟩) 1 [u] := Bs.lit 5 rfl _ rfl (by rw [Q4.out]; simp [bv, u8n]; omega)
        replace hL := hL.next hb
        replace hR := below_then hR hb hR.size
        replace hT := hT.keep (.of_below hb)
        have HBS := Lib.hid hBs
        clear hb hBs
        generalize v22.heap.size = gb at *
        generalize v22.alloc (.cells #[.int .u8 (q : Int)] 5) = v23 at *
        refine kl_nil ?_
        refine kq_f hR ?_
        repeat (first | refine kf_nil ?_ | refine kf_ung rfl rfl ?_ | refine kf_skipg rfl rfl rfl rfl ?_ | refine kf_load_mid (cs := typC p.s.typ p.FA p.fn p.fc) r1 Try.underlying71 rfl (typ_size_info _ _ _ _) rfl rfl rfl rfl rfl ?_ | (first | refine kf_move rfl rfl (.inl rfl) rfl rfl ?_ | refine kf_move rfl rfl (.inr rfl) rfl rfl ?_ | refine kf_const rfl rfl (.inl rfl) rfl ?_ | refine kf_const rfl rfl (.inr rfl) rfl ?_) | (refine kf_val rfl rfl rfl ?_; apply Exists.intro; refine And.intro (fun W hW N hN => ?_) ?_; · (go_simp; (try go_bits); exact hN)))
        have kc := convB (c := 1) HBS.out
        refine kf_ch ?_
        (first | ((first | refine kl_step rfl rfl rfl fun K hK => ?_ | refine kl_step0 rfl rfl rfl fun K hK => ?_); go_simp; (try go_bits); (first | refine hK _ _ ?_ | refine hK _ ?_); clear hK K))
        clear kc HBS
        refine kl_nil ?_
        refine kq_f hR ?_
        repeat (first | refine kf_nil ?_ | refine kf_ung rfl rfl ?_ | refine kf_skipg rfl rfl rfl rfl ?_ | refine kf_load_mid (cs := typC p.s.typ p.FA p.fn p.fc) r1 Try.underlying71 rfl (typ_size_info _ _ _ _) rfl rfl rfl rfl rfl ?_ | (first | refine kf_move rfl rfl (.inl rfl) rfl rfl ?_ | refine kf_move rfl rfl (.inr rfl) rfl rfl ?_ | refine kf_const rfl rfl (.inl rfl) rfl ?_ | refine kf_const rfl rfl (.inr rfl) rfl ?_) | (refine kf_val rfl rfl rfl ?_; apply Exists.intro; refine And.intro (fun W hW N hN => ?_) ?_; · (go_simp; (try go_bits); exact hN)))
        repeat (first | refine kf_nil ?_ | refine kf_ung rfl rfl ?_ | refine kf_skipg rfl rfl rfl rfl ?_ | refine kf_load_mid (cs := typC p.s.typ p.FA p.fn p.fc) r1 Try.underlying71 rfl (typ_size_info _ _ _ _) rfl rfl rfl rfl rfl ?_ | (first | refine kf_move rfl rfl (.inl rfl) rfl rfl ?_ | refine kf_move rfl rfl (.inr rfl) rfl rfl ?_ | refine kf_const rfl rfl (.inl rfl) rfl ?_ | refine kf_const rfl rfl (.inr rfl) rfl ?_) | (refine kf_val rfl rfl rfl ?_; apply Exists.intro; refine And.intro (fun W hW N hN => ?_) ?_; · (go_simp; (try go_bits); exact hN)))
        refine kz_more ?_
        refine kz_last rfl rfl ?_
        refine kl_putL (cells := (symC (A0 [118, u] x p.s.retain [] FA fn fc none 0)).toArray) hL 0 rfl (sym_info _) rfl (symC_agg _) rfl rfl rfl rfl rfl (fun hL7 => ?_)
        have hS : SvM W0 (World.setRow v23 g7 (symC (A0 [118, u] x p.s.retain [] FA fn fc none 0)).toArray) g7 (A0 [118, u] x p.s.retain [] FA fn fc none 0) :=
          ⟨hL7, ⟨rw_grownR hT.row (grown_row v23 g7 _) (fun hn a e h => by injection h with h; exact haw hn a e h.symm), hT.le, hT.cap⟩, haw, hfar', hok⟩
        generalize World.setRow v23 g7 (symC (A0 [118, u] x p.s.retain [] FA fn fc none 0)).toArray = v99 at hS ⊢
        clear hL7
        refine kl_nil ?_
        refine kq_last ?_
        refine kq_cut [0, 3, 4, 5, 6, 7] ?_
        exact ⟨g7, x, FA, fn, fc, by rw [HNU.out]; exact hS, rfl⟩
  rintro L W ⟨g7, x, FA, fn, fc, hS, rfl⟩
  obtain ⟨r0, hr0⟩ : ∃ r0, p.s.retain = r0 := ⟨_, rfl⟩
  rw [hr0] at hS
  clear hr0
  have HTO : Hid (TypOk x) := hS.out.ok
  have hfl : x.fields.length = fn := hS.out.typ.row.len
  obtain ⟨m, hm⟩ : ∃ m : Nat, sizeP x = (m : Int) ∧ 1 ≤ m ∧ m ≤ 8 := by
    have h1 := base_len (s := ⟨[], x, false, []⟩) HTO.out
    have h2 := base_pos (s := ⟨[], x, false, []⟩) HTO.out
    have h3 := base_le (s := ⟨[], x, false, []⟩) HTO.out
    exact ⟨_, h1.symm, h2, h3⟩
  have HM := Lib.hid hm
  have m1 : (1 : Int) ≤ m := by omega
  have m2 : (m : Int) ≤ 8 := by omega
  clear hm
  repeat (first | refine kw_seq ?_ | refine kw_region ?_ | refine kl_nil ?_ | refine kq_then ?_ | refine kl_load_mid 71 g7 _ _ _ (sym_typ hS.out.range) Try.underlying71 rfl (typ_size_info _ _ _ _) rfl rfl rfl rfl rfl ?_ | (first | refine kl_move rfl rfl (.inl rfl) rfl rfl ?_ | refine kl_move rfl rfl (.inr rfl) rfl rfl ?_ | refine kl_const rfl rfl (.inl rfl) rfl ?_ | refine kl_const rfl rfl (.inr rfl) rfl ?_) | ((first | refine kl_step rfl rfl rfl fun K hK => ?_ | refine kl_step0 rfl rfl rfl fun K hK => ?_); go_simp; (try go_bits); (first | refine hK _ _ ?_ | refine hK _ ?_); clear hK K))
  refine kl_call rfl rfl rfl Try.func52 rfl (by kernel_rfl) rfl ?_
  refine Calls.mono (size7_any x FA fn fc W hS.out.typ (fun h8 => by have := HTO.out.some_ h8; omega) (by have := HTO.out.few; omega)) ?_
  rintro e W2 ⟨rfl, hb2⟩
  refine ⟨_, rfl, ?_⟩
  rw [HM.out.1]
  clear hfl
  replace hS : Hid (SvM W0 W2 g7 (A0 nm x r0 [] FA fn fc none 0)) := hS.out.next hb2
  clear hb2
  repeat (first | refine kl_nil ?_ | refine kq_then ?_ | (first | refine kl_move rfl rfl (.inl rfl) rfl rfl ?_ | refine kl_move rfl rfl (.inr rfl) rfl rfl ?_ | refine kl_const rfl rfl (.inl rfl) rfl ?_ | refine kl_const rfl rfl (.inr rfl) rfl ?_))
  refine kw_seq ?_
  refine KW.less [0, 3, 4, 5, 6, 7, 8] ?_
  simp only [nrm, lk, Nat.reduceBEq, cond_true, cond_false]
  refine kw_cutf (fun L W => ∃ r, Hid (SvM W0 W g7 (A0 nm x r [] FA fn fc none 0)) ∧ L = [(0, .slice (some ⟨gl, ol, none⟩) n c), (3, v), (4, .int .i64 nn), (5, .int .i64 kk), (6, .int .i64 (i : Int)), (7, .pointer (some ⟨g7, 0, none⟩)), (8, .int .i64 (m : Int))]) ?_ ?_
  · intro Q'
    have c5 : W2.cell? ⟨g7, 5, none⟩ = some (.bool r0) := hS.out.lay.get (j := 5) 0 rfl rfl
    have f5 := hS.out.lay.free 0 rfl 5
    cases r0
    case false =>
      repeat (first | refine kw_seq ?_ | refine kw_block ?_ | refine kw_region ?_ | refine kl_nil ?_ | refine kq_then ?_ | refine kq_block ?_ | refine kw_ift rfl ?_ | refine kw_iff rfl ?_ | refine kw_skip ?_ | refine kl_ung rfl rfl ?_ | refine kl_skipg rfl rfl rfl rfl ?_ | (first | refine kl_move rfl rfl (.inl rfl) rfl rfl ?_ | refine kl_move rfl rfl (.inr rfl) rfl rfl ?_ | refine kl_const rfl rfl (.inl rfl) rfl ?_ | refine kl_const rfl rfl (.inr rfl) rfl ?_) | ((first | refine kl_step rfl rfl rfl fun K hK => ?_ | refine kl_step0 rfl rfl rfl fun K hK => ?_); go_simp; (try go_bits); (first | refine hK _ _ ?_ | refine hK _ ?_); clear hK K))
      refine kq_cut [0, 3, 4, 5, 6, 7, 8] ?_
      exact ⟨false, hS, rfl⟩
    obtain ⟨km, hkm⟩ : ∃ km : Int, kk + (m : Int) = km := ⟨_, rfl⟩
    have k1 : 0 ≤ km := by have := hB.out; omega
    have k2 : km ≤ 88 := by have := hB.out; have := HI.out; omega
    obtain ⟨qb, hqb⟩ : ∃ qb, decide ((24 : Int) < km) = qb := ⟨_, rfl⟩
    repeat (first | refine kw_seq ?_ | refine kw_region ?_ | refine kl_nil ?_ | refine kq_then ?_ | refine kl_ung rfl rfl ?_ | (first | refine kl_move rfl rfl (.inl rfl) rfl rfl ?_ | refine kl_move rfl rfl (.inr rfl) rfl rfl ?_ | refine kl_const rfl rfl (.inl rfl) rfl ?_ | refine kl_const rfl rfl (.inr rfl) rfl ?_) | ((first | refine kl_step rfl rfl rfl fun K hK => ?_ | refine kl_step0 rfl rfl rfl fun K hK => ?_); go_simp; (try go_bits); (first | refine hK _ _ ?_ | refine hK _ ?_); clear hK K))
    cases qb
    case false =>
      repeat (first | refine kw_seq ?_ | refine kw_block ?_ | refine kw_region ?_ | refine kl_nil ?_ | refine kq_then ?_ | refine kq_block ?_ | refine kw_ift rfl ?_ | refine kw_iff rfl ?_ | refine kw_skip ?_ | refine kl_ung rfl rfl ?_ | refine kl_skipg rfl rfl rfl rfl ?_ | (first | refine kl_move rfl rfl (.inl rfl) rfl rfl ?_ | refine kl_move rfl rfl (.inr rfl) rfl rfl ?_ | refine kl_const rfl rfl (.inl rfl) rfl ?_ | refine kl_const rfl rfl (.inr rfl) rfl ?_) | ((first | refine kl_step rfl rfl rfl fun K hK => ?_ | refine kl_step0 rfl rfl rfl fun K hK => ?_); go_simp; (try go_bits); (first | refine hK _ _ ?_ | refine hK _ ?_); clear hK K))
      refine kq_cut [0, 3, 4, 5, 6, 7, 8] ?_
      exact ⟨true, hS, rfl⟩
    have hS3 : Hid (SvM W0 (W2.setCell ⟨g7, 5, none⟩ (.bool false)) g7 (A0 nm x false [] FA fn fc none 0)) := hS.out.set 5 (.bool false) rfl rfl rfl rfl rfl
    clear hS hqb
    repeat (first | refine kw_seq ?_ | refine kw_block ?_ | refine kw_region ?_ | refine kl_nil ?_ | refine kq_then ?_ | refine kq_block ?_ | refine kw_ift rfl ?_ | refine kw_iff rfl ?_ | refine kw_skip ?_ | refine kl_ung rfl rfl ?_ | refine kl_skipg rfl rfl rfl rfl ?_ | (first | refine kl_move rfl rfl (.inl rfl) rfl rfl ?_ | refine kl_move rfl rfl (.inr rfl) rfl rfl ?_ | refine kl_const rfl rfl (.inl rfl) rfl ?_ | refine kl_const rfl rfl (.inr rfl) rfl ?_) | ((first | refine kl_step rfl rfl rfl fun K hK => ?_ | refine kl_step0 rfl rfl rfl fun K hK => ?_); go_simp; (try go_bits); (first | refine hK _ _ ?_ | refine hK _ ?_); clear hK K))
    generalize W2.setCell ⟨g7, 5, none⟩ (.bool false) = W3 at hS3 ⊢
    refine kq_cut [0, 3, 4, 5, 6, 7, 8] ?_
    exact ⟨false, hS3, rfl⟩
  clear hS
  rintro L W ⟨r, hS, rfl⟩
  obtain ⟨ns, hns⟩ : ∃ ns : Int, nn + (m : Int) = ns := ⟨_, rfl⟩
  have n1 : 0 ≤ ns := by have := hB.out; omega
  have n2 : ns ≤ 72 := by have := hB.out; omega
  by_cases h64 : 64 < ns
  case pos =>
    have t1 : decide ((64 : Int) < ns) = true := decide_eq_true h64
    clear h64 hB
    repeat (first | refine kw_seq ?_ | refine kw_block ?_ | refine kw_region ?_ | refine kl_nil ?_ | refine kq_then ?_ | refine kq_block ?_ | refine kw_ift rfl ?_ | refine kw_iff rfl ?_ | refine kw_skip ?_ | refine kw_exit ?_ | refine kq_then_exit ?_ | refine kq_block_here rfl ?_ | refine kq_block_far rfl ?_ | refine kq_again_exit ?_ | refine kl_ung rfl rfl ?_ | refine kl_skipg rfl rfl rfl rfl ?_ | (first | refine kl_move rfl rfl (.inl rfl) rfl rfl ?_ | refine kl_move rfl rfl (.inr rfl) rfl rfl ?_ | refine kl_const rfl rfl (.inl rfl) rfl ?_ | refine kl_const rfl rfl (.inr rfl) rfl ?_) | ((first | refine kl_step rfl rfl rfl fun K hK => ?_ | refine kl_step0 rfl rfl rfl fun K hK => ?_); go_simp; (try go_bits); (first | refine hK _ _ ?_ | refine hK _ ?_); clear hK K))
    refine kq_cut [3] ?_
    exact ⟨v, i, l', hO.out.next hS.out.lay.below, rfl⟩
  have t1 : decide ((64 : Int) < ns) = false := decide_eq_false h64
  have HNS : Hid (0 ≤ ns ∧ ns ≤ 64) := by show _ ∧ _; omega
  clear h64
  refine kw_seq ?_
  refine kw_seq ?_
  repeat (first | refine kw_ift rfl ?_ | refine kw_iff rfl ?_ | refine kw_skip ?_ | refine kw_region ?_ | refine kl_nil ?_ | refine kq_then ?_ | (first | refine kl_move rfl rfl (.inl rfl) rfl rfl ?_ | refine kl_move rfl rfl (.inr rfl) rfl rfl ?_ | refine kl_const rfl rfl (.inl rfl) rfl ?_ | refine kl_const rfl rfl (.inr rfl) rfl ?_) | ((first | refine kl_step rfl rfl rfl fun K hK => ?_ | refine kl_step0 rfl rfl rfl fun K hK => ?_); go_simp; (try go_bits); (first | refine hK _ _ ?_ | refine hK _ ?_); clear hK K))
  refine kw_seq ?_
  repeat (first | refine kw_ift rfl ?_ | refine kw_iff rfl ?_ | refine kw_skip ?_ | refine kw_region ?_ | refine kl_nil ?_ | refine kq_then ?_ | (first | refine kl_move rfl rfl (.inl rfl) rfl rfl ?_ | refine kl_move rfl rfl (.inr rfl) rfl rfl ?_ | refine kl_const rfl rfl (.inl rfl) rfl ?_ | refine kl_const rfl rfl (.inr rfl) rfl ?_) | ((first | refine kl_step rfl rfl rfl fun K hK => ?_ | refine kl_step0 rfl rfl rfl fun K hK => ?_); go_simp; (try go_bits); (first | refine hK _ _ ?_ | refine hK _ ?_); clear hK K))
  refine kw_seq ?_
  refine KW.less [0, 3, 4, 5, 6, 7, 8] ?_
  simp only [nrm, lk, Nat.reduceBEq, cond_true, cond_false]
  clear t1 hns n1 n2
  refine kw_cutf (fun L W' => ∃ kk' : Int, Hid (0 ≤ kk' ∧ kk' ≤ 8 * i1) ∧ W = W' ∧ L = [(0, .slice (some ⟨gl, ol, none⟩) n c), (3, v), (4, .int .i64 ns), (5, .int .i64 kk'), (6, .int .i64 (i : Int)), (7, .pointer (some ⟨g7, 0, none⟩)), (8, .int .i64 (m : Int))]) ?_ ?_
  · intro Q'
    have c5 : W.cell? ⟨g7, 5, none⟩ = some (.bool r) := hS.out.lay.get (j := 5) 0 rfl rfl
    cases r
    case false =>
      repeat (first | refine kw_seq ?_ | refine kw_block ?_ | refine kw_region ?_ | refine kl_nil ?_ | refine kq_then ?_ | refine kq_block ?_ | refine kw_ift rfl ?_ | refine kw_iff rfl ?_ | refine kw_skip ?_ | refine kl_ung rfl rfl ?_ | refine kl_skipg rfl rfl rfl rfl ?_ | (first | refine kl_move rfl rfl (.inl rfl) rfl rfl ?_ | refine kl_move rfl rfl (.inr rfl) rfl rfl ?_ | refine kl_const rfl rfl (.inl rfl) rfl ?_ | refine kl_const rfl rfl (.inr rfl) rfl ?_) | ((first | refine kl_step rfl rfl rfl fun K hK => ?_ | refine kl_step0 rfl rfl rfl fun K hK => ?_); go_simp; (try go_bits); (first | refine hK _ _ ?_ | refine hK _ ?_); clear hK K))
      refine kq_cut [0, 3, 4, 5, 6, 7, 8] ?_
      exact ⟨_, by have := hB.out; have := HI.out; show _ ∧ _; omega, rfl, rfl⟩
    obtain ⟨km, hkm⟩ : ∃ km : Int, kk + (m : Int) = km := ⟨_, rfl⟩
    have HKM : Hid (0 ≤ km ∧ km ≤ 8 * i1) := by have := hB.out; have := HI.out; show _ ∧ _; omega
    have k1 : 0 ≤ km := HKM.out.1
    have k2 : km ≤ 88 := by have := HKM.out; have := HI.out; omega
    repeat (first | refine kw_seq ?_ | refine kw_block ?_ | refine kw_region ?_ | refine kl_nil ?_ | refine kq_then ?_ | refine kq_block ?_ | refine kw_ift rfl ?_ | refine kw_iff rfl ?_ | refine kw_skip ?_ | refine kl_ung rfl rfl ?_ | refine kl_skipg rfl rfl rfl rfl ?_ | (first | refine kl_move rfl rfl (.inl rfl) rfl rfl ?_ | refine kl_move rfl rfl (.inr rfl) rfl rfl ?_ | refine kl_const rfl rfl (.inl rfl) rfl ?_ | refine kl_const rfl rfl (.inr rfl) rfl ?_) | ((first | refine kl_step rfl rfl rfl fun K hK => ?_ | refine kl_step0 rfl rfl rfl fun K hK => ?_); go_simp; (try go_bits); (first | refine hK _ _ ?_ | refine hK _ ?_); clear hK K))
    refine kq_cut [0, 3, 4, 5, 6, 7, 8] ?_
    exact ⟨_, HKM, rfl, rfl⟩
  clear hB
  rintro L W ⟨kk', hK, rfl, rfl⟩
  refine kw_seq ?_
  refine kw_region ?_
  repeat (first | (first | refine kl_move rfl rfl (.inl rfl) rfl rfl ?_ | refine kl_move rfl rfl (.inr rfl) rfl rfl ?_ | refine kl_const rfl rfl (.inl rfl) rfl ?_ | refine kl_const rfl rfl (.inr rfl) rfl ?_))
  have hgIn : 0 < fn → ∀ q, FA = some q → q.block < W.heap.size := hS.out.typ.row.inQ
  have hg7 : g7 < W.heap.size := hS.out.lay.lt 0 rfl
  have hsz := hS.out.lay.below.size
  refine kl_makeI rfl rfl rfl rfl (by omega) rfl ?_
  intro gI W3 hgI hb3 ho3
  have hS3 := hS.out.next hb3
  have c6 : W3.cell? ⟨g7, 6, none⟩ = some (.slice none 0 0) := hS3.lay.get (j := 6) 0 rfl rfl
  have f6 := hS3.lay.free 0 rfl 6
  have hgI' : gI = W.heap.size := hgI
  have hS4 : Hid (SvM W0 (W3.setCell ⟨g7, 6, none⟩ (.slice (some ⟨gI, 0, none⟩) m m)) g7 (A0 nm x r [] FA fn fc (some ⟨gI, 0, none⟩) m)) := hS3.set 6 _ rfl rfl rfl rfl rfl
  have hO4 : Hid ((W3.setCell ⟨g7, 6, none⟩ (.slice (some ⟨gI, 0, none⟩) m m)).ownsRow W0.heap.size 3 1 (.slice (some ⟨gI, 0, none⟩) m m) m (List.replicate m (Value.int .i64 0))) :=
    own_low2 (ho3.kept (grown_set W3 g7 6 _) (.inr (by simp [Value.ownBlock]; omega))) hsz
  have HGI : Hid (W0.heap.size ≤ gI ∧ gI ≠ g7 ∧ (0 < fn → ∀ q, FA = some q → q.block ≠ gI)) := ⟨by omega, by omega, fun h q e => by have := hgIn h q e; omega⟩
  clear hgIn hg7 hsz hgI' hgI hb3 ho3 hS3 hS
  repeat (first | refine kl_nil ?_ | refine kq_then ?_ | (first | refine kl_move rfl rfl (.inl rfl) rfl rfl ?_ | refine kl_move rfl rfl (.inr rfl) rfl rfl ?_ | refine kl_const rfl rfl (.inl rfl) rfl ?_ | refine kl_const rfl rfl (.inr rfl) rfl ?_) | ((first | refine kl_step rfl rfl rfl fun K hK => ?_ | refine kl_step0 rfl rfl rfl fun K hK => ?_); go_simp; (try go_bits); (first | refine hK _ _ ?_ | refine hK _ ?_); clear hK K))
  clear c6 f6
  generalize W3.setCell ⟨g7, 6, none⟩ (.slice (some ⟨gI, 0, none⟩) m m) = W4 at hS4 hO4 ⊢
  obtain ⟨aZ, haZ⟩ : ∃ aZ, aZ = A0 nm x r (List.replicate m 0) FA fn fc (some ⟨gI, 0, none⟩) m := ⟨_, rfl⟩
  have HAZ := Lib.hid haZ
  have hS4' : Hid (SvM W0 W4 g7 aZ) := by show SvM _ _ _ _; rw [haZ]; exact ⟨hS4.out.lay, hS4.out.typ, hS4.out.aw, hS4.out.far, hS4.out.ok⟩
  have hIZ : Vs W4 aZ.IA aZ.im (aZ.s.init.map (Value.int .i64)) := by
    rw [haZ]
    have := Vs.of_own hO4.out
    show Vs W4 (some ⟨gI, 0, none⟩) m ((List.replicate m (0 : Int)).map (Value.int .i64))
    rw [List.map_replicate]; exact this
  have hMZ : Hid (SymM W4 aZ) := ⟨hS4'.out.typ, hIZ, by rw [haZ]; exact Nat.le_refl m, by rw [haZ]; show m ≤ _; have := HM.out; omega⟩
  clear haZ hS4 hIZ
  refine kw_seq ?_
  refine kw_region ?_
  refine kl_getL hS4'.out.lay 0 rfl Try.underlying73 rfl (sym_info _) rfl rfl rfl rfl rfl ?_
  refine kl_buildSlice_row (z := symC symZ) (cs := symC aZ) Try.underlying55 symZero symSize rfl (by omega) (by omega) rfl rfl rfl rfl rfl ?_
  have hb5 := (Below.refl W4.heap.size W4).alloc (Nat.le_refl _) (.cells (symC aZ).toArray 73)
  have hr5 := rw_new symE W4 [aZ] (symC aZ).toArray 73 (by simp [flatR, symE])
  have hS5 : Hid (SvM W0 (W4.alloc (.cells (symC aZ).toArray 73)) g7 aZ) := hS4'.out.next hb5
  have hO5 := Lib.hid (own_below hO4.out hb5)
  have hY5 : Syms (W4.alloc (.cells (symC aZ).toArray 73)) (some ⟨W4.heap.size, 0, none⟩) 1 [aZ] := ⟨hr5, fun a ha => by rw [List.mem_singleton.1 ha]; exact hMZ.out.keep (.of_below hb5)⟩
  have HLT : Hid (gI < (W4.alloc (.cells (symC aZ).toArray 73)).heap.size) := (hO5.out.lt gI rfl).2
  clear hb5 hr5 hS4' hO4 hMZ
  generalize W4.heap.size = gS at hY5 ⊢
  generalize W4.alloc (.cells (symC aZ).toArray 73) = W5 at hS5 hO5 hY5 HLT ⊢
  have hokZ : ∀ a ∈ [aZ], TypOk a.s.typ ∧ a.s.name.length ≤ 1000 := fun a ha => by
    rw [List.mem_singleton.1 ha, HAZ.out]
    refine ⟨HTO.out, ?_⟩
    show nm.length ≤ 1000
    rw [← HNM.out]; simp [vName]
  refine kl_call rfl rfl rfl Try.func27 rfl (by kernel_rfl) rfl ?_
  refine Calls.mono (cells8_any (some ⟨gS, 0, none⟩) 1 1 [aZ] W5 hY5 (by omega) hokZ) ?_
  rintro e W6 ⟨A2, n2, c2, rfl, hr6, hn6, hc6, hb6, hf6⟩
  refine ⟨_, rfl, ?_⟩
  obtain ⟨cs, hcs⟩ : ∃ cs, cellsP ([aZ].map (·.s)) = cs := ⟨_, rfl⟩
  rw [hcs] at hr6
  have hcl : cs.length = m := by
    have h1 : cs = ofP aZ.s := by rw [← hcs]; simp [cellsP]
    have h2 := of_len (s := aZ.s) (hokZ aZ (by simp)).1
    rw [← h1, HAZ.out] at h2
    have h3 : sizeP (A0 nm x r (List.replicate m 0) FA fn fc (some ⟨gI, 0, none⟩) m).s.typ = sizeP x := rfl
    rw [h3, HM.out.1] at h2
    omega
  obtain rfl : n2 = m := by rw [← hr6.len]; exact hcl
  have hS6 : Hid (SvM W0 W6 g7 aZ) := hS5.out.next hb6
  have hO6 := Lib.hid (own_below hO5.out hb6)
  have HR6 := Lib.hid hr6
  have HF6 : Hid (∀ q, A2 = some q → q.block ≠ gI) := fun q e => by have := hf6 q e; have := HLT.out; omega
  have HLT6 : Hid (gI < W6.heap.size) := (hO6.out.lt gI rfl).2
  have HC6 : Hid (n2 ≤ c2 ∧ c2 ≤ 9223372036854775807) := ⟨hn6, hc6⟩
  clear hr6 hn6 hc6 hb6 hf6 hcs hcl hokZ hY5 HLT hS5 hO5
  repeat (first | refine kl_nil ?_ | refine kq_then ?_ | (first | refine kl_move rfl rfl (.inl rfl) rfl rfl ?_ | refine kl_move rfl rfl (.inr rfl) rfl rfl ?_ | refine kl_const rfl rfl (.inl rfl) rfl ?_ | refine kl_const rfl rfl (.inr rfl) rfl ?_))
  refine kw_seq ?_
  refine KW.less [0, 3, 4, 5, 6, 7, 8, 9] ?_
  simp only [nrm, lk, Nat.reduceBEq, cond_true, cond_false]
  have HB6 := Lib.hid (below_then hO.out.bel hS6.out.lay.below hO.out.bel.size)
  refine kw_cutf (fun L W' => ∃ zs : List Int, Hid (zs.length = n2 ∧ ∀ z ∈ zs, I64 z) ∧ Hid (W6.grownBy W' (some gI)) ∧ Hid (W'.ownsRow W0.heap.size 3 1 (.slice (some ⟨gI, 0, none⟩) n2 n2) n2 (zs.map (Value.int .i64))) ∧ L = [(0, .slice (some ⟨gl, ol, none⟩) n c), (3, v), (4, .int .i64 ns), (5, .int .i64 kk'), (6, .int .i64 (i : Int)), (7, .pointer (some ⟨g7, 0, none⟩))]) ?_ ?_
  · intro Q'
    have c6 := hS6.out.lay.get (j := 6) (u := .slice (some ⟨gI, 0, none⟩) n2 n2) 0 rfl (by rw [HAZ.out]; rfl)
    have C6 : Hid (∀ W, W6.grownBy W (some gI) → W.cell? ⟨g7, 6, none⟩ = some (.slice (some ⟨gI, 0, none⟩) n2 n2)) := fun W h => h.cell c6 (fun e => by injection e with e; exact HGI.out.2.1 e.symm)
    clear c6
    refine kw_seq ?_
    repeat (first | refine kw_region ?_ | refine kl_nil ?_ | refine kq_then ?_ | (first | refine kl_move rfl rfl (.inl rfl) rfl rfl ?_ | refine kl_move rfl rfl (.inr rfl) rfl rfl ?_ | refine kl_const rfl rfl (.inl rfl) rfl ?_ | refine kl_const rfl rfl (.inr rfl) rfl ?_))
    refine kw_block ?_
    refine kw_loop (fun mm L W => ∃ (k : Nat) (zs : List Int), k ≤ n2 ∧ mm = n2 - k ∧ Hid (zs.length = n2 ∧ ∀ z ∈ zs, I64 z) ∧ Hid (W6.grownBy W (some gI)) ∧ Hid (W.ownsRow W0.heap.size 3 1 (.slice (some ⟨gI, 0, none⟩) n2 n2) n2 (zs.map (Value.int .i64))) ∧ L = (10, .int .i64 (k : Int)) :: [(0, .slice (some ⟨gl, ol, none⟩) n c), (3, v), (4, .int .i64 ns), (5, .int .i64 kk'), (6, .int .i64 (i : Int)), (7, .pointer (some ⟨g7, 0, none⟩)), (8, .int .i64 (n2 : Int)), (9, .slice A2 n2 c2)]) ⟨0, List.replicate n2 0, by omega, rfl, ⟨by simp, fun z hz => by rw [(List.mem_replicate.1 hz).2]; unfold I64; omega⟩, grown_refl _ _, by show World.ownsRow _ _ _ _ _ _ _; rw [List.map_replicate]; exact hO6.out, rfl⟩ ?_
    clear hO6
    rintro mm L W7 ⟨k, zs, hk, rfl, hzs, hG, hO7, rfl⟩
    by_cases hlt : k < n2
    case neg =>
      have t1 : decide ((k : Int) < (n2 : Int)) = false := by rw [decide_eq_false_iff_not]; omega
      have t1n : decide (k < n2) = false := decide_eq_false hlt
      clear hlt hk
      repeat (first | refine kw_seq ?_ | refine kw_block ?_ | refine kw_region ?_ | refine kl_nil ?_ | refine kq_then ?_ | refine kq_block ?_ | refine kw_ift rfl ?_ | refine kw_iff rfl ?_ | refine kw_skip ?_ | refine kw_exit ?_ | refine kq_then_exit ?_ | refine kq_block_here rfl ?_ | refine kq_block_far rfl ?_ | refine kq_again_exit ?_ | refine kl_ung rfl rfl ?_ | refine kl_skipg rfl rfl rfl rfl ?_ | (first | refine kl_move rfl rfl (.inl rfl) rfl rfl ?_ | refine kl_move rfl rfl (.inr rfl) rfl rfl ?_ | refine kl_const rfl rfl (.inl rfl) rfl ?_ | refine kl_const rfl rfl (.inr rfl) rfl ?_) | ((first | refine kl_step rfl rfl rfl fun K hK => ?_ | refine kl_step0 rfl rfl rfl fun K hK => ?_); go_simp; (try go_bits); (first | refine hK _ _ ?_ | refine hK _ ?_); clear hK K))
      refine kq_cut [0, 3, 4, 5, 6, 7] ?_
      exact ⟨zs, hzs, hG, hO7, rfl⟩
    have t1 : decide ((k : Int) < (n2 : Int)) = true := by rw [decide_eq_true_eq]; omega
    have t1n : decide (k < n2) = true := decide_eq_true hlt
    obtain ⟨nk, hnk⟩ : ∃ nk, k + 1 = nk := ⟨_, rfl⟩
    have k1 : (k : Int) + 1 = (nk : Int) := by omega
    have k2 : (0 : Int) ≤ nk := by omega
    have k3 : (nk : Int) ≤ 8 := by omega
    have k4 : (0 : Int) ≤ k := by omega
    have k5 : (k : Int) < n2 := by omega
    have HK := Lib.hid (And.intro hnk hlt)
    have HBW : Hid (Below w.heap.size w W7) := below_grown HB6.out hG.out HB6.out.size (by have := HGI.out.1; have := hO.out.bel.size; omega)
    clear hlt hk hnk
    refine kw_seq ?_
    refine kw_seq ?_
    repeat (first | refine kw_ift rfl ?_ | refine kw_iff rfl ?_ | refine kw_skip ?_ | refine kw_region ?_ | refine kl_nil ?_ | refine kq_then ?_ | (first | refine kl_move rfl rfl (.inl rfl) rfl rfl ?_ | refine kl_move rfl rfl (.inr rfl) rfl rfl ?_ | refine kl_const rfl rfl (.inl rfl) rfl ?_ | refine kl_const rfl rfl (.inr rfl) rfl ?_) | ((first | refine kl_step rfl rfl rfl fun K hK => ?_ | refine kl_step0 rfl rfl rfl fun K hK => ?_); go_simp; (try go_bits); (first | refine hK _ _ ?_ | refine hK _ ?_); clear hK K))
    refine kw_seq ?_
    refine kw_block ?_
    refine kw_seq ?_
    repeat (first | refine kw_ift rfl ?_ | refine kw_iff rfl ?_ | refine kw_skip ?_ | refine kw_region ?_ | refine kl_nil ?_ | refine kq_then ?_ | (first | refine kl_move rfl rfl (.inl rfl) rfl rfl ?_ | refine kl_move rfl rfl (.inr rfl) rfl rfl ?_ | refine kl_const rfl rfl (.inl rfl) rfl ?_ | refine kl_const rfl rfl (.inr rfl) rfl ?_) | ((first | refine kl_step rfl rfl rfl fun K hK => ?_ | refine kl_step0 rfl rfl rfl fun K hK => ?_); go_simp; (try go_bits); (first | refine hK _ _ ?_ | refine hK _ ?_); clear hK K))
    refine kw_seq ?_
    have c6 : W7.cell? ⟨gl, oi + 6, none⟩ = some (.slice p.IA p.im p.ic) := HR.out W7 HBW.out 6 _ rfl
    have hil : p.s.init.length = p.im := by have := HP.out.mem.init.1; simpa using this
    have m6 : (p.im : Int) ≤ 9223372036854775807 := by have := HP.out.mem.le; have := HP.out.mem.cap; omega
    obtain ⟨qb, hqb⟩ : ∃ qb, decide ((k : Int) < (p.im : Int)) = qb := ⟨_, rfl⟩
    have hqn : decide (k < p.im) = qb := by rw [← hqb]; simp
    refine KW.less [0, 3, 4, 5, 6, 7, 8, 9, 10, 11] ?_
    simp only [nrm, lk, Nat.reduceBEq, cond_true, cond_false]
    clear t1 t1n
    refine kw_cutf (fun L W' => ∃ z : Int, Hid (I64 z) ∧ W7 = W' ∧ L = (10, .int .i64 (k : Int)) :: [(0, .slice (some ⟨gl, ol, none⟩) n c), (3, v), (4, .int .i64 ns), (5, .int .i64 kk'), (6, .int .i64 (i : Int)), (7, .pointer (some ⟨g7, 0, none⟩)), (8, .int .i64 (n2 : Int)), (9, .slice A2 n2 c2), (11, .int .i64 z)]) ?_ ?_
    · intro Q''
      cases qb
      case false =>
        repeat (first | refine kw_seq ?_ | refine kw_block ?_ | refine kw_region ?_ | refine kl_nil ?_ | refine kq_then ?_ | refine kq_block ?_ | refine kw_ift rfl ?_ | refine kw_iff rfl ?_ | refine kw_skip ?_ | refine kl_ung rfl rfl ?_ | refine kl_skipg rfl rfl rfl rfl ?_ | (first | refine kl_move rfl rfl (.inl rfl) rfl rfl ?_ | refine kl_move rfl rfl (.inr rfl) rfl rfl ?_ | refine kl_const rfl rfl (.inl rfl) rfl ?_ | refine kl_const rfl rfl (.inr rfl) rfl ?_) | ((first | refine kl_step rfl rfl rfl fun K hK => ?_ | refine kl_step0 rfl rfl rfl fun K hK => ?_); go_simp; (try go_bits); (first | refine hK _ _ ?_ | refine hK _ ?_); clear hK K))
        refine kq_cut [10, 0, 3, 4, 5, 6, 7, 8, 9, 11] ?_
        exact ⟨(k : Int), by show I64 _; unfold I64; omega, rfl, rfl⟩
      have hki : k < p.im := of_decide_eq_true hqn
      have u2 : (k : Int) < p.im := by omega
      obtain ⟨gi, oI, eA, hci⟩ := HP.out.mem.init.at_ hki
      obtain ⟨z, hz⟩ : ∃ z, p.s.init[k]? = some z := ⟨_, List.getElem?_eq_getElem (by rw [hil]; exact hki)⟩
      rw [List.getElem_map, (List.getElem?_eq_some_iff.1 hz).2] at hci
      have ci := Keeps.of_below HBW.out _ _ hci
      have HZ : Hid (I64 z) := HP.out.init z (List.mem_of_getElem? hz)
      rw [eA] at c6
      clear hki hci hz eA hqn
      repeat (first | refine kw_seq ?_ | refine kw_block ?_ | refine kw_region ?_ | refine kl_nil ?_ | refine kq_then ?_ | refine kq_block ?_ | refine kw_ift rfl ?_ | refine kw_iff rfl ?_ | refine kw_skip ?_ | refine kl_ung rfl rfl ?_ | refine kl_skipg rfl rfl rfl rfl ?_ | (first | refine kl_move rfl rfl (.inl rfl) rfl rfl ?_ | refine kl_move rfl rfl (.inr rfl) rfl rfl ?_ | refine kl_const rfl rfl (.inl rfl) rfl ?_ | refine kl_const rfl rfl (.inr rfl) rfl ?_) | ((first | refine kl_step rfl rfl rfl fun K hK => ?_ | refine kl_step0 rfl rfl rfl fun K hK => ?_); go_simp; (try go_bits); (first | refine hK _ _ ?_ | refine hK _ ?_); clear hK K))
      refine kq_cut [10, 0, 3, 4, 5, 6, 7, 8, 9, 11] ?_
      exact ⟨z, HZ, rfl, rfl⟩
    clear c6 hil m6 hqb hqn
    rintro L W ⟨z, hz, rfl, rfl⟩
    obtain ⟨gC, oC, cc, rfl, hrc, _, _⟩ := HR6.out.next HK.out.2
    obtain ⟨kd, hkd⟩ : ∃ kd, cc.kind = kd := ⟨_, rfl⟩
    have hc7 : W6.cell? ⟨gC, oC + k * 6 + 1, none⟩ = some (.int .i64 kd) := by rw [← hkd]; exact hrc 1 _ rfl
    have C7 : Hid (∀ W, W6.grownBy W (some gI) → W.cell? ⟨gC, oC + k * 6 + 1, none⟩ = some (.int .i64 kd)) := fun W h => h.cell hc7 (fun e => by injection e with e; exact HF6.out _ rfl e)
    clear hrc hc7 hkd
    have hR : R8 W6 gI W7.drew := grown_trans hG.out (grown_of_below ((Below.refl _ W7).drew) _)
    have hO8 := Lib.hid (own_below hO7.out ((Below.refl _ W7).drew))
    have r6 : ∀ W, R8 W6 gI W → W.cell? ⟨g7, 6, none⟩ = some (.slice (some ⟨gI, 0, none⟩) n2 n2) := fun W h => C6.out W h
    have r7 : ∀ W, R8 W6 gI W → W.cell? ⟨gC, oC + k * 6 + 1, none⟩ = some (.int .i64 kd) := fun W h => C7.out W h
    obtain ⟨z2, hz2⟩ : ∃ z2, wrapK kd z = z2 := ⟨_, rfl⟩
    have HZ2 : Hid (wrapK kd z = z2 ∧ I64 z2) := ⟨hz2, by rw [← hz2]; exact wrapK_i64 _ _ hz.out⟩
    clear hz2 hG hO7
    refine kw_region_f (R8 W6 gI) [true, true, true, true, true, true, true, true, true, false, true, false] (by kernel_rfl) (by kernel_rfl) hR ?_
    generalize W7.drew = W8 at *
    repeat (first | refine kf_nil ?_ | refine kf_ung rfl rfl ?_ | refine kf_skipg rfl rfl rfl rfl ?_ | (first | refine kf_move rfl rfl (.inl rfl) rfl rfl ?_ | refine kf_move rfl rfl (.inr rfl) rfl rfl ?_ | refine kf_const rfl rfl (.inl rfl) rfl ?_ | refine kf_const rfl rfl (.inr rfl) rfl ?_) | (refine kf_val rfl rfl rfl ?_; apply Exists.intro; refine And.intro (fun W hW N hN => ?_) ?_; · (go_simp; (try go_bits); exact hN)))
    refine kf_ch ?_
    refine kl_call rfl rfl rfl Try.func30 rfl (by kernel_rfl) rfl ?_
    refine Calls.mono (wrapR_any kd z W8) ?_
    rintro e _ ⟨rfl, rfl⟩
    refine ⟨_, rfl, ?_⟩
    rw [HZ2.out.1]
    refine kl_nil ?_
    refine kq_f hR ?_
    repeat (first | refine kf_nil ?_ | refine kf_ung rfl rfl ?_ | refine kf_skipg rfl rfl rfl rfl ?_ | (first | refine kf_move rfl rfl (.inl rfl) rfl rfl ?_ | refine kf_move rfl rfl (.inr rfl) rfl rfl ?_ | refine kf_const rfl rfl (.inl rfl) rfl ?_ | refine kf_const rfl rfl (.inr rfl) rfl ?_) | (refine kf_val rfl rfl rfl ?_; apply Exists.intro; refine And.intro (fun W hW N hN => ?_) ?_; · (go_simp; (try go_bits); exact hN)))
    have hst := hO8.out.stored k (.int .i64 z2)
    rw [show (zs.map (Value.int .i64)).set k (.int .i64 z2) = (zs.set k z2).map (Value.int .i64) from List.map_set.symm] at hst
    have c8 : ∃ y, W8.cell? ⟨gI, k, none⟩ = some y := ⟨_, own_at1 hO8.out (List.getElem?_eq_getElem (by simp; rw [hzs.out.1]; exact HK.out.2))⟩
    obtain ⟨y8, c8⟩ := c8
    have f8 : W8.frozen? ⟨gI, k, none⟩ = false := own_free1 hO8.out
    have hG9 := Lib.hid (grown_trans (show W6.grownBy W8 (some gI) from hR) hst.2)
    have hO9 := Lib.hid hst.1
    have hzs9 : Hid ((zs.set k z2).length = n2 ∧ ∀ z ∈ zs.set k z2, I64 z) := ⟨by rw [List.length_set]; exact hzs.out.1, fun y hy => by
      rcases List.mem_or_eq_of_mem_set hy with h | rfl
      · exact hzs.out.2 y h
      · exact HZ2.out.2⟩
    clear hst hO8 r6 r7
    refine kf_ch ?_
    (first | ((first | refine kl_step rfl rfl rfl fun K hK => ?_ | refine kl_step0 rfl rfl rfl fun K hK => ?_); go_simp; (try go_bits); (first | refine hK _ _ ?_ | refine hK _ ?_); clear hK K))
    clear c8 f8 hR
    generalize W8.setCell ⟨gI, k, none⟩ (.int .i64 z2) = W9 at hG9 hO9 ⊢
    refine kl_nil ?_
    refine kq_f hG9.out ?_
    repeat (first | refine kf_nil ?_ | refine kf_ung rfl rfl ?_ | refine kf_skipg rfl rfl rfl rfl ?_ | (first | refine kf_move rfl rfl (.inl rfl) rfl rfl ?_ | refine kf_move rfl rfl (.inr rfl) rfl rfl ?_ | refine kf_const rfl rfl (.inl rfl) rfl ?_ | refine kf_const rfl rfl (.inr rfl) rfl ?_) | (refine kf_val rfl rfl rfl ?_; apply Exists.intro; refine And.intro (fun W hW N hN => ?_) ?_; · (go_simp; (try go_bits); exact hN)))
    repeat (first | refine kw_seq ?_ | refine kw_block ?_ | refine kw_region ?_ | refine kl_nil ?_ | refine kq_then ?_ | refine kq_block ?_ | refine kw_ift rfl ?_ | refine kw_iff rfl ?_ | refine kw_skip ?_ | refine kl_ung rfl rfl ?_ | refine kl_skipg rfl rfl rfl rfl ?_ | (first | refine kl_move rfl rfl (.inl rfl) rfl rfl ?_ | refine kl_move rfl rfl (.inr rfl) rfl rfl ?_ | refine kl_const rfl rfl (.inl rfl) rfl ?_ | refine kl_const rfl rfl (.inr rfl) rfl ?_) | ((first | refine kl_step rfl rfl rfl fun K hK => ?_ | refine kl_step0 rfl rfl rfl fun K hK => ?_); go_simp; (try go_bits); (first | refine hK _ _ ?_ | refine hK _ ?_); clear hK K))
    refine kq_again (n2 - nk) [10, 0, 3, 4, 5, 6, 7, 8, 9] (by have := HK.out; omega) ?_
    exact ⟨nk, _, by have := HK.out; omega, rfl, hzs9, hG9, hO9, rfl⟩
  clear hO6
  rintro L W9 ⟨zs, hzs, hG, hO9, rfl⟩
  obtain ⟨aF, haF⟩ : ∃ aF, aF = A0 nm x r zs FA fn fc (some ⟨gI, 0, none⟩) n2 := ⟨_, rfl⟩
  have HAF := Lib.hid haF
  have hL9 : Lay W0 W9 [(g7, (symC aF).toArray, 73)] := by
    have h1 := lay_grown1 hS6.out.lay hG.out HGI.out.1 HGI.out.2.1
    have h2 : symC aZ = symC aF := by rw [haF, HAZ.out]; rfl
    rw [h2] at h1; exact h1
  have hT9 : TypM W9 x FA fn fc := by
    have h0 := hS6.out.typ
    rw [HAZ.out] at h0
    exact ⟨rw_grownR h0.row hG.out (fun h q e e2 => by injection e2 with e2; exact HGI.out.2.2 h q e e2.symm), h0.le, h0.cap⟩
  have hM9 : SymM W9 aF := by
    rw [haF]
    exact ⟨hT9, Vs.of_own hO9.out, Nat.le_refl _, by show n2 ≤ _; have := HM.out; omega⟩
  have hfar : ∀ q, FA = some q → W0.heap.size ≤ q.block := by
    have h0 := hS6.out.far
    rw [HAZ.out] at h0
    exact h0
  have hvlt : ∀ b, v.ownBlock = some b → b < W0.heap.size := fun b e => (hO.out.own.lt b e).2
  have hO10 := hO.out.next hL9.below
  have HSO : Hid (SymOk i aF.s) := by
    rw [haF]
    exact ⟨HNM.out.symm, HTO.out, by show ((zs.length : Nat) : Int) = sizeP x; rw [hzs.out.1, HM.out.1], hzs.out.2⟩
  have HA1 : Hid (Aw v aF.FA aF.fn) := by rw [haF]; exact fun _ q e e2 => by have := hfar q e; have := hvlt _ e2; omega
  have HA2 : Hid (Aw v aF.IA aF.im) := by
    rw [haF]
    intro _ q e e2
    have e' : gI = q.block := by injection e with e; rw [← e]
    have h1 := hvlt _ e2
    have h2 := HGI.out.1
    rw [← e'] at h1
    exact absurd h1 (Nat.not_lt.2 h2)
  clear hT9 hfar hvlt hS6 hG hO9 HR6 haF
  refine kw_region ?_
  repeat (first | (first | refine kl_move rfl rfl (.inl rfl) rfl rfl ?_ | refine kl_move rfl rfl (.inr rfl) rfl rfl ?_ | refine kl_const rfl rfl (.inl rfl) rfl ?_ | refine kl_const rfl rfl (.inr rfl) rfl ?_) | refine kl_getL hL9 0 rfl Try.underlying73 rfl (sym_info _) rfl rfl rfl rfl rfl ?_)
  refine kl_buildSlice_row (z := symC symZ) (cs := symC aF) Try.underlying55 symZero symSize rfl (by omega) (by omega) rfl rfl rfl rfl rfl ?_
  have hb5 := (Below.refl W9.heap.size W9).alloc (Nat.le_refl _) (.cells (symC aF).toArray 73)
  have hr5 := rangeAt_new W9 (symC aF).toArray 73 W9.heap.size rfl
  have hO11 := Lib.hid (hO10.next hb5)
  have hM11 := Lib.hid (hM9.keep (.of_below hb5))
  have hr5' : Hid ((W9.alloc (.cells (symC aF).toArray 73)).rangeAt W9.heap.size 0 (symC aF)) := hr5
  clear hb5 hr5 hO10 hM9 hL9
  generalize W9.heap.size = gS at hr5' ⊢
  generalize W9.alloc (.cells (symC aF).toArray 73) = W10 at hO11 hM11 hr5' ⊢
  refine kl_appendN 55 73 _ 7 96 Try.underlying55 symInfo3 rfl (by omega) w.heap.size v i (flatR symE l') hO11.out.own gS 0 1 1 (symC aF) rfl hr5'.out (symC_one _) (by have := HI.out; omega) (by have := HI.out; omega) hO11.out.bel.size rfl rfl rfl rfl rfl rfl ?_
  intro v12 w12 ho12 hg12 hv12
  rw [show flatR symE l' ++ symC aF = flatR symE (l' ++ [aF]) by rw [flatR_snoc]; rfl, HI.out.1] at ho12
  have hO12 := Lib.hid (hO11.out.app ho12 HI.out.1 hg12 hv12 hM11.out HA1.out HA2.out HSO.out HI.out.2.2)
  clear ho12 hg12 hv12 hO11 hM11 hr5'
  repeat (first | refine kw_seq ?_ | refine kw_block ?_ | refine kw_region ?_ | refine kl_nil ?_ | refine kq_then ?_ | refine kq_block ?_ | refine kw_ift rfl ?_ | refine kw_iff rfl ?_ | refine kw_skip ?_ | refine kl_ung rfl rfl ?_ | refine kl_skipg rfl rfl rfl rfl ?_ | (first | refine kl_move rfl rfl (.inl rfl) rfl rfl ?_ | refine kl_move rfl rfl (.inr rfl) rfl rfl ?_ | refine kl_const rfl rfl (.inl rfl) rfl ?_ | refine kl_const rfl rfl (.inr rfl) rfl ?_) | ((first | refine kl_step rfl rfl rfl fun K hK => ?_ | refine kl_step0 rfl rfl rfl fun K hK => ?_); go_simp; (try go_bits); (first | refine hK _ _ ?_ | refine hK _ ?_); clear hK K))
  refine kq_again (n - i1) [0, 3, 4, 5, 6] (by have := HI.out; omega) ?_
  exact ⟨i1, v12, _, ns, kk', by have := HI.out; omega, by have := HI.out; omega, rfl, hO12, by have := HNS.out; have := hK.out; show _ ∧ _; omega, rfl⟩
end Go.Proofs.Ytcpifcdndhhmgaa
