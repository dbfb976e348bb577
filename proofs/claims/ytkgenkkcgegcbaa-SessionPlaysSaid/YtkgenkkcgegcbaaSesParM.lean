/- session.Parse: behind its kind. -/
import Derived.Test.YtkgenkkcgegcbaaSesParE
import Derived.Test.YtkgenkkcgegcbaaCodeText
import Derived.Test.YtkgenkkcgegcbaaKnG
namespace Go.Proofs.Ytkgenkkcgegcbaa
open Go.RowKit
attribute [local go_sem] ev_tmp ev_const ev_func ev_global lk_hit lk_miss uponK_value uponK_skip look_tmp look_const look_global look_func valP_value
theorem tkN_64 (t : List UInt8 × List UInt8 × Int) : I64 (tkN t) := by unfold I64 tkN wrap64; omega
theorem frm_setsum (K id sz at_ : Int) (h0 h : List UInt8) (D : Value) (hl : h0.length = 32) (hh : h.length = 32) : (frmV ⟨K, id, sz, at_, h0, []⟩ D).take 4 ++ bv h ++ (frmV ⟨K, id, sz, at_, h0, []⟩ D).drop (4 + (bv h).length) = frmV ⟨K, id, sz, at_, h, []⟩ D := by
  rw [length_bv, hh]
  have e1 : (frmV ⟨K, id, sz, at_, h0, []⟩ D).take 4 = [.int .i64 K, .int .i64 id, .int .i64 sz, .int .i64 at_] := rfl
  have e2 : (frmV ⟨K, id, sz, at_, h0, []⟩ D).drop (4 + 32) = [D] := by
    unfold frmV
    rw [List.drop_append, List.drop_of_length_le (by simp [length_bv, hl])]
    simp [length_bv, hl]
  rw [e1, e2]
  rfl
theorem textOf_len (l : List UInt8) (e : Int) : (textOf l e).1.length ≤ 65535 := by
  have h1 := leN_lt (taken l e 2).1
  have h2 := taken_len l e 2
  have h3 : 256 ^ (taken l e 2).1.length ≤ 256 ^ 2 := Nat.pow_le_pow_right (by omega) h2
  have := taken_len (taken l e 2).2.1 (taken l e 2).2.2 (leN (taken l e 2).1)
  unfold textOf
  omega
theorem kl_strBytes {Q : Exit → Act → World → Prop} {N : Nat} {L : Slots} {w : World} {ops : Array Oper} {rest : List Oper} {o : Oper} {d x : Nat} (s : List UInt8) (hs : s.length ≤ 9223372036854775807) (hd : o.dst = some d) (hg : o.guard = none) (ho : o.op = .convert 9 22 (.tmp x)) (hx : lk L x = some (.string ⟨s.toArray⟩)) (hn : Nat.blt d N = true)
    (h : ∀ c w', Bs w' (some ⟨w.heap.size, 0, none⟩) s.length s → Below w.heap.size w w' → s.length ≤ c → c ≤ 9223372036854775807 → KL Try.prog ops Q rest N ((d, .slice (some ⟨w.heap.size, 0, none⟩) s.length c) :: L) w') : KL Try.prog ops Q (o :: rest) N L w :=
  ⟨fun a k => strBytes hg (.tmp x) ho s (k.ev hx) hs fun c w' h1 h2 h3 h4 _ => kl_back k hd hn (h c w' h1 h2 h3 h4)⟩
theorem frm_set36 (f : Frm) (D D' : Value) (h : f.sum.length = 32) : (frmV f D).set 36 D' = frmV f D' := by
  unfold frmV
  rw [List.set_append_right _ _ (by simp [length_bv, h])]
  simp [length_bv, h]
set_option maxRecDepth 100000 in
set_option maxHeartbeats 1000000 in
theorem parse_rest {w W : World} {g2 g7 g8 g : Nat} {K : Int} {l b : List UInt8} {e : Int} (hB : w.heap.size ≤ g) (h2 : g2 < g) (h7 : g < g7) (h8 : g < g8) (hK : I64 K) (hR : Rd true w W [(g8, (frmV ⟨K, 0, 0, 0, z32, []⟩ (.slice none 0 0)).toArray, 29), (g7, #[.pointer (some ⟨g, 0, none⟩)], 92), (g2, zFrm.toArray, 29)] g l e) (hp : parseF b = parseZ K l e) :
    KW Try.prog (restAt Try.f26 10) (bodyPost Try.prog Try.f26 (ParseP b w)) 90 [(2, .pointer (some ⟨g2, 0, none⟩)), (7, .pointer (some ⟨g7, 0, none⟩)), (8, .pointer (some ⟨g8, 0, none⟩))] W := by
  conv => arg 2; whnf
  unfold parseZ at hp
  have HP := Lib.hid hp
  clear hp
  have c7 := hR.get (j := 0) (cs := [.pointer (some ⟨g, 0, none⟩)]) 1 rfl rfl
  repeat (first | refine kw_seq ?_ | refine kw_block ?_ | refine kw_skip ?_ | refine kw_region ?_ | refine kl_nil ?_ | refine kq_then ?_ | refine kq_block ?_ | refine kw_exit ?_ | refine kq_then_exit ?_ | refine kq_block_here rfl ?_ | refine kq_block_far rfl ?_ | refine kq_again_exit ?_ | refine kw_ret ?_ | refine kq_then_ret ?_ | refine kq_block_ret ?_ | refine kq_again_ret ?_ | refine kw_ift rfl ?_ | refine kw_iff rfl ?_ | refine kl_ung rfl rfl ?_ | refine kl_skipg rfl rfl rfl rfl ?_ | refine kl_skipg0 rfl rfl rfl ?_ | (first | refine kl_move rfl rfl (.inl rfl) rfl rfl ?_ | refine kl_move rfl rfl (.inr rfl) rfl rfl ?_ | refine kl_const rfl rfl (.inl rfl) rfl ?_ | refine kl_const rfl rfl (.inr rfl) rfl ?_) | ((first | refine kl_step rfl rfl rfl fun K hK => ?_ | refine kl_step0 rfl rfl rfl fun K hK => ?_); go_simp; (try go_bits); (first | refine hK _ _ ?_ | refine hK _ ?_); clear hK K))
  refine kl_call rfl rfl rfl Try.func47 rfl (by kernel_rfl) rfl ?_
  refine Calls.mono (rdInt hR) ?_
  rintro e w2 ⟨rfl, hR2⟩
  clear hR c7
  have hid := tkN_64 (taken l e 8)
  obtain ⟨id, l2, e2, hq⟩ : ∃ id l2 e2, tkN (taken l e 8) = id ∧ (taken l e 8).2.1 = l2 ∧ (taken l e 8).2.2 = e2 := ⟨_, _, _, rfl, rfl, rfl⟩
  rw [hq.2.1, hq.2.2] at hR2 HP
  rw [hq.1] at hid HP ⊢
  clear hq
  have hR := hR2
  have c1 := hR.get (j := 1) 0 rfl (frm_1 _ _)
  have f1 := hR.free 0 rfl 1
  have hR3 : Rd true w (w2.setCell ⟨g8, 1, none⟩ (.int .i64 id)) [(g8, (frmV ⟨K, id, 0, 0, z32, []⟩ (.slice none 0 0)).toArray, 29), (g7, #[.pointer (some ⟨g, 0, none⟩)], 92), (g2, zFrm.toArray, 29)] g l2 e2 := hR.cell 0 rfl h8 1 (.int .i64 id)
  clear hR2 hR
  refine ⟨_, rfl, ?_⟩
  repeat (first | refine kl_nil ?_ | refine kq_then ?_ | (first | refine kl_move rfl rfl (.inl rfl) rfl rfl ?_ | refine kl_move rfl rfl (.inr rfl) rfl rfl ?_ | refine kl_const rfl rfl (.inl rfl) rfl ?_ | refine kl_const rfl rfl (.inr rfl) rfl ?_) | ((first | refine kl_step rfl rfl rfl fun K hK => ?_ | refine kl_step0 rfl rfl rfl fun K hK => ?_); go_simp; (try go_bits); (first | refine hK _ _ ?_ | refine hK _ ?_); clear hK K))
  clear c1 f1
  have hR := hR3
  clear hR3
  generalize w2.setCell ⟨g8, 1, none⟩ (.int .i64 id) = w3 at *
  have c0 := hR.get (j := 0) 0 rfl (frm_0 _ _)
  unfold parseY at HP
  by_cases k1 : K = 1
  · have t1 : (K == 1) = true := by rw [beq_iff_eq]; exact k1
    rw [if_pos k1] at HP
    clear k1
    repeat (first | refine kw_seq ?_ | refine kw_block ?_ | refine kw_skip ?_ | refine kw_region ?_ | refine kl_nil ?_ | refine kq_then ?_ | refine kq_block ?_ | refine kw_exit ?_ | refine kq_then_exit ?_ | refine kq_block_here rfl ?_ | refine kq_block_far rfl ?_ | refine kq_again_exit ?_ | refine kw_ret ?_ | refine kq_then_ret ?_ | refine kq_block_ret ?_ | refine kq_again_ret ?_ | refine kw_ift rfl ?_ | refine kw_iff rfl ?_ | refine kl_ung rfl rfl ?_ | refine kl_skipg rfl rfl rfl rfl ?_ | refine kl_skipg0 rfl rfl rfl ?_ | (first | refine kl_move rfl rfl (.inl rfl) rfl rfl ?_ | refine kl_move rfl rfl (.inr rfl) rfl rfl ?_ | refine kl_const rfl rfl (.inl rfl) rfl ?_ | refine kl_const rfl rfl (.inr rfl) rfl ?_) | ((first | refine kl_step rfl rfl rfl fun K hK => ?_ | refine kl_step0 rfl rfl rfl fun K hK => ?_); go_simp; (try go_bits); (first | refine hK _ _ ?_ | refine hK _ ?_); clear hK K))
    clear c0 t1
    have c7 : ∀ W, Hold [(g7, .cells #[.pointer (some ⟨g, 0, none⟩)] 92 (0, 0))] W → W.cell? ⟨g7, 0, none⟩ = some (.pointer (some ⟨g, 0, none⟩)) := Hold.cell (cs := [.pointer (some ⟨g, 0, none⟩)]) 0 rfl rfl
    refine kw_region_f (Hold [(g7, .cells #[.pointer (some ⟨g, 0, none⟩)] 92 (0, 0))]) [true, true, false, true, false, true, false, true, false] (by kernel_rfl) (by kernel_rfl) (Hold.cons (hR.at_ 1 rfl) (Hold.nil _)) ?_
    replace hR := hR.drew
    generalize w3.drew = w4 at *
    repeat (first | refine kf_nil ?_ | refine kf_ung rfl rfl ?_ | refine kf_skipg rfl rfl rfl rfl ?_ | (first | refine kf_move rfl rfl (.inl rfl) rfl rfl ?_ | refine kf_move rfl rfl (.inr rfl) rfl rfl ?_ | refine kf_const rfl rfl (.inl rfl) rfl ?_ | refine kf_const rfl rfl (.inr rfl) rfl ?_) | (refine kf_val rfl rfl rfl ?_; apply Exists.intro; refine And.intro (fun W hW N hN => ?_) ?_; · (go_simp; (try go_bits); exact hN)))
    refine kf_ch ?_
    refine kl_call rfl rfl rfl Try.func47 rfl (by kernel_rfl) rfl ?_
    refine Calls.mono (rdInt hR) ?_
    rintro e w5 ⟨rfl, hR2⟩
    have hsz := tkN_64 (taken l2 e2 8)
    obtain ⟨sz, l3, e3, hq⟩ : ∃ sz l3 e3, tkN (taken l2 e2 8) = sz ∧ (taken l2 e2 8).2 = (l3, e3) := ⟨_, _, _, rfl, rfl⟩
    rw [hq.2] at hR2 HP
    rw [hq.1] at hsz HP ⊢
    clear hq hR
    have hR := hR2
    clear hR2
    refine ⟨_, rfl, ?_⟩
    refine kl_nil ?_
    refine kq_f (Hold.cons (hR.at_ 1 rfl) (Hold.nil _)) ?_
    repeat (first | (first | refine kf_move rfl rfl (.inl rfl) rfl rfl ?_ | refine kf_move rfl rfl (.inr rfl) rfl rfl ?_ | refine kf_const rfl rfl (.inl rfl) rfl ?_ | refine kf_const rfl rfl (.inr rfl) rfl ?_) | refine kf_load_mid (cs := [.pointer (some ⟨g, 0, none⟩)]) (fun W hW => range_block (hW.at_ 0 rfl)) Try.underlying92 rfl rfl rfl rfl rfl rfl rfl ?_ | (refine kf_val rfl rfl rfl ?_; apply Exists.intro; refine And.intro (fun W hW N hN => ?_) ?_; · (go_simp; (try go_bits); exact hN)))
    refine kf_ch ?_
    refine kl_call rfl rfl rfl Try.func49 rfl (by kernel_rfl) rfl ?_
    refine Calls.mono (rdHash hR) ?_
    rintro e w6 ⟨rfl, hR2⟩
    have hln := hashN_len 32 l3 e3
    obtain ⟨h, l4, e4, hq⟩ : ∃ h l4 e4, hashN 32 ([], (l3, e3)) = (h, l4, e4) := ⟨_, _, _, rfl⟩
    rw [hq] at hR2 HP hln ⊢
    have HLN := Lib.hid hln
    clear hq hR hln
    have hR : Rd true w w6 [(g8, (frmV ⟨K, id, 0, 0, z32, []⟩ (.slice none 0 0)).toArray, 29), (g7, #[.pointer (some ⟨g, 0, none⟩)], 92), (g2, zFrm.toArray, 29)] g l4 e4 := hR2
    clear hR2
    refine ⟨_, rfl, ?_⟩
    refine kl_nil ?_
    refine kq_f (Hold.cons (hR.at_ 1 rfl) (Hold.nil _)) ?_
    repeat (first | refine kf_nil ?_ | refine kf_ung rfl rfl ?_ | refine kf_skipg rfl rfl rfl rfl ?_ | (first | refine kf_move rfl rfl (.inl rfl) rfl rfl ?_ | refine kf_move rfl rfl (.inr rfl) rfl rfl ?_ | refine kf_const rfl rfl (.inl rfl) rfl ?_ | refine kf_const rfl rfl (.inr rfl) rfl ?_) | (refine kf_val rfl rfl rfl ?_; apply Exists.intro; refine And.intro (fun W hW N hN => ?_) ?_; · (go_simp; (try go_bits); exact hN)))
    refine kf_ch ?_
    have c2 := hR.get (j := 2) 0 rfl (frm_2 _ _)
    have f2 := hR.free 0 rfl 2
    have hR3 : Rd true w (w6.setCell ⟨g8, 2, none⟩ (.int .i64 sz)) [(g8, (frmV ⟨K, id, sz, 0, z32, []⟩ (.slice none 0 0)).toArray, 29), (g7, #[.pointer (some ⟨g, 0, none⟩)], 92), (g2, zFrm.toArray, 29)] g l4 e4 := hR.cell 0 rfl h8 2 (.int .i64 sz)
    clear hR
    ((first | refine kl_step rfl rfl rfl fun K hK => ?_ | refine kl_step0 rfl rfl rfl fun K hK => ?_); go_simp; (try go_bits); (first | refine hK _ _ ?_ | refine hK _ ?_); clear hK K)
    clear c2 f2
    have hR := hR3
    clear hR3
    generalize w6.setCell ⟨g8, 2, none⟩ (.int .i64 sz) = w7 at *
    refine kl_nil ?_
    refine kq_f (Hold.cons (hR.at_ 1 rfl) (Hold.nil _)) ?_
    repeat (first | refine kf_nil ?_ | refine kf_ung rfl rfl ?_ | refine kf_skipg rfl rfl rfl rfl ?_ | (first | refine kf_move rfl rfl (.inl rfl) rfl rfl ?_ | refine kf_move rfl rfl (.inr rfl) rfl rfl ?_ | refine kf_const rfl rfl (.inl rfl) rfl ?_ | refine kf_const rfl rfl (.inr rfl) rfl ?_) | (refine kf_val rfl rfl rfl ?_; apply Exists.intro; refine And.intro (fun W hW N hN => ?_) ?_; · (go_simp; (try go_bits); exact hN)))
    refine kf_ch ?_
    refine kl_store_part (cur := frmV ⟨K, id, sz, 0, z32, []⟩ (.slice none 0 0)) (vs := bv h) (hR.at_ 0 rfl) (by rw [length_bv, HLN.out, length_frmV _ _ z32_len]; omega) (by rw [length_bv, HLN.out]; kernel_rfl) (bv_one h) rfl rfl rfl rfl rfl ?_
    have hR3 := hR.row 0 rfl h8 ((frmV ⟨K, id, sz, 0, z32, []⟩ (.slice none 0 0)).take 4 ++ bv h ++ (frmV ⟨K, id, sz, 0, z32, []⟩ (.slice none 0 0)).drop (4 + (bv h).length)).toArray
    rw [frm_setsum K id sz 0 z32 h _ z32_len HLN.out] at hR3 ⊢
    generalize w7.setRow g8 _ = w8 at hR3 ⊢
    clear hR
    refine kl_nil ?_
    refine kq_f (Hold.cons (hR3.at_ 1 rfl) (Hold.nil _)) ?_
    refine kf_nil ?_
    refine kq_block ?_
    refine kq_then ?_
    refine KW.less [2, 7, 8] ?_
    simp only [nrm, lk, Nat.reduceBEq, cond_true, cond_false]
    exact parse_fin hB hR3 ⟨hK, hid, hsz, by show I64 0; unfold I64; omega, HLN.out, SlB.nil _⟩ (fun b o n c e => by cases e) HP.out
  by_cases k2 : K = 2
  · have t1 : (K == 1) = false := by rw [beq_eq_false_iff_ne]; exact k1
    have t2 : (K == 2) = true := by rw [beq_iff_eq]; exact k2
    rw [if_neg k1, if_pos k2] at HP
    clear k1 k2
    repeat (first | refine kw_seq ?_ | refine kw_block ?_ | refine kw_skip ?_ | refine kw_region ?_ | refine kl_nil ?_ | refine kq_then ?_ | refine kq_block ?_ | refine kw_exit ?_ | refine kq_then_exit ?_ | refine kq_block_here rfl ?_ | refine kq_block_far rfl ?_ | refine kq_again_exit ?_ | refine kw_ret ?_ | refine kq_then_ret ?_ | refine kq_block_ret ?_ | refine kq_again_ret ?_ | refine kw_ift rfl ?_ | refine kw_iff rfl ?_ | refine kl_ung rfl rfl ?_ | refine kl_skipg rfl rfl rfl rfl ?_ | refine kl_skipg0 rfl rfl rfl ?_ | (first | refine kl_move rfl rfl (.inl rfl) rfl rfl ?_ | refine kl_move rfl rfl (.inr rfl) rfl rfl ?_ | refine kl_const rfl rfl (.inl rfl) rfl ?_ | refine kl_const rfl rfl (.inr rfl) rfl ?_) | ((first | refine kl_step rfl rfl rfl fun K hK => ?_ | refine kl_step0 rfl rfl rfl fun K hK => ?_); go_simp; (try go_bits); (first | refine hK _ _ ?_ | refine hK _ ?_); clear hK K))
    clear c0 t1 t2
    have c7 : ∀ W, Hold [(g7, .cells #[.pointer (some ⟨g, 0, none⟩)] 92 (0, 0))] W → W.cell? ⟨g7, 0, none⟩ = some (.pointer (some ⟨g, 0, none⟩)) := Hold.cell (cs := [.pointer (some ⟨g, 0, none⟩)]) 0 rfl rfl
    refine kw_region_g (Hold [(g7, .cells #[.pointer (some ⟨g, 0, none⟩)] 92 (0, 0))]) [true, true, false, true, true, false, false, true, false, true, false] [0, 1, 2, 3, 4, 5, 7] [[6, 8, 9, 10], [8, 6, 9, 10]] (by kernel_rfl) (by kernel_rfl) (Hold.cons (hR.at_ 1 rfl) (Hold.nil _)) ?_
    simp only [pickO, pickF, nthO, nthB]
    replace hR := hR.drew
    generalize w3.drew = w4 at *
    repeat (first | refine kf_nil ?_ | refine kf_ung rfl rfl ?_ | refine kf_skipg rfl rfl rfl rfl ?_ | (first | refine kf_move rfl rfl (.inl rfl) rfl rfl ?_ | refine kf_move rfl rfl (.inr rfl) rfl rfl ?_ | refine kf_const rfl rfl (.inl rfl) rfl ?_ | refine kf_const rfl rfl (.inr rfl) rfl ?_) | (refine kf_val rfl rfl rfl ?_; apply Exists.intro; refine And.intro (fun W hW N hN => ?_) ?_; · (go_simp; (try go_bits); exact hN)))
    refine kf_ch ?_
    refine kl_call rfl rfl rfl Try.func47 rfl (by kernel_rfl) rfl ?_
    refine Calls.mono (rdInt hR) ?_
    rintro e w5 ⟨rfl, hR2⟩
    have hsz := tkN_64 (taken l2 e2 8)
    obtain ⟨at_, l3, e3, hq⟩ : ∃ at_ l3 e3, tkN (taken l2 e2 8) = at_ ∧ (taken l2 e2 8).2 = (l3, e3) := ⟨_, _, _, rfl, rfl⟩
    rw [hq.2] at hR2 HP
    rw [hq.1] at hsz HP ⊢
    clear hq hR
    have hR := hR2
    clear hR2
    refine ⟨_, rfl, ?_⟩
    refine kl_nil ?_
    refine kq_f (Hold.cons (hR.at_ 1 rfl) (Hold.nil _)) ?_
    repeat (first | refine kf_nil ?_ | refine kf_ung rfl rfl ?_ | refine kf_skipg rfl rfl rfl rfl ?_ | (first | refine kf_move rfl rfl (.inl rfl) rfl rfl ?_ | refine kf_move rfl rfl (.inr rfl) rfl rfl ?_ | refine kf_const rfl rfl (.inl rfl) rfl ?_ | refine kf_const rfl rfl (.inr rfl) rfl ?_) | (refine kf_val rfl rfl rfl ?_; apply Exists.intro; refine And.intro (fun W hW N hN => ?_) ?_; · (go_simp; (try go_bits); exact hN)))
    refine kf_ch ?_
    refine kl_call rfl rfl rfl Try.func50 rfl (by kernel_rfl) rfl ?_
    refine Calls.mono (rdText hR) ?_
    rintro e w6 ⟨rfl, hR2⟩
    have hln := textOf_len l3 e3
    have HP := Lib.hid HP.out
    simp only at hR2
    obtain ⟨tx, l4, e4, hq⟩ : ∃ tx l4 e4, textOf l3 e3 = (tx, l4, e4) := ⟨_, _, _, rfl⟩
    have HP : Hid (parseF b = finF ⟨K, id, 0, at_, z32, tx⟩ (ended l4 e4)) := Lib.hid (by have := HP.out; simp only [hq] at this; exact this)
    rw [hq] at hR2 hln ⊢
    have HLN : Hid (tx.length ≤ 65535) := Lib.hid hln
    clear hq hR hln
    have hR : Rd true w w6 [(g8, (frmV ⟨K, id, 0, 0, z32, []⟩ (.slice none 0 0)).toArray, 29), (g7, #[.pointer (some ⟨g, 0, none⟩)], 92), (g2, zFrm.toArray, 29)] g l4 e4 := hR2
    clear hR2
    refine ⟨_, rfl, ?_⟩
    refine kl_nil ?_
    refine kq_f (Hold.cons (hR.at_ 1 rfl) (Hold.nil _)) ?_
    repeat (first | refine kf_nil ?_ | refine kf_ung rfl rfl ?_ | refine kf_skipg rfl rfl rfl rfl ?_ | (first | refine kf_move rfl rfl (.inl rfl) rfl rfl ?_ | refine kf_move rfl rfl (.inr rfl) rfl rfl ?_ | refine kf_const rfl rfl (.inl rfl) rfl ?_ | refine kf_const rfl rfl (.inr rfl) rfl ?_) | (refine kf_val rfl rfl rfl ?_; apply Exists.intro; refine And.intro (fun W hW N hN => ?_) ?_; · (go_simp; (try go_bits); exact hN)))
    refine kq_fork2 ?_ ?_ <;> simp only [pickO, pickF, nthO, nthB]
    · refine kf_ch ?_
      refine kl_strBytes tx (by have := HLN.out; omega) rfl rfl rfl rfl rfl ?_
      intro c9 w7 hBt hbt hc9 hc9'
      have hR7 := hR.next hbt
      have n8 : w6.heap.size ≠ g8 := Nat.ne_of_gt (hR.vars.lt (g8, (frmV ⟨K, id, 0, 0, z32, []⟩ (.slice none 0 0)).toArray, 29) (by simp))
      have n2 : w6.heap.size ≠ g2 := Nat.ne_of_gt (hR.vars.lt (g2, zFrm.toArray, 29) (by simp))
      clear hbt hR
      have hR := hR7
      clear hR7
      generalize w6.heap.size = g9 at *
      refine kl_nil ?_
      refine kq_f (Hold.cons (hR.at_ 1 rfl) (Hold.nil _)) ?_
      repeat (first | refine kf_nil ?_ | refine kf_ung rfl rfl ?_ | refine kf_skipg rfl rfl rfl rfl ?_ | (first | refine kf_move rfl rfl (.inl rfl) rfl rfl ?_ | refine kf_move rfl rfl (.inr rfl) rfl rfl ?_ | refine kf_const rfl rfl (.inl rfl) rfl ?_ | refine kf_const rfl rfl (.inr rfl) rfl ?_) | (refine kf_val rfl rfl rfl ?_; apply Exists.intro; refine And.intro (fun W hW N hN => ?_) ?_; · (go_simp; (try go_bits); exact hN)))
      refine kf_ch ?_
      have c2 := hR.get (j := 3) 0 rfl (frm_3 _ _)
      have f2 := hR.free 0 rfl 3
      have hR3 : Rd true w (w7.setCell ⟨g8, 3, none⟩ (.int .i64 at_)) [(g8, (frmV ⟨K, id, 0, at_, z32, []⟩ (.slice none 0 0)).toArray, 29), (g7, #[.pointer (some ⟨g, 0, none⟩)], 92), (g2, zFrm.toArray, 29)] g l4 e4 := hR.cell 0 rfl h8 3 (.int .i64 at_)
      have hBt3 : Bs (w7.setCell ⟨g8, 3, none⟩ (.int .i64 at_)) (some ⟨g9, 0, none⟩) tx.length tx := Vs.far hBt (fun b o e => by injection e with e; injection e with e _; subst e; exact n8) _
      clear hBt
      clear hR
      ((first | refine kl_step rfl rfl rfl fun K hK => ?_ | refine kl_step0 rfl rfl rfl fun K hK => ?_); go_simp; (try go_bits); (first | refine hK _ _ ?_ | refine hK _ ?_); clear hK K)
      clear c2 f2
      have hR := hR3
      clear hR3
      generalize w7.setCell ⟨g8, 3, none⟩ (.int .i64 at_) = w8 at *
      refine kl_nil ?_
      refine kq_f (Hold.cons (hR.at_ 1 rfl) (Hold.nil _)) ?_
      repeat (first | refine kf_nil ?_ | refine kf_ung rfl rfl ?_ | refine kf_skipg rfl rfl rfl rfl ?_ | (first | refine kf_move rfl rfl (.inl rfl) rfl rfl ?_ | refine kf_move rfl rfl (.inr rfl) rfl rfl ?_ | refine kf_const rfl rfl (.inl rfl) rfl ?_ | refine kf_const rfl rfl (.inr rfl) rfl ?_) | (refine kf_val rfl rfl rfl ?_; apply Exists.intro; refine And.intro (fun W hW N hN => ?_) ?_; · (go_simp; (try go_bits); exact hN)))
      refine kf_ch ?_
      have c2 := hR.get (j := 36) 0 rfl (frm_36 _ _ z32_len)
      have f2 := hR.free 0 rfl 36
      have hR3 := hR.cell 0 rfl h8 36 (.slice (some ⟨g9, 0, none⟩) tx.length c9)
      rw [frm_set36 _ _ _ z32_len] at hR3
      have hBt : Bs (w8.setCell ⟨g8, 36, none⟩ (.slice (some ⟨g9, 0, none⟩) tx.length c9)) (some ⟨g9, 0, none⟩) tx.length tx := Vs.far hBt3 (fun b o e => by injection e with e; injection e with e _; subst e; exact n8) _
      clear hR hBt3
      ((first | refine kl_step rfl rfl rfl fun K hK => ?_ | refine kl_step0 rfl rfl rfl fun K hK => ?_); go_simp; (try go_bits); (first | refine hK _ _ ?_ | refine hK _ ?_); clear hK K)
      clear c2 f2
      generalize w8.setCell ⟨g8, 36, none⟩ _ = w9 at *
      refine kl_nil ?_
      refine kq_f (Hold.cons (hR3.at_ 1 rfl) (Hold.nil _)) ?_
      refine kf_nil ?_
      refine kq_block ?_
      refine kq_then ?_
      refine KW.less [2, 7, 8] ?_
      simp only [nrm, lk, Nat.reduceBEq, cond_true, cond_false]
      exact parse_fin (F := ⟨K, id, 0, at_, z32, tx⟩) hB hR3 ⟨hK, hid, by show I64 0; unfold I64; omega, hsz, z32_len, ⟨_, _, _, rfl, hBt, hc9, hc9'⟩⟩ (fun b o n c e => by injection e with e _ _; injection e with e; injection e with e _; subst e; exact n2) HP.out
    · refine kf_ch ?_
      have c2 := hR.get (j := 3) 0 rfl (frm_3 _ _)
      have f2 := hR.free 0 rfl 3
      have hR3 : Rd true w (w6.setCell ⟨g8, 3, none⟩ (.int .i64 at_)) [(g8, (frmV ⟨K, id, 0, at_, z32, []⟩ (.slice none 0 0)).toArray, 29), (g7, #[.pointer (some ⟨g, 0, none⟩)], 92), (g2, zFrm.toArray, 29)] g l4 e4 := hR.cell 0 rfl h8 3 (.int .i64 at_)
      clear hR
      ((first | refine kl_step rfl rfl rfl fun K hK => ?_ | refine kl_step0 rfl rfl rfl fun K hK => ?_); go_simp; (try go_bits); (first | refine hK _ _ ?_ | refine hK _ ?_); clear hK K)
      clear c2 f2
      have hR := hR3
      clear hR3
      generalize w6.setCell ⟨g8, 3, none⟩ (.int .i64 at_) = w8 at *
      refine kl_nil ?_
      refine kq_f (Hold.cons (hR.at_ 1 rfl) (Hold.nil _)) ?_
      repeat (first | refine kf_nil ?_ | refine kf_ung rfl rfl ?_ | refine kf_skipg rfl rfl rfl rfl ?_ | (first | refine kf_move rfl rfl (.inl rfl) rfl rfl ?_ | refine kf_move rfl rfl (.inr rfl) rfl rfl ?_ | refine kf_const rfl rfl (.inl rfl) rfl ?_ | refine kf_const rfl rfl (.inr rfl) rfl ?_) | (refine kf_val rfl rfl rfl ?_; apply Exists.intro; refine And.intro (fun W hW N hN => ?_) ?_; · (go_simp; (try go_bits); exact hN)))
      refine kf_ch ?_
      refine kl_strBytes tx (by have := HLN.out; omega) rfl rfl rfl rfl rfl ?_
      intro c9 w7 hBt hbt hc9 hc9'
      have hR7 := hR.next hbt
      have n8 : w8.heap.size ≠ g8 := Nat.ne_of_gt (hR.vars.lt (g8, (frmV ⟨K, id, 0, at_, z32, []⟩ (.slice none 0 0)).toArray, 29) (by simp))
      have n2 : w8.heap.size ≠ g2 := Nat.ne_of_gt (hR.vars.lt (g2, zFrm.toArray, 29) (by simp))
      clear hbt hR
      have hR := hR7
      clear hR7
      generalize w8.heap.size = g9 at *
      refine kl_nil ?_
      refine kq_f (Hold.cons (hR.at_ 1 rfl) (Hold.nil _)) ?_
      have hBt3 := hBt
      clear hBt
      repeat (first | refine kf_nil ?_ | refine kf_ung rfl rfl ?_ | refine kf_skipg rfl rfl rfl rfl ?_ | (first | refine kf_move rfl rfl (.inl rfl) rfl rfl ?_ | refine kf_move rfl rfl (.inr rfl) rfl rfl ?_ | refine kf_const rfl rfl (.inl rfl) rfl ?_ | refine kf_const rfl rfl (.inr rfl) rfl ?_) | (refine kf_val rfl rfl rfl ?_; apply Exists.intro; refine And.intro (fun W hW N hN => ?_) ?_; · (go_simp; (try go_bits); exact hN)))
      refine kf_ch ?_
      have c2 := hR.get (j := 36) 0 rfl (frm_36 _ _ z32_len)
      have f2 := hR.free 0 rfl 36
      have hR3 := hR.cell 0 rfl h8 36 (.slice (some ⟨g9, 0, none⟩) tx.length c9)
      rw [frm_set36 _ _ _ z32_len] at hR3
      have hBt : Bs (w7.setCell ⟨g8, 36, none⟩ (.slice (some ⟨g9, 0, none⟩) tx.length c9)) (some ⟨g9, 0, none⟩) tx.length tx := Vs.far hBt3 (fun b o e => by injection e with e; injection e with e _; subst e; exact n8) _
      clear hR hBt3
      ((first | refine kl_step rfl rfl rfl fun K hK => ?_ | refine kl_step0 rfl rfl rfl fun K hK => ?_); go_simp; (try go_bits); (first | refine hK _ _ ?_ | refine hK _ ?_); clear hK K)
      clear c2 f2
      generalize w7.setCell ⟨g8, 36, none⟩ _ = w9 at *
      refine kl_nil ?_
      refine kq_f (Hold.cons (hR3.at_ 1 rfl) (Hold.nil _)) ?_
      refine kf_nil ?_
      refine kq_block ?_
      refine kq_then ?_
      refine KW.less [2, 7, 8] ?_
      simp only [nrm, lk, Nat.reduceBEq, cond_true, cond_false]
      exact parse_fin (F := ⟨K, id, 0, at_, z32, tx⟩) hB hR3 ⟨hK, hid, by show I64 0; unfold I64; omega, hsz, z32_len, ⟨_, _, _, rfl, hBt, hc9, hc9'⟩⟩ (fun b o n c e => by injection e with e _ _; injection e with e; injection e with e _; subst e; exact n2) HP.out
  · have t1 : (K == 1) = false := by rw [beq_eq_false_iff_ne]; exact k1
    have t2 : (K == 2) = false := by rw [beq_eq_false_iff_ne]; exact k2
    rw [if_neg k1, if_neg k2] at HP
    clear k1 k2
    repeat (first | refine kw_seq ?_ | refine kw_block ?_ | refine kw_region ?_ | refine kl_nil ?_ | refine kw_iff rfl ?_ | (first | refine kl_move rfl rfl (.inl rfl) rfl rfl ?_ | refine kl_move rfl rfl (.inr rfl) rfl rfl ?_ | refine kl_const rfl rfl (.inl rfl) rfl ?_ | refine kl_const rfl rfl (.inr rfl) rfl ?_) | ((first | refine kl_step rfl rfl rfl fun K hK => ?_ | refine kl_step0 rfl rfl rfl fun K hK => ?_); go_simp; (try go_bits); (first | refine hK _ _ ?_ | refine hK _ ?_); clear hK K) | (refine kq_then ?_; first | refine kw_iff rfl ?_ | refine kw_block ?_ | refine kw_seq ?_; refine kw_block ?_))
    refine kw_skip ?_
    refine kq_block ?_
    refine kq_then ?_
    refine KW.less [2, 7, 8] ?_
    simp only [nrm, lk, Nat.reduceBEq, cond_true, cond_false]
    exact parse_fin hB hR ⟨hK, hid, by show I64 0; unfold I64; omega, by show I64 0; unfold I64; omega, z32_len, SlB.nil _⟩ (fun b o n c e => by cases e) HP.out
end Go.Proofs.Ytkgenkkcgegcbaa
