/- What cells keep: the document's. Kept rows are appended, nil or not. -/
import Derived.Test.YtcpifcdndhhmgaaTakTake
import Derived.Test.YtcpifcdndhhmgaaLay
import Derived.Laws.AppendOwnNone
set_option linter.unusedVariables false
set_option linter.unusedSimpArgs false
namespace Go.Proofs.Ytcpifcdndhhmgaa
open Go.RowKit
attribute [local go_sem] ev_tmp ev_const ev_func ev_global lk_hit lk_miss uponK_value uponK_skip look_tmp look_const look_global look_func valP_value
set_option maxRecDepth 100000 in
set_option maxHeartbeats 4000000 in
theorem takeR_any (A : Option Addr) (n c : Nat) (l : List CellV) (V : Option Addr) (m d : Nat) (zs : List Int) (w : World) (hA : Rw cellE w A n l) (hn : n ≤ 1048576) (hV : Vs w V m (zs.map (Value.int .i64))) (hm : m ≤ 1048576) :
    Calls Try.prog 32 #[.slice A n c, .slice V m d] w fun e w' => ∃ A n c, e = .returned (.slice A n c) ∧ KeS w' A n (takeP l zs) ∧ n ≤ c ∧ c ≤ 9223372036854775807 ∧ Below w.heap.size w w' ∧ (∀ a, A = some a → w.heap.size ≤ a.block) := by
  refine calls_kw Try.func32 rfl Try.ntmps32 rfl [(0, .slice A n c), (1, .slice V m d)] rfl ?_
  have HL := Lib.hid hA.len
  have HZ : Hid (zs.length = m) := by show _ = _; have := hV.1; simpa using this
  repeat (first | refine kw_seq ?_ | refine kw_skip ?_ | refine kw_region ?_ | refine kl_nil ?_ | refine kq_then ?_ | refine kq_block ?_ | refine kw_exit ?_ | refine kq_then_exit ?_ | refine kq_block_here rfl ?_ | refine kq_block_far rfl ?_ | refine kq_again_exit ?_ | refine kw_ret ?_ | refine kq_then_ret ?_ | refine kq_block_ret ?_ | refine kq_again_ret ?_ | refine kw_ift rfl ?_ | refine kw_iff rfl ?_ | refine kl_ung rfl rfl ?_ | refine kl_skipg rfl rfl rfl rfl ?_ | refine kl_skipg0 rfl rfl rfl ?_ | (first | refine kl_move rfl rfl (.inl rfl) rfl rfl ?_ | refine kl_move rfl rfl (.inr rfl) rfl rfl ?_ | refine kl_const rfl rfl (.inl rfl) rfl ?_ | refine kl_const rfl rfl (.inr rfl) rfl ?_) | ((first | refine kl_step rfl rfl rfl fun K hK => ?_ | refine kl_step0 rfl rfl rfl fun K hK => ?_); go_simp; (try go_bits); (first | refine hK _ _ ?_ | refine hK _ ?_); clear hK K))
  refine KW.less [0, 1, 5, 6] ?_
  simp only [nrm, lk, Nat.reduceBEq, cond_true, cond_false]
  refine kw_block ?_
  refine kw_loop (fun mm L W => ∃ (k j : Nat) (v : Value), k ≤ n ∧ mm = n - k ∧ Hid (Below w.heap.size w W) ∧ Hid (W.ownsRow w.heap.size 29 3 v j (flatK (takeZ ((l.zip zs).take k)))) ∧ Hid (j = (takeZ ((l.zip zs).take k)).length ∧ j ≤ k) ∧ L = [(0, .slice A n c), (1, .slice V m d), (5, v), (6, .int .i64 (k : Int))]) ⟨0, 0, .slice none 0 0, by omega, rfl, Below.refl _ _, World.ownsRow_nil _ _ _ _, ⟨rfl, Nat.le_refl _⟩, rfl⟩ ?_
  rintro mm L W ⟨k, j, v, hk, rfl, hb, ho, hj, rfl⟩
  by_cases hlt : k < n
  case neg =>
    have t1 : decide ((k : Int) < (n : Int)) = false := by rw [decide_eq_false_iff_not]; omega
    have t1n : decide (k < n) = false := decide_eq_false hlt
    have HDN : Hid ((l.zip zs).take k = l.zip zs) := by show _ = _; rw [List.take_of_length_le (by rw [List.length_zip, HL.out]; omega)]
    clear hlt hk
    rw [HDN.out] at ho hj
    obtain ⟨A6, c6, rfl, hke, hn6, hc6, _, hw6⟩ := own_kes2 ho.out hj.out.1.symm
    clear ho
    repeat (first | refine kw_seq ?_ | refine kw_block ?_ | refine kw_skip ?_ | refine kw_region ?_ | refine kl_nil ?_ | refine kq_then ?_ | refine kq_block ?_ | refine kw_exit ?_ | refine kq_then_exit ?_ | refine kq_block_here rfl ?_ | refine kq_block_far rfl ?_ | refine kq_again_exit ?_ | refine kw_ret ?_ | refine kq_then_ret ?_ | refine kq_block_ret ?_ | refine kq_again_ret ?_ | refine kw_ift rfl ?_ | refine kw_iff rfl ?_ | refine kl_ung rfl rfl ?_ | refine kl_skipg rfl rfl rfl rfl ?_ | refine kl_skipg0 rfl rfl rfl ?_ | (first | refine kl_move rfl rfl (.inl rfl) rfl rfl ?_ | refine kl_move rfl rfl (.inr rfl) rfl rfl ?_ | refine kl_const rfl rfl (.inl rfl) rfl ?_ | refine kl_const rfl rfl (.inr rfl) rfl ?_) | ((first | refine kl_step rfl rfl rfl fun K hK => ?_ | refine kl_step0 rfl rfl rfl fun K hK => ?_); go_simp; (try go_bits); (first | refine hK _ _ ?_ | refine hK _ ?_); clear hK K))
    exact kq_ret1 rfl rfl ⟨_, _, _, rfl, hke, hn6, hc6, hb.out, hw6⟩
  have t1 : decide ((k : Int) < (n : Int)) = true := by rw [decide_eq_true_eq]; omega
  have t1n : decide (k < n) = true := decide_eq_true hlt
  by_cases hkm : k < m
  case neg =>
    have t2 : decide ((k : Int) < (m : Int)) = false := by rw [decide_eq_false_iff_not]; omega
    have t2n : decide (k < m) = false := decide_eq_false hkm
    have HDN : Hid ((l.zip zs).take k = l.zip zs) := by show _ = _; rw [List.take_of_length_le (by rw [List.length_zip, HZ.out]; omega)]
    clear hlt hk hkm
    rw [HDN.out] at ho hj
    obtain ⟨A6, c6, rfl, hke, hn6, hc6, _, hw6⟩ := own_kes2 ho.out hj.out.1.symm
    clear ho
    repeat (first | refine kw_seq ?_ | refine kw_block ?_ | refine kw_skip ?_ | refine kw_region ?_ | refine kl_nil ?_ | refine kq_then ?_ | refine kq_block ?_ | refine kw_exit ?_ | refine kq_then_exit ?_ | refine kq_block_here rfl ?_ | refine kq_block_far rfl ?_ | refine kq_again_exit ?_ | refine kw_ret ?_ | refine kq_then_ret ?_ | refine kq_block_ret ?_ | refine kq_again_ret ?_ | refine kw_ift rfl ?_ | refine kw_iff rfl ?_ | refine kl_ung rfl rfl ?_ | refine kl_skipg rfl rfl rfl rfl ?_ | refine kl_skipg0 rfl rfl rfl ?_ | (first | refine kl_move rfl rfl (.inl rfl) rfl rfl ?_ | refine kl_move rfl rfl (.inr rfl) rfl rfl ?_ | refine kl_const rfl rfl (.inl rfl) rfl ?_ | refine kl_const rfl rfl (.inr rfl) rfl ?_) | ((first | refine kl_step rfl rfl rfl fun K hK => ?_ | refine kl_step0 rfl rfl rfl fun K hK => ?_); go_simp; (try go_bits); (first | refine hK _ _ ?_ | refine hK _ ?_); clear hK K))
    exact kq_ret1 rfl rfl ⟨_, _, _, rfl, hke, hn6, hc6, hb.out, hw6⟩
  have t2 : decide ((k : Int) < (m : Int)) = true := by rw [decide_eq_true_eq]; omega
  have t2n : decide (k < m) = true := decide_eq_true hkm
  have u0 : (0 : Int) ≤ k := by omega
  have u1 : (k : Int) < n := by omega
  have u3 : (k : Int) < (m : Int) := by omega
  obtain ⟨g, o, p, rfl, hr, _, hx⟩ := hA.next hlt
  have HR0 : Hid (w.rangeAt g (o + k * 6) (cellC p)) := hr
  have c2 : W.cell? ⟨g, o + k * 6 + 2, none⟩ = some (.bool p.retain) := Keeps.of_below hb.out _ _ (HR0.out 2 _ rfl)
  obtain ⟨nk, hnk⟩ : ∃ nk, k + 1 = nk := ⟨_, rfl⟩
  have k1 : (k : Int) + 1 = (nk : Int) := by omega
  have k2 : (0 : Int) ≤ nk := by omega
  have k3 : (nk : Int) ≤ 1048576 := by omega
  have HK := Lib.hid (And.intro hnk hlt)
  have hkz : k < zs.length := by rw [HZ.out]; exact hkm
  obtain ⟨z, hz⟩ : ∃ z, zs[k]? = some z := ⟨_, List.getElem?_eq_getElem hkz⟩
  have hzn := zip_next l zs k p z hx.out hz
  rw [hnk] at hzn
  have HZN := Lib.hid hzn
  have HZK := Lib.hid hz
  clear hzn hkz hz hnk hr
  cases hret : p.retain
  case false =>
    rw [hret] at c2
    have HRT := Lib.hid hret
    clear hret hkm hlt hk
    repeat (first | refine kw_seq ?_ | refine kw_block ?_ | refine kw_region ?_ | refine kl_nil ?_ | refine kq_then ?_ | refine kq_block ?_ | refine kw_ift rfl ?_ | refine kw_iff rfl ?_ | refine kw_skip ?_ | refine kl_ung rfl rfl ?_ | refine kl_skipg rfl rfl rfl rfl ?_ | (first | refine kl_move rfl rfl (.inl rfl) rfl rfl ?_ | refine kl_move rfl rfl (.inr rfl) rfl rfl ?_ | refine kl_const rfl rfl (.inl rfl) rfl ?_ | refine kl_const rfl rfl (.inr rfl) rfl ?_) | ((first | refine kl_step rfl rfl rfl fun K hK => ?_ | refine kl_step0 rfl rfl rfl fun K hK => ?_); go_simp; (try go_bits); (first | refine hK _ _ ?_ | refine hK _ ?_); clear hK K))
    refine kq_again (n - nk) [0, 1, 5, 6] (by have := HK.out; omega) ?_
    refine ⟨nk, j, v, by have := HK.out; omega, rfl, hb, ?_, ?_, rfl⟩
    · show World.ownsRow _ _ _ _ _ _ _
      rw [HZN.out, takeZ_no _ (p, z) HRT.out]; exact ho.out
    · show _ ∧ _
      rw [HZN.out, takeZ_no _ (p, z) HRT.out]; exact ⟨hj.out.1, by have := hj.out.2; have := HK.out; omega⟩
  rw [hret] at c2
  have HRT := Lib.hid hret
  obtain ⟨gV, oV, rfl, hcV0⟩ := hV.at_ hkm
  obtain ⟨hzk1, hzk2⟩ := List.getElem?_eq_some_iff.1 HZK.out
  have hcV : w.cell? ⟨gV, oV + k, none⟩ = some (.int .i64 z) := by rw [hcV0]; simp [hzk2]
  have HCV := Lib.hid hcV
  clear hret hcV hcV0 hzk2 hzk1 hkm hlt hk
  repeat (first | refine kw_seq ?_ | refine kw_block ?_ | refine kw_region ?_ | refine kl_nil ?_ | refine kq_then ?_ | refine kq_block ?_ | refine kw_ift rfl ?_ | refine kw_iff rfl ?_ | refine kw_skip ?_ | refine kl_ung rfl rfl ?_ | refine kl_skipg rfl rfl rfl rfl ?_ | (first | refine kl_move rfl rfl (.inl rfl) rfl rfl ?_ | refine kl_move rfl rfl (.inr rfl) rfl rfl ?_ | refine kl_const rfl rfl (.inl rfl) rfl ?_ | refine kl_const rfl rfl (.inr rfl) rfl ?_) | ((first | refine kl_step rfl rfl rfl fun K hK => ?_ | refine kl_step0 rfl rfl rfl fun K hK => ?_); go_simp; (try go_bits); (first | refine hK _ _ ?_ | refine hK _ ?_); clear hK K))
  have hR := below_then hb.out ((Below.refl _ W).drew) hb.out.size
  have HO4 := Lib.hid (own_below ho.out ((Below.refl _ W).drew))
  have r0 : ∀ W, Below w.heap.size w W → W.cell? ⟨g, o + k * 6, none⟩ = some (.string ⟨p.path.toArray⟩) := fun W h => Keeps.of_below h _ _ (HR0.out 0 _ rfl)
  have r1 : ∀ W, Below w.heap.size w W → W.cell? ⟨g, o + k * 6 + 1, none⟩ = some (.int .i64 p.kind) := fun W h => Keeps.of_below h _ _ (HR0.out 1 _ rfl)
  have r2 : ∀ W, Below w.heap.size w W → W.cell? ⟨gV, oV + k, none⟩ = some (.int .i64 z) := fun W h => Keeps.of_below h _ _ HCV.out
  clear c2 t1 t1n t2 t2n ho
  refine kw_region_f (Below w.heap.size w) [true, true, true, true, true, true, true, true, true, true, true, true, true, true, true, false, false, false, true] (by kernel_rfl) (by kernel_rfl) hR ?_
  clear hb
  generalize W.drew = w4 at *
  repeat (first | refine kf_nil ?_ | refine kf_ung rfl rfl ?_ | refine kf_skipg rfl rfl rfl rfl ?_ | (first | refine kf_move rfl rfl (.inl rfl) rfl rfl ?_ | refine kf_move rfl rfl (.inr rfl) rfl rfl ?_ | refine kf_const rfl rfl (.inl rfl) rfl ?_ | refine kf_const rfl rfl (.inr rfl) rfl ?_) | (refine kf_val rfl rfl rfl ?_; apply Exists.intro; refine And.intro (fun W hW N hN => ?_) ?_; · (go_simp; (try go_bits); exact hN)))
  refine kf_ch ?_
  refine kl_build 29 _ (kepC ⟨p.path, p.kind, z⟩).toArray rfl rfl rfl (by rfl) (by rfl) (kepBuilt3 p.path p.kind z) ?_
  refine kl_nil ?_
  refine kq_f hR ?_
  repeat (first | refine kf_nil ?_ | refine kf_ung rfl rfl ?_ | refine kf_skipg rfl rfl rfl rfl ?_ | (first | refine kf_move rfl rfl (.inl rfl) rfl rfl ?_ | refine kf_move rfl rfl (.inr rfl) rfl rfl ?_ | refine kf_const rfl rfl (.inl rfl) rfl ?_ | refine kf_const rfl rfl (.inr rfl) rfl ?_) | (refine kf_val rfl rfl rfl ?_; apply Exists.intro; refine And.intro (fun W hW N hN => ?_) ?_; · (go_simp; (try go_bits); exact hN)))
  refine kf_ch ?_
  refine kl_buildSlice_row (z := kepC kepZ) (cs := kepC ⟨p.path, p.kind, z⟩) Try.underlying26 kepZero kepSize rfl (by omega) (by omega) rfl rfl rfl rfl rfl ?_
  have hr5 := rangeAt_new w4 (kepC ⟨p.path, p.kind, z⟩).toArray 29 w4.heap.size rfl
  have hb5 : Below w4.heap.size w4 (w4.alloc (.cells (kepC ⟨p.path, p.kind, z⟩).toArray 29)) := (Below.refl _ _).alloc (Nat.le_refl _) _
  have HO5 := Lib.hid (own_below HO4.out hb5)
  have hR5 := below_then hR hb5 hR.size
  have HR5 : Hid ((w4.alloc (.cells (kepC ⟨p.path, p.kind, z⟩).toArray 29)).rangeAt w4.heap.size 0 (kepC ⟨p.path, p.kind, z⟩)) := hr5
  clear hr5 hb5 HO4 hR
  generalize w4.alloc (.cells (kepC ⟨p.path, p.kind, z⟩).toArray 29) = w5 at HO5 hR5 HR5 ⊢
  generalize w4.heap.size = g5 at HR5 ⊢
  refine kl_nil ?_
  refine kq_f hR5 ?_
  repeat (first | refine kf_nil ?_ | refine kf_ung rfl rfl ?_ | refine kf_skipg rfl rfl rfl rfl ?_ | (first | refine kf_move rfl rfl (.inl rfl) rfl rfl ?_ | refine kf_move rfl rfl (.inr rfl) rfl rfl ?_ | refine kf_const rfl rfl (.inl rfl) rfl ?_ | refine kf_const rfl rfl (.inr rfl) rfl ?_) | (refine kf_val rfl rfl rfl ?_; apply Exists.intro; refine And.intro (fun W hW N hN => ?_) ?_; · (go_simp; (try go_bits); exact hN)))
  refine kf_ch ?_
  refine kl_appK w.heap.size v j (takeZ ((l.zip zs).take k)) (keptOf (p, z)) HO5.out g5 1 HR5.out (by have := hj.out; have := HK.out; omega) hR5.size rfl rfl rfl rfl rfl rfl ?_
  intro v6 w6 ho6 hg6 _
  have hR6 := below_appendN hR5 hg6 HO5.out hR5.size
  rw [← takeZ_yes _ (p, z) HRT.out, ← HZN.out] at ho6
  have HO6 := Lib.hid ho6
  clear ho6 hg6 HO5 HR5 hR5
  refine kl_nil ?_
  refine kq_f hR6 ?_
  repeat (first | refine kf_nil ?_ | refine kf_ung rfl rfl ?_ | refine kf_skipg rfl rfl rfl rfl ?_ | (first | refine kf_move rfl rfl (.inl rfl) rfl rfl ?_ | refine kf_move rfl rfl (.inr rfl) rfl rfl ?_ | refine kf_const rfl rfl (.inl rfl) rfl ?_ | refine kf_const rfl rfl (.inr rfl) rfl ?_) | (refine kf_val rfl rfl rfl ?_; apply Exists.intro; refine And.intro (fun W hW N hN => ?_) ?_; · (go_simp; (try go_bits); exact hN)))
  have HB6 := Lib.hid hR6
  clear r0 r1 r2 hR6 u3
  repeat (first | refine kw_seq ?_ | refine kw_block ?_ | refine kw_region ?_ | refine kl_nil ?_ | refine kq_then ?_ | refine kq_block ?_ | refine kw_ift rfl ?_ | refine kw_iff rfl ?_ | refine kw_skip ?_ | refine kl_ung rfl rfl ?_ | refine kl_skipg rfl rfl rfl rfl ?_ | (first | refine kl_move rfl rfl (.inl rfl) rfl rfl ?_ | refine kl_move rfl rfl (.inr rfl) rfl rfl ?_ | refine kl_const rfl rfl (.inl rfl) rfl ?_ | refine kl_const rfl rfl (.inr rfl) rfl ?_) | ((first | refine kl_step rfl rfl rfl fun K hK => ?_ | refine kl_step0 rfl rfl rfl fun K hK => ?_); go_simp; (try go_bits); (first | refine hK _ _ ?_ | refine hK _ ?_); clear hK K))
  refine kq_again (n - nk) [0, 1, 5, 6] (by have := HK.out; omega) ?_
  refine ⟨nk, j + 1, v6, by have := HK.out; omega, rfl, HB6, HO6, ?_, rfl⟩
  show _ ∧ _
  rw [HZN.out, takeZ_yes _ (p, z) HRT.out, List.length_append, ← hj.out.1]
  exact ⟨rfl, by have := hj.out.2; have := HK.out; omega⟩
end Go.Proofs.Ytcpifcdndhhmgaa
set_option linter.unusedVariables false
set_option linter.unusedSimpArgs false
namespace Go.Proofs.Ytcpifcdndhhmgaa
open Go.RowKit
set_option maxRecDepth 100000 in
theorem kl_appKS {Q : Exit → Act → World → Prop} {N : Nat} {L : Slots} {w : World} {ops : Array Oper} {rest : List Oper} {o : Oper} {d x y : Nat} (base : Nat) (v : Value) (n : Nat) (l : List KepS) (hown : w.ownsRow base 29 3 v n (flatK l)) (A : Option Addr) (m c : Nat) (k : List KepS)
    (hk : KeS w A m k) (h0 : A = none → m = 0 ∧ c = 0) (hn : n + m ≤ 100000) (hbase : base ≤ w.heap.size)
    (hd : o.dst = some d) (hg : o.guard = none) (ho : o.op = .call { callee := .builtin .append, args := #[.tmp x, .tmp y], argTypes := #[26, 26] })
    (hs : lk L x = some v) (hx : lk L y = some (.slice A m c)) (hN : Nat.blt d N = true)
    (h : ∀ v' w', w'.ownsRow base 29 3 v' (n + m) (flatK (l ++ k)) → w.grownBy w' v.ownBlock → (v'.ownBlock = v.ownBlock ∨ v'.ownBlock = some w.heap.size) → KL Try.prog ops Q rest N ((d, v') :: L) w') : KL Try.prog ops Q (o :: rest) N L w := by
  obtain ⟨i0, hi0, hz0, hz1, hz2⟩ := info_parts kepInfo3
  have hfl : flatK l ++ flatK k = flatK (l ++ k) := (flatR_append kepE l k).symm
  rcases A with _ | ad
  · obtain ⟨rfl, rfl⟩ := h0 rfl
    have hl : k = [] := List.eq_nil_of_length_eq_zero hk.len
    subst hl
    exact ⟨fun a ka => wpList_append_own_none hg (.tmp x) (.tmp y) 26 ho base 29 i0 3 Try.underlying26 hi0 v n _ (ka.ev hs) hown (ka.ev hx) (kl_back ka hd hN (h v w (by rw [Nat.add_zero, List.append_nil]; exact hown) (grown_refl _ _) (.inl rfl)))⟩
  · have hsrc : ∀ j u, (flatK k)[j]? = some u → w.cell? (ad.add j) = some u := by
      intro j u hu
      have hj := (List.getElem?_eq_some_iff.1 hu).1
      rw [flatK_len] at hj
      obtain ⟨g, o, e, hc⟩ := hk.rw_.flat.2 (by show 0 < m * 3; rw [← hk.len]; omega)
      injection e with e
      subst e
      rw [add_lit]
      exact hc j u hu
    exact ⟨fun a ka => wpList_append_own_at w hg (.tmp x) (.tmp y) 26 ho base 29 i0 (.agg (kepC kepZ).toArray) 3 32 Try.underlying26 hi0 hz0 hz1 hz2 rfl (by omega) v n _ (ka.ev hs) hown ad m c (flatK k) (ka.ev hx) (by rw [flatK_len, hk.len]) hsrc (flatR_one kepE k)
      (by simp [maxLen]; omega) (by omega) hbase fun v' w' a1 a2 _ a3 => kl_back ka hd hN (h v' w' (by rw [← hfl]; exact a1) a2 a3)⟩
def KsOk (l : List KepS) : Prop := ∀ k ∈ l, k.path.length ≤ 9223372036854775807 ∧ I64 k.kind ∧ I64 k.value
/-- a row of kept values that lies in a cell -/
def RowAt (w : World) (g i : Nat) (l : List KepS) : Prop := ∃ A n c, w.cell? ⟨g, i, none⟩ = some (.slice A n c) ∧ KeS w A n l ∧ n ≤ 1000 ∧ n ≤ c ∧ c ≤ 9223372036854775807 ∧ KsOk l
end Go.Proofs.Ytcpifcdndhhmgaa
