/- Records: slices.Chunk, and the iterator that it makes. crc.Seal and the reference's Seal: what each returns. -/
import Derived.Test.YtcpifcdndhhmgaaRecLoad
import Derived.Test.YtcpifcdndhhmgaaKnJ
import Derived.Test.YtcpifcdndhhmgaaKnF
import Derived.Test.YtcpifcdndhhmgaaChecked
import Derived.Test.YtcpifcdndhhmgaaCrcSum
import Derived.Test.YtcpifcdndhhmgaaAppendK
import Derived.Test.YtcpifcdndhhmgaaSealPlain
set_option linter.unusedVariables false
set_option linter.unusedSimpArgs false
namespace Go.Proofs.Ytcpifcdndhhmgaa
open Go.RowKit
attribute [local go_sem] ev_tmp ev_const ev_func ev_global lk_hit lk_miss uponK_value uponK_skip look_tmp look_const look_global look_func valP_value
def KpC (b2 b3 : Nat) (A B : World) : Prop := B.heap[b2]? = A.heap[b2]? ∧ B.heap[b3]? = A.heap[b3]?
theorem KpC.t {b2 b3 : Nat} {A B C : World} (h : KpC b2 b3 A B) (k : KpC b2 b3 B C) : KpC b2 b3 A C := ⟨k.1.trans h.1, k.2.trans h.2⟩
theorem KpC.b {b2 b3 : Nat} {w : World} (h2 : b2 < w.heap.size) (h3 : b3 < w.heap.size) (W : World) (l : Nat) (o o' : Obj) (hl : w.heap.size ≤ l) (_ : W.heap[l]? = some o) (_ : o.isCells = false) (_ : o.isWalk = false) : KpC b2 b3 W (W.putObj l o') :=
  ⟨World.putObj_heap_other (by omega), World.putObj_heap_other (by omega)⟩
theorem boxed_kp {b2 b3 : Nat} {A B : World} (h : KpC b2 b3 A B) {t t' : TypeId} {v v' : Value} (h2 : Boxed A b2 t v) (h3 : Boxed A b3 t' v') : Boxed B b2 t v ∧ Boxed B b3 t' v' := ⟨h.1.trans h2, h.2.trans h3⟩
theorem boxed_cell {W : World} {B : Nat} {t : TypeId} {v : Value} (h : Boxed W B t v) : W.cell? ⟨B, 0, none⟩ = some v := h.cell
set_option maxRecDepth 100000 in
set_option maxHeartbeats 1000000 in
theorem chunk_any (A : Option Addr) (n c : Nat) (w : World) :
    Calls Try.prog 58 #[.slice A n c, .int .i64 16] w fun e w' => ∃ b2 b3, e = .returned (.func (.func 89) #[] #[.pointer (some ⟨b2, 0, none⟩), .pointer (some ⟨b3, 0, none⟩)]) ∧ Below w.heap.size w w' ∧ w.heap.size ≤ b2 ∧ w.heap.size ≤ b3 ∧ Boxed w' b2 27 (.slice A n c) ∧ Boxed w' b3 3 (.int .i64 16) := by
  refine calls_kw Try.func58 rfl Try.ntmps58 rfl [(0, .slice A n c), (1, .int .i64 16)] rfl ?_
  refine kw_seq ?_
  refine kw_region ?_
  refine kl_box1 rfl rfl rfl rfl rfl rfl fun b2 w1 he1 hs1 hb1 hx2 => ?_
  refine kl_box1 rfl rfl rfl rfl rfl rfl fun b3 w2 he2 hs2 hb2 hx3 => ?_
  have hx2' := boxed_below hx2 hb2
  have hc2 := boxed_cell hx2'
  have hc3 := boxed_cell hx3
  have HB := Lib.hid (below_then hb1 hb2 hb1.size)
  have HX := Lib.hid (And.intro hx2' hx3)
  have HI : Hid (w.heap.size ≤ b2 ∧ w.heap.size ≤ b3) := by show _ ∧ _; rw [he1.out, he2.out, hs1.out]; omega
  clear hx2 hx2' hx3 hb1 hb2 he1 he2 hs1 hs2
  repeat (first | refine kw_seq ?_ | refine kw_block ?_ | refine kw_skip ?_ | refine kw_region ?_ | refine kl_nil ?_ | refine kq_then ?_ | refine kq_block ?_ | refine kw_exit ?_ | refine kq_then_exit ?_ | refine kq_block_here rfl ?_ | refine kq_block_far rfl ?_ | refine kq_again_exit ?_ | refine kw_ret ?_ | refine kq_then_ret ?_ | refine kq_block_ret ?_ | refine kq_again_ret ?_ | refine kw_ift rfl ?_ | refine kw_iff rfl ?_ | refine kl_ung rfl rfl ?_ | refine kl_skipg rfl rfl rfl rfl ?_ | refine kl_skipg0 rfl rfl rfl ?_ | refine kl_makeFunc rfl rfl rfl rfl rfl ?_ | (first | refine kl_move rfl rfl (.inl rfl) rfl rfl ?_ | refine kl_move rfl rfl (.inr rfl) rfl rfl ?_ | refine kl_const rfl rfl (.inl rfl) rfl ?_ | refine kl_const rfl rfl (.inr rfl) rfl ?_) | ((first | refine kl_step rfl rfl rfl fun K hK => ?_ | refine kl_step0 rfl rfl rfl fun K hK => ?_); go_simp; (try go_bits); (first | refine hK _ _ ?_ | refine hK _ ?_); clear hK K))
  exact kq_ret1 rfl rfl ⟨b2, b3, rfl, HB.out, HI.out.1, HI.out.2, HX.out.1, HX.out.2⟩
theorem finTake (G k : Nat) (h : k < G) : (List.finRange G).take (k + 1) = (List.finRange G).take k ++ [⟨k, h⟩] := by
  rw [List.take_add_one, List.getElem?_eq_getElem (by simpa using h)]
  simp
theorem finTake_len (G k : Nat) (h : k ≤ G) : ((List.finRange G).take k).length = k := by simp; omega
theorem finTake_all (G : Nat) : (List.finRange G).take G = List.finRange G := List.take_of_length_le (by simp)
set_option maxRecDepth 100000 in
set_option maxHeartbeats 2000000 in
theorem chunk_stops (b2 b3 gx N cx G m : Nat) (hN : N ≤ cx) (hN2 : N ≤ 2000) (hcx : cx ≤ 9223372036854775807) (hG : N ≤ 16 * G ∧ 16 * G < N + 16) (w : World) (h2 : Boxed w b2 27 (.slice (some ⟨gx, 0, none⟩) N cx)) (h3 : Boxed w b3 3 (.int .i64 16)) :
    SeqStopsK Fence.wide m Try.prog 89 #[.pointer (some ⟨b2, 0, none⟩), .pointer (some ⟨b3, 0, none⟩)] (fun i : Fin G => #[Value.slice (some ⟨gx, 16 * i.1, none⟩) (min (16 * i.1 + 16) N - 16 * i.1) (min (16 * i.1 + 16) N - 16 * i.1)]) (KpC b2 b3)
      (fun xs => xs = List.finRange G) (fun pre => ∃ k, k ≤ G ∧ pre = (List.finRange G).take k) G w := fun l J Jx W hW hA _ hY h0 => by
  have x2 := boxed_below h2 hW
  have x3 := boxed_below h3 hW
  have HG := Lib.hid hG
  have hA2 : ∀ (s : List (Fin G)) (A B : World) (row : Option Nat), J s A → A.grownBy B row → (∀ r, row = some r → W.heap.size ≤ r ∧ ∃ o : Obj, A.heap[r]? = some o ∧ o.isWalk = true) → J s B := hA
  clear hA hG hW h2 h3
  refine calls_kc (args := [.func (.yield l) #[] #[], .pointer (some ⟨b2, 0, none⟩), .pointer (some ⟨b3, 0, none⟩)]) Try.func89 rfl Try.ntmps89 rfl [(0, .func (.yield l) #[] #[]), (1, .pointer (some ⟨b2, 0, none⟩)), (2, .pointer (some ⟨b3, 0, none⟩))] rfl ?_
  refine kc_seq (kc_plain ?_)
  refine kw_region ?_
  repeat (first | refine kl_nil ?_ | (first | refine kl_move rfl rfl (.inl rfl) rfl rfl ?_ | refine kl_move rfl rfl (.inr rfl) rfl rfl ?_ | refine kl_const rfl rfl (.inl rfl) rfl ?_ | refine kl_const rfl rfl (.inr rfl) rfl ?_) | ((first | refine kl_step rfl rfl rfl fun K hK => ?_ | refine kl_step0 rfl rfl rfl fun K hK => ?_); go_simp; (try go_bits); (first | refine hK _ _ ?_ | refine hK _ ?_); clear hK K))
  refine kq_thenC ?_
  refine kc_less [0, 1, 2, 4] ?_
  simp only [nrm, lk, Nat.reduceBEq, cond_true, cond_false]
  refine kc_block ?_
  refine kc_loop (fun mm L W' => ∃ k q, k ≤ G ∧ mm = G - k ∧ Hid (16 * k = q) ∧ J ((List.finRange G).take k) W' ∧ Boxed W' b2 27 (.slice (some ⟨gx, 0, none⟩) N cx) ∧ Boxed W' b3 3 (.int .i64 16) ∧ L = [(0, .func (.yield l) #[] #[]), (1, .pointer (some ⟨b2, 0, none⟩)), (2, .pointer (some ⟨b3, 0, none⟩)), (4, .int .i64 (q : Int))]) ⟨0, 0, by omega, rfl, by show _ = _; omega, h0, x2, x3, rfl⟩ ?_
  clear x2 x3 h0
  rintro mm L W1 ⟨k, q, hk, rfl, hq, hJ, x2, x3, rfl⟩
  have c2 := boxed_cell x2
  have c3 := boxed_cell x3
  have HX := Lib.hid (And.intro x2 x3)
  have HK := Lib.hid hk
  clear x2 x3 hk
  have q0 : (0 : Int) ≤ q := by omega
  have qb : (q : Int) ≤ 2100 := by have := hq.out; have := HG.out; have := HK.out; omega
  by_cases hlt : q < N
  case neg =>
    have hiG : k = G := by have := hq.out; have := HG.out; have := HK.out; omega
    have t1 : decide ((q : Int) < (N : Int)) = false := by rw [decide_eq_false_iff_not]; omega
    have t1n : decide (q < N) = false := decide_eq_false hlt
    subst hiG
    rw [finTake_all] at hJ
    refine kc_seq (kc_seq (kc_plain ?_))
    refine kw_region ?_
    repeat (first | refine kl_nil ?_ | (first | refine kl_move rfl rfl (.inl rfl) rfl rfl ?_ | refine kl_move rfl rfl (.inr rfl) rfl rfl ?_ | refine kl_const rfl rfl (.inl rfl) rfl ?_ | refine kl_const rfl rfl (.inr rfl) rfl ?_) | ((first | refine kl_step rfl rfl rfl fun K hK => ?_ | refine kl_step0 rfl rfl rfl fun K hK => ?_); go_simp; (try go_bits); (first | refine hK _ _ ?_ | refine hK _ ?_); clear hK K))
    refine kq_thenC ?_
    refine kc_iff rfl ?_
    refine kc_exit ?_
    refine kq_then_exit ?_
    refine kq_then_exit ?_
    refine kq_block_here rfl ?_
    refine kq_end0 rfl ?_
    exact ⟨⟨_, rfl⟩, .inl ⟨_, rfl, hJ⟩⟩
  have hkG : k < G := by have := hq.out; have := HG.out; have := HK.out; omega
  have t1 : decide ((q : Int) < (N : Int)) = true := by rw [decide_eq_true_eq]; omega
  have t1n : decide (q < N) = true := decide_eq_true hlt
  refine kc_seq (kc_seq (kc_plain ?_))
  refine kw_region ?_
  repeat (first | refine kl_nil ?_ | (first | refine kl_move rfl rfl (.inl rfl) rfl rfl ?_ | refine kl_move rfl rfl (.inr rfl) rfl rfl ?_ | refine kl_const rfl rfl (.inl rfl) rfl ?_ | refine kl_const rfl rfl (.inr rfl) rfl ?_) | ((first | refine kl_step rfl rfl rfl fun K hK => ?_ | refine kl_step0 rfl rfl rfl fun K hK => ?_); go_simp; (try go_bits); (first | refine hK _ _ ?_ | refine hK _ ?_); clear hK K))
  refine kq_thenC ?_
  refine kc_ift rfl ?_
  refine kc_skip ?_
  refine kq_thenC ?_
  refine kc_less [0, 1, 2, 4] ?_
  simp only [nrm, lk, Nat.reduceBEq, cond_true, cond_false]
  refine kc_seq ?_
  refine kc_block ?_
  clear t1 t1n
  obtain ⟨d, hd⟩ : ∃ d, min (q + 16) N - q = d := ⟨_, rfl⟩
  obtain ⟨r, hr⟩ : ∃ r, N - q = r := ⟨_, rfl⟩
  obtain ⟨e, he⟩ : ∃ e, q + d = e := ⟨_, rfl⟩
  have i1 : (q : Int) + (d : Int) = (e : Int) := by omega
  have m1 : (if (16 : Int) < (r : Int) then (16 : Int) else (r : Int)) = (d : Int) := by split <;> omega
  have m2 : (if (r : Int) < 16 then (r : Int) else 16) = (d : Int) := by split <;> omega
  have m3 : (if 16 < r then (16 : Int) else (r : Int)) = (d : Int) := by split <;> omega
  have m4 : (if r < 16 then (r : Int) else 16) = (d : Int) := by split <;> omega
  have s1 : (q : Int) ≤ N := by omega
  have s2 : (e : Int) ≤ cx := by omega
  have s3 : (q : Int) ≤ e := by omega
  have s4 : (0 : Int) ≤ e := by omega
  have s5 : (q : Int) ≤ cx := by omega
  have s6 : (e : Int) ≤ 3000 := by omega
  have s7 : (0 : Int) ≤ d := by omega
  have u1 : q ≤ e := by omega
  have u2 : e ≤ cx := by omega
  have u3 : q ≤ N := by omega
  have u4 : q ≤ cx := by omega
  have u5 : ¬ (cx = q) := by omega
  have u6 : ¬ (e = q) := by omega
  have u7 : e - q = d := by omega
  have HD := Lib.hid (And.intro hd he)
  clear hd he
  refine kc_seq (kc_plain ?_)
  refine kw_region_f (fun W => W.cell? ⟨b2, 0, none⟩ = some (.slice (some ⟨gx, 0, none⟩) N cx) ∧ W.cell? ⟨b3, 0, none⟩ = some (.int .i64 16)) [true, true, true, true, true, true, true] (by kernel_rfl) (by kernel_rfl) ⟨c2, c3⟩ ?_
  repeat (first | refine kf_nil ?_ | refine kf_ung rfl rfl ?_ | refine kf_skipg rfl rfl rfl rfl ?_ | (first | refine kf_move rfl rfl (.inl rfl) rfl rfl ?_ | refine kf_move rfl rfl (.inr rfl) rfl rfl ?_ | refine kf_const rfl rfl (.inl rfl) rfl ?_ | refine kf_const rfl rfl (.inr rfl) rfl ?_) | (refine kf_val rfl rfl rfl ?_; apply Exists.intro; refine And.intro (fun W hW N hN => ?_) ?_; · (go_simp; (try go_bits); exact hN)))
  refine kq_thenC ?_
  refine kc_less [0, 1, 2, 4, 5] ?_
  simp only [nrm, lk, Nat.reduceBEq, cond_true, cond_false]
  refine kc_seq ?_
  refine kc_regionY 10 (by rintro ⟨_, _, ⟨⟨v, hv⟩, _⟩⟩; cases hv) ?_
  simp only [List.take_succ_cons, List.take_zero]
  repeat (first | refine kl_nil ?_ | (first | refine kl_move rfl rfl (.inl rfl) rfl rfl ?_ | refine kl_move rfl rfl (.inr rfl) rfl rfl ?_ | refine kl_const rfl rfl (.inl rfl) rfl ?_ | refine kl_const rfl rfl (.inr rfl) rfl ?_) | ((first | refine kl_step rfl rfl rfl fun K hK => ?_ | refine kl_step0 rfl rfl rfl fun K hK => ?_); go_simp; (try go_bits); (first | refine hK _ _ ?_ | refine hK _ ?_); clear hK K))
  refine kq_yield (l2 := _) rfl (by rintro ⟨_, _, ⟨⟨v, hv⟩, _⟩⟩; cases hv) rfl rfl rfl rfl rfl rfl ?_
  have hJd : J ((List.finRange G).take k) W1.drew := hA2 _ _ _ none hJ (grown_drew W1 1 none) (fun r e => by cases e)
  have hy := hY _ ⟨k, hkG⟩ W1.drew hJd (by rw [finTake_len G k HK.out]; exact hkG)
  dsimp only at hy
  rw [hq.out, HD.out.1, ← finTake] at hy
  clear hY hJ hJd m1 m2 m3 m4 i1 s1 s2 s3 s4 s5 s6 u1 u2 u3 u4 u5 u6 u7 c2 c3
  have HX' : Hid (Boxed W1.drew b2 27 (.slice (some ⟨gx, 0, none⟩) N cx) ∧ Boxed W1.drew b3 3 (.int .i64 16)) := HX
  clear HX
  refine hy.mono ?_
  clear hy
  generalize W1.drew = W2 at HX'
  rintro e' W3 (⟨rfl, hJ3, hK3⟩ | ⟨rfl, hX3⟩)
  · have x3 := boxed_kp hK3 HX'.out.1 HX'.out.2
    have c2 := boxed_cell x3.1
    have c3 := boxed_cell x3.2
    have HX3 := Lib.hid x3
    clear x3
    refine ⟨true, rfl, ?_⟩
    repeat (first | refine kl_nil ?_ | (first | refine kl_move rfl rfl (.inl rfl) rfl rfl ?_ | refine kl_move rfl rfl (.inr rfl) rfl rfl ?_ | refine kl_const rfl rfl (.inl rfl) rfl ?_ | refine kl_const rfl rfl (.inr rfl) rfl ?_) | ((first | refine kl_step rfl rfl rfl fun K hK => ?_ | refine kl_step0 rfl rfl rfl fun K hK => ?_); go_simp; (try go_bits); (first | refine hK _ _ ?_ | refine hK _ ?_); clear hK K))
    refine kq_thenC ?_
    refine kc_iff rfl ?_
    refine kc_skip ?_
    refine kq_block ?_
    refine kq_thenC ?_
    refine kc_plain ?_
    obtain ⟨q1, hq1⟩ : ∃ q1, q + 16 = q1 := ⟨_, rfl⟩
    have j1 : (q : Int) + 16 = (q1 : Int) := by omega
    have j2 : (0 : Int) ≤ q1 := by omega
    have j3 : (q1 : Int) ≤ 3000 := by omega
    have HQ := Lib.hid hq1
    clear hq1
    refine kw_region ?_
    repeat (first | refine kl_nil ?_ | (first | refine kl_move rfl rfl (.inl rfl) rfl rfl ?_ | refine kl_move rfl rfl (.inr rfl) rfl rfl ?_ | refine kl_const rfl rfl (.inl rfl) rfl ?_ | refine kl_const rfl rfl (.inr rfl) rfl ?_) | ((first | refine kl_step rfl rfl rfl fun K hK => ?_ | refine kl_step0 rfl rfl rfl fun K hK => ?_); go_simp; (try go_bits); (first | refine hK _ _ ?_ | refine hK _ ?_); clear hK K))
    refine kq_again (G - (k + 1)) [0, 1, 2, 4] (by omega) ?_
    exact ⟨k + 1, q1, hkG, rfl, by show _ = _; have := hq.out; have := HQ.out; omega, hJ3, HX3.out.1, HX3.out.2, rfl⟩
  · refine ⟨false, rfl, ?_⟩
    repeat (first | refine kl_nil ?_ | (first | refine kl_move rfl rfl (.inl rfl) rfl rfl ?_ | refine kl_move rfl rfl (.inr rfl) rfl rfl ?_ | refine kl_const rfl rfl (.inl rfl) rfl ?_ | refine kl_const rfl rfl (.inr rfl) rfl ?_) | ((first | refine kl_step rfl rfl rfl fun K hK => ?_ | refine kl_step0 rfl rfl rfl fun K hK => ?_); go_simp; (try go_bits); (first | refine hK _ _ ?_ | refine hK _ ?_); clear hK K))
    refine kq_thenC ?_
    refine kc_ift rfl ?_
    refine kc_ret ?_
    refine kq_block_ret ?_
    refine kq_then_ret ?_
    refine kq_again_ret ?_
    refine kq_block_ret ?_
    refine kq_ret0 rfl ?_
    exact ⟨⟨_, rfl⟩, .inr ⟨_, ⟨k + 1, hkG, rfl⟩, hX3⟩⟩
end Go.Proofs.Ytcpifcdndhhmgaa
set_option linter.unusedVariables false
set_option linter.unusedSimpArgs false
namespace Go.Proofs.Ytcpifcdndhhmgaa
open Go.RowKit

theorem seal_any (A : Option Addr) (n c : Nat) (l : List UInt8) (w : World) (hA : Bs w A n l) (hn : n ≤ 65535) (hc : n ≤ c) (hc2 : c ≤ 9223372036854775807) :
    Calls Try.prog 59 #[.slice A n c] w fun e w' => ∃ v, e = .returned v ∧ w'.ownsRow w.heap.size 5 1 v (n + 6) (bv (sealed l)) ∧ Below w.heap.size w w' := by
  go_enter Try.func59, Try.ntmps59
  go_wp2_with (go_at_call 90; refine (crcSum_any _ _ _ [l] _ (Ps.lit1 _ rfl hA hc hc2) (by omega)).mono ?_; rintro e w1 ⟨rfl, rfl⟩)
  refine (concat_any _ _ _ [sealHead l, l] _ ?hP (by omega) ?hs).mono ?_
  case hP =>
    refine Ps.lit2 _ (by simp) (Bs.lit _ (by simp) (sealHead l) rfl ?_) (by omega) (by omega) ((hA.alloc _).alloc _) hc hc2
    have hl := hA.len
    have hh := (crc l).isLt
    simp only [bv, sealHead, List.map_cons, List.map_nil, u8n_toNat, hl]
    rw [Nat.mod_eq_of_lt (a := n / 256) (by omega), Nat.mod_eq_of_lt (a := (crc l).toNat / 16777216) (by omega)]
    simp
  case hs => have hl := hA.len; simp [length_sealHead]; omega
  rintro e w2 ⟨v2, rfl, hown, hb⟩
  go_wp2
  go_ret
  refine ⟨_, rfl, ?_, ?_⟩
  · have hl := hA.len
    have e : [sealHead l, l].flatten = sealed l := by simp [sealed]
    rw [e, length_sealed, hl] at hown
    exact ownsRow_base hown (by simp; omega)
  · exact below_then ((((Below.refl _ w).alloc (Nat.le_refl _) _).alloc (by simp) _).alloc (by simp; omega) _) hb (by simp; omega)

end Go.Proofs.Ytcpifcdndhhmgaa
