/- Bytes of a checkpoint: the code's and the document's. The document's flash memory: New, Stop. The document's flash memory: what a change leaves. -/
import Derived.Test.YtcpifcdndhhmgaaRetMem
import Derived.Test.YtcpifcdndhhmgaaCodeText
import Derived.Test.YtcpifcdndhhmgaaKnApp
import Derived.Test.YtcpifcdndhhmgaaKnF
import Derived.Test.YtcpifcdndhhmgaaCrcSum
set_option linter.unusedVariables false
set_option linter.unusedSimpArgs false
namespace Go.Proofs.Ytcpifcdndhhmgaa
open Go.RowKit
attribute [local go_sem] ev_tmp ev_const ev_func ev_global lk_hit lk_miss uponK_value uponK_skip look_tmp look_const look_global look_func valP_value
theorem own_mono {w : World} {base base' : Nat} {e : TypeId} {size : Nat} {v : Value} {n : Nat} {xs : List Value} (h : w.ownsRow base e size v n xs) (hb : base' ≤ base) : w.ownsRow base' e size v n xs := by
  refine ⟨h.1, ?_⟩
  rcases h.2 with h2 | ⟨g, cap, cur, hv, hg, r⟩
  · exact .inl h2
  · exact .inr ⟨g, cap, cur, hv, Nat.le_trans hb hg, r⟩
section
variable {w0 w : World}
theorem codeInt_O (hb : Below w0.heap.size w0 w) (n : Nat) (l : List UInt8) (A : Option Addr) (c : Nat) (x : Int) (hA : Bs w A n l) (hn : n ≤ 1099511627) (hx : I64 x) :
    Calls Try.prog 41 #[.slice A n c, .int .i64 x] w fun e w' => ∃ v, e = .returned v ∧ w'.ownsRow w0.heap.size 5 1 v (n + 8) (bv (l ++ le8 x)) ∧ Below w0.heap.size w0 w' ∧ Below w.heap.size w w' :=
  Calls.mono (codeInt_any A n c l x w hA (by omega) hx) fun e w' ⟨v, he, hown, hb'⟩ => ⟨v, he, own_mono hown hb.size, below_then hb hb' hb.size, hb'⟩
theorem codeByte_O (hb : Below w0.heap.size w0 w) (n : Nat) (l : List UInt8) (A : Option Addr) (c : Nat) (x : Int) (hA : Bs w A n l) (hn : n ≤ 1099511627) (hc : n ≤ c) (hc2 : c ≤ 9223372036854775807) :
    Calls Try.prog 40 #[.slice A n c, .int .i64 x] w fun e w' => ∃ v, e = .returned v ∧ w'.ownsRow w0.heap.size 5 1 v (n + 1) (bv (l ++ [i64byte x 0])) ∧ Below w0.heap.size w0 w' ∧ Below w.heap.size w w' :=
  Calls.mono (codeByte_any A n c l x w hA (by omega) hc hc2) fun e w' ⟨v, he, hown, hb'⟩ => ⟨v, he, own_mono hown hb.size, below_then hb hb' hb.size, hb'⟩
theorem codeText_O (hb : Below w0.heap.size w0 w) (n : Nat) (l : List UInt8) (A : Option Addr) (c : Nat) (s : List UInt8) (hA : Bs w A n l) (hn : n ≤ 1099511627) (hc : n ≤ c) (hc2 : c ≤ 9223372036854775807) (hs : s.length ≤ 65535) :
    Calls Try.prog 42 #[.slice A n c, .string ⟨s.toArray⟩] w fun e w' => ∃ v, e = .returned v ∧ w'.ownsRow w0.heap.size 5 1 v (n + (s.length + 2)) (bv (l ++ textBytes s)) ∧ Below w0.heap.size w0 w' ∧ Below w.heap.size w w' :=
  Calls.mono (codeText_any A n c l s w hA hn hc hc2 (by omega)) fun e w' ⟨v, he, hown, hb'⟩ => ⟨v, he, by
    have : (textBytes s).length = s.length + 2 := by rw [length_textBytes, length_txt]; omega
    rw [this] at hown; exact own_mono hown hb.size, below_then hb hb' hb.size, hb'⟩
end
def preK (seq : Int) (l : List KepS) (i : Nat) : List UInt8 := (le8 seq ++ [i64byte (l.length : Int) 0]) ++ kepsB (l.take i)
theorem preK_next (seq : Int) (l : List KepS) (i : Nat) (p : KepS) (h : l.take (i + 1) = l.take i ++ [p]) : ((preK seq l i ++ textBytes p.path) ++ [i64byte p.kind 0]) ++ le8 p.value = preK seq l (i + 1) := by
  unfold preK
  rw [h, kepsB_snoc]
  simp [kepB, List.append_assoc]
theorem preK_len (seq : Int) (l : List KepS) (i : Nat) (hi : i ≤ 1000) (h : ∀ k ∈ l, k.path.length ≤ 65535) : (preK seq l i).length ≤ 65546009 := by
  have h1 := length_kepsB (l.take i) 65535 (fun k hk => h k (List.mem_of_mem_take hk)) (by omega)
  have h2 : (l.take i).length ≤ i := List.length_take_le _ _
  unfold preK
  rw [List.length_append, List.length_append, length_le8, List.length_singleton]
  have : (l.take i).length * (65535 + 11) ≤ 1000 * 65546 := Nat.mul_le_mul (by omega) (by omega)
  omega
theorem preK_all (seq : Int) (l : List KepS) (i : Nat) (hi : l.length ≤ i) : preK seq l i = bytesK seq l := by unfold preK bytesK; rw [List.take_of_length_le hi]
structure KepV (l : List KepS) : Prop where
  path : ∀ k ∈ l, k.path.length ≤ 65535
  kind : ∀ k ∈ l, I64 k.kind
  val : ∀ k ∈ l, I64 k.value
def BytesKP (seq : Int) (l : List KepS) (w : World) (e : Ending) (w' : World) : Prop := ∃ v n, e = .returned v ∧ w'.ownsRow w.heap.size 5 1 v n (bv (bytesK seq l)) ∧ Below w.heap.size w w'
theorem own_len {w : World} {base n : Nat} {e : TypeId} {v : Value} {l : List UInt8} (h : w.ownsRow base e 1 v n (bv l)) : l.length = n := by have := h.1; rw [length_bv] at this; omega
set_option maxRecDepth 100000 in
set_option maxHeartbeats 4000000 in
theorem bytesK_any (seq : Int) (A : Option Addr) (N c : Nat) (l : List KepS) (w : World) (hA : KeS w A N l) (hN : N ≤ 1000) (hV : KepV l) (hs : I64 seq) : Calls Try.prog 14 #[.int .i64 seq, .slice A N c] w (BytesKP seq l w) := by
  have HLN := Lib.hid hA.len
  refine calls_kw Try.func14 rfl Try.ntmps14 rfl [(0, .int .i64 seq), (1, .slice A N c)] rfl ?_
  repeat (first | refine kw_seq ?_ | refine kw_region ?_ | refine kl_nil ?_ | refine kq_then ?_ | (first | refine kl_move rfl rfl (.inl rfl) rfl rfl ?_ | refine kl_move rfl rfl (.inr rfl) rfl rfl ?_ | refine kl_const rfl rfl (.inl rfl) rfl ?_ | refine kl_const rfl rfl (.inr rfl) rfl ?_))
  refine kl_call rfl rfl rfl Try.func41 rfl (by kernel_rfl) rfl ?_
  refine Calls.mono (codeInt_O (Below.refl w.heap.size w) 0 [] none 0 seq (Bs.nil _ _) (by omega) hs) ?_
  rintro e w1 ⟨v1, rfl, ho1, hb1, _⟩
  refine ⟨_, rfl, ?_⟩
  obtain ⟨A1, c1, rfl, hB1, hn1, hc1⟩ := own_B ho1
  clear ho1
  repeat (first | (first | refine kl_move rfl rfl (.inl rfl) rfl rfl ?_ | refine kl_move rfl rfl (.inr rfl) rfl rfl ?_ | refine kl_const rfl rfl (.inl rfl) rfl ?_ | refine kl_const rfl rfl (.inr rfl) rfl ?_) | ((first | refine kl_step rfl rfl rfl fun K hK => ?_ | refine kl_step0 rfl rfl rfl fun K hK => ?_); go_simp; (try go_bits); (first | refine hK _ _ ?_ | refine hK _ ?_); clear hK K))
  refine kl_call rfl rfl rfl Try.func40 rfl (by kernel_rfl) rfl ?_
  refine Calls.mono (codeByte_O hb1 (0 + 8) ([] ++ le8 seq) A1 c1 (N : Int) hB1 (by omega) hn1 hc1) ?_
  rintro e w2 ⟨v2, rfl, ho2, hb2, _⟩
  refine ⟨_, rfl, ?_⟩
  have ho2 : w2.ownsRow w.heap.size 5 1 v2 9 (bv (preK seq l 0)) := by
    have e : preK seq l 0 = ([] ++ le8 seq) ++ [i64byte (N : Int) 0] := by unfold preK; rw [HLN.out]; simp [kepsB]
    rw [e]; exact ho2
  have HO2 := Lib.hid ho2
  have HB2 := Lib.hid hb2
  clear ho2 hb2 hb1 hB1 hn1 hc1
  repeat (first | refine kw_seq ?_ | refine kw_region ?_ | refine kl_nil ?_ | refine kq_then ?_ | (first | refine kl_move rfl rfl (.inl rfl) rfl rfl ?_ | refine kl_move rfl rfl (.inr rfl) rfl rfl ?_ | refine kl_const rfl rfl (.inl rfl) rfl ?_ | refine kl_const rfl rfl (.inr rfl) rfl ?_) | ((first | refine kl_step rfl rfl rfl fun K hK => ?_ | refine kl_step0 rfl rfl rfl fun K hK => ?_); go_simp; (try go_bits); (first | refine hK _ _ ?_ | refine hK _ ?_); clear hK K))
  refine KW.less [5, 13, 14, 15] ?_
  simp only [nrm, lk, Nat.reduceBEq, cond_true, cond_false]
  refine kw_block ?_
  refine kw_loop (fun mm L W => ∃ i v n, i ≤ N ∧ mm = N - i ∧ Hid (W.ownsRow w.heap.size 5 1 v n (bv (preK seq l i))) ∧ Hid (Below w.heap.size w W) ∧ L = [(5, v), (13, .slice A N c), (14, .int .i64 (N : Int)), (15, .int .i64 (i : Int))]) ⟨0, v2, 9, by omega, rfl, HO2, HB2, rfl⟩ ?_
  clear HO2 HB2
  rintro mm L W ⟨i, v, n, hi, rfl, hO, hb, rfl⟩
  by_cases hlt : i < N
  case neg =>
    obtain rfl : i = N := by omega
    have t1 : decide ((i : Int) < (i : Int)) = false := by simp
    have t1n : decide (i < i) = false := by simp
    have HE := Lib.hid (preK_all seq l i (by rw [HLN.out]; exact Nat.le_refl _))
    clear hlt hi
    repeat (first | refine kw_seq ?_ | refine kw_block ?_ | refine kw_skip ?_ | refine kw_region ?_ | refine kl_nil ?_ | refine kq_then ?_ | refine kq_block ?_ | refine kw_exit ?_ | refine kq_then_exit ?_ | refine kq_block_here rfl ?_ | refine kq_block_far rfl ?_ | refine kq_again_exit ?_ | refine kw_ret ?_ | refine kq_then_ret ?_ | refine kq_block_ret ?_ | refine kq_again_ret ?_ | refine kw_ift rfl ?_ | refine kw_iff rfl ?_ | refine kl_ung rfl rfl ?_ | refine kl_skipg rfl rfl rfl rfl ?_ | refine kl_skipg0 rfl rfl rfl ?_ | (first | refine kl_move rfl rfl (.inl rfl) rfl rfl ?_ | refine kl_move rfl rfl (.inr rfl) rfl rfl ?_ | refine kl_const rfl rfl (.inl rfl) rfl ?_ | refine kl_const rfl rfl (.inr rfl) rfl ?_) | ((first | refine kl_step rfl rfl rfl fun K hK => ?_ | refine kl_step0 rfl rfl rfl fun K hK => ?_); go_simp; (try go_bits); (first | refine hK _ _ ?_ | refine hK _ ?_); clear hK K))
    refine kq_ret1 rfl rfl ⟨v, n, rfl, ?_, hb.out⟩
    rw [← HE.out]; exact hO.out
  have t1 : decide ((i : Int) < (N : Int)) = true := by rw [decide_eq_true_eq]; omega
  have t1n : decide (i < N) = true := decide_eq_true hlt
  have u0 : (0 : Int) ≤ i := by omega
  have u1 : (i : Int) < N := by omega
  obtain ⟨i1, hi1⟩ : ∃ i1, i + 1 = i1 := ⟨_, rfl⟩
  have i3 : (i : Int) + 1 = (i1 : Int) := by omega
  have i4 : (0 : Int) ≤ i1 := by omega
  have i5 : (i1 : Int) ≤ 1000 := by omega
  obtain ⟨gA, oA, p, rfl, hra, hx, hgx⟩ := hA.next hlt
  have hmem := List.mem_of_getElem? hgx.out
  have HP := Lib.hid (And.intro (hV.path p hmem) (And.intro (hV.kind p hmem) (hV.val p hmem)))
  have hlen := preK_len seq l i (by omega) hV.path
  have hn := own_len hO.out
  have hnb : n ≤ 65546009 := by omega
  have HNX := Lib.hid (preK_next seq l i p hx.out)
  rw [hi1] at HNX
  have HI := Lib.hid (And.intro hi1 hlt)
  clear hmem hlen hn hi1
  have HRA := Lib.hid (rangeAt_below hra hb.out)
  obtain ⟨oi, hoi⟩ : ∃ oi, oA + i * 3 = oi := ⟨_, rfl⟩
  rw [hoi] at HRA
  clear hra hx hgx hlt hi
  repeat (first | refine kw_seq ?_ | refine kw_region ?_ | refine kl_nil ?_ | refine kq_then ?_ | refine kw_ift rfl ?_ | refine kw_skip ?_ | (first | refine kl_move rfl rfl (.inl rfl) rfl rfl ?_ | refine kl_move rfl rfl (.inr rfl) rfl rfl ?_ | refine kl_const rfl rfl (.inl rfl) rfl ?_ | refine kl_const rfl rfl (.inr rfl) rfl ?_) | ((first | refine kl_step rfl rfl rfl fun K hK => ?_ | refine kl_step0 rfl rfl rfl fun K hK => ?_); go_simp; (try go_bits); (first | refine hK _ _ ?_ | refine hK _ ?_); clear hK K))
  refine kw_block ?_
  repeat (first | refine kw_seq ?_ | refine kw_region ?_ | refine kl_load_mid 29 gA oi _ _ HRA.out Try.underlying29 rfl (kepInfoL p) rfl rfl rfl rfl rfl ?_ | (first | refine kl_move rfl rfl (.inl rfl) rfl rfl ?_ | refine kl_move rfl rfl (.inr rfl) rfl rfl ?_ | refine kl_const rfl rfl (.inl rfl) rfl ?_ | refine kl_const rfl rfl (.inr rfl) rfl ?_) | ((first | refine kl_step rfl rfl rfl fun K hK => ?_ | refine kl_step0 rfl rfl rfl fun K hK => ?_); go_simp; (try go_bits); (first | refine hK _ _ ?_ | refine hK _ ?_); clear hK K))
  refine kl_varL (z := (kepC kepZ).toArray) (cells := (kepC p).toArray) (Lay.start W) kepZero (kepInfo p) rfl (kepC_one p) rfl rfl rfl rfl rfl rfl rfl rfl rfl ?_
  intro g7 w3 hg7 hb3 hL3
  clear hg7 HRA t1 t1n u0 u1 hoi
  refine kl_nil ?_
  refine kq_then ?_
  have HO3 := Lib.hid (own_below hO.out (below_then hb3 ((Below.refl _ _).drew) hb3.size))
  have HB3 := Lib.hid (below_then (below_then hb.out hb3 hb.out.size) ((Below.refl _ _).drew) (Nat.le_trans hb.out.size hb3.size))
  have hR := (Hold.cons (hL3.at_ 0 rfl) (Hold.nil _)).below (Below.refl _ _).drew
  have c1 : ∀ W, Hold [(g7, .cells (kepC p).toArray 29 (0, 0))] W → W.cell? ⟨g7, 0, none⟩ = some (.string ⟨p.path.toArray⟩) := Hold.cell (cs := kepC p) 0 rfl rfl
  have c2 : ∀ W, Hold [(g7, .cells (kepC p).toArray 29 (0, 0))] W → W.cell? ⟨g7, 1, none⟩ = some (.int .i64 p.kind) := Hold.cell (cs := kepC p) 0 rfl rfl
  have c3 : ∀ W, Hold [(g7, .cells (kepC p).toArray 29 (0, 0))] W → W.cell? ⟨g7, 2, none⟩ = some (.int .i64 p.value) := Hold.cell (cs := kepC p) 0 rfl rfl
  clear hO hb hb3 hL3
  obtain ⟨A1, c1', rfl, hB1, hn1, hc1⟩ := own_B HO3.out
  clear HO3
  refine kw_region_f (Hold [(g7, .cells (kepC p).toArray 29 (0, 0))]) [true, true, true, false, true, true, false, true, true, false, true] (by kernel_rfl) (by kernel_rfl) hR ?_
  generalize w3.drew = w4 at *
  repeat (first | refine kf_nil ?_ | refine kf_ung rfl rfl ?_ | refine kf_skipg rfl rfl rfl rfl ?_ | (first | refine kf_move rfl rfl (.inl rfl) rfl rfl ?_ | refine kf_move rfl rfl (.inr rfl) rfl rfl ?_ | refine kf_const rfl rfl (.inl rfl) rfl ?_ | refine kf_const rfl rfl (.inr rfl) rfl ?_) | (refine kf_val rfl rfl rfl ?_; apply Exists.intro; refine And.intro (fun W hW N hN => ?_) ?_; · (go_simp; (try go_bits); exact hN)))
  refine kf_ch ?_
  refine kl_call rfl rfl rfl Try.func42 rfl (by kernel_rfl) rfl ?_
  refine Calls.mono (codeText_O HB3.out n (preK seq l i) A1 c1' p.path hB1 (by omega) hn1 hc1 HP.out.1) ?_
  rintro e w5 ⟨v5, rfl, ho5, hb5, hbb5⟩
  obtain ⟨A5, c5, rfl, hB5, hn5, hc5⟩ := own_B ho5
  have HB5 := Lib.hid hb5
  have hR5 := hR.below hbb5
  have hp5 : n + (p.path.length + 2) ≤ 65611546 := by have := HP.out.1; omega
  clear ho5 hb5 hbb5 hB1 hR HB3
  refine ⟨_, rfl, ?_⟩
  refine kl_nil ?_
  refine kq_f hR5 ?_
  repeat (first | refine kf_nil ?_ | refine kf_ung rfl rfl ?_ | refine kf_skipg rfl rfl rfl rfl ?_ | (first | refine kf_move rfl rfl (.inl rfl) rfl rfl ?_ | refine kf_move rfl rfl (.inr rfl) rfl rfl ?_ | refine kf_const rfl rfl (.inl rfl) rfl ?_ | refine kf_const rfl rfl (.inr rfl) rfl ?_) | (refine kf_val rfl rfl rfl ?_; apply Exists.intro; refine And.intro (fun W hW N hN => ?_) ?_; · (go_simp; (try go_bits); exact hN)))
  refine kf_ch ?_
  refine kl_call rfl rfl rfl Try.func40 rfl (by kernel_rfl) rfl ?_
  refine Calls.mono (codeByte_O HB5.out (n + (p.path.length + 2)) _ A5 c5 p.kind hB5 (by omega) hn5 hc5) ?_
  rintro e w6 ⟨v6, rfl, ho6, hb6, hbb6⟩
  obtain ⟨A6, c6, rfl, hB6, hn6, hc6⟩ := own_B ho6
  have HB6 := Lib.hid hb6
  have hR6 := hR5.below hbb6
  clear ho6 hb6 hbb6 hB5 hR5 HB5
  refine ⟨_, rfl, ?_⟩
  refine kl_nil ?_
  refine kq_f hR6 ?_
  repeat (first | refine kf_nil ?_ | refine kf_ung rfl rfl ?_ | refine kf_skipg rfl rfl rfl rfl ?_ | (first | refine kf_move rfl rfl (.inl rfl) rfl rfl ?_ | refine kf_move rfl rfl (.inr rfl) rfl rfl ?_ | refine kf_const rfl rfl (.inl rfl) rfl ?_ | refine kf_const rfl rfl (.inr rfl) rfl ?_) | (refine kf_val rfl rfl rfl ?_; apply Exists.intro; refine And.intro (fun W hW N hN => ?_) ?_; · (go_simp; (try go_bits); exact hN)))
  refine kf_ch ?_
  refine kl_call rfl rfl rfl Try.func41 rfl (by kernel_rfl) rfl ?_
  refine Calls.mono (codeInt_O HB6.out (n + (p.path.length + 2) + 1) _ A6 c6 p.value hB6 (by omega) HP.out.2.2) ?_
  rintro e w7 ⟨v7, rfl, ho7, hb7, hbb7⟩
  rw [HNX.out] at ho7
  have HO7 := Lib.hid ho7
  have HB7 := Lib.hid hb7
  have hR7 := hR6.below hbb7
  clear ho7 hb7 hbb7 hB6 hR6 HB6
  refine ⟨_, rfl, ?_⟩
  refine kl_nil ?_
  refine kq_f hR7 ?_
  repeat (first | refine kf_nil ?_ | refine kf_ung rfl rfl ?_ | refine kf_skipg rfl rfl rfl rfl ?_ | (first | refine kf_move rfl rfl (.inl rfl) rfl rfl ?_ | refine kf_move rfl rfl (.inr rfl) rfl rfl ?_ | refine kf_const rfl rfl (.inl rfl) rfl ?_ | refine kf_const rfl rfl (.inr rfl) rfl ?_) | (refine kf_val rfl rfl rfl ?_; apply Exists.intro; refine And.intro (fun W hW N hN => ?_) ?_; · (go_simp; (try go_bits); exact hN)))
  clear c1 c2 c3
  repeat (first | refine kw_seq ?_ | refine kw_region ?_ | refine kl_nil ?_ | refine kq_then ?_ | refine kq_block ?_ | (first | refine kl_move rfl rfl (.inl rfl) rfl rfl ?_ | refine kl_move rfl rfl (.inr rfl) rfl rfl ?_ | refine kl_const rfl rfl (.inl rfl) rfl ?_ | refine kl_const rfl rfl (.inr rfl) rfl ?_) | ((first | refine kl_step rfl rfl rfl fun K hK => ?_ | refine kl_step0 rfl rfl rfl fun K hK => ?_); go_simp; (try go_bits); (first | refine hK _ _ ?_ | refine hK _ ?_); clear hK K))
  refine kq_again (N - i1) [5, 13, 14, 15] (by have := HI.out; omega) ?_
  exact ⟨i1, v7, _, by have := HI.out; omega, rfl, HO7, HB7, rfl⟩
end Go.Proofs.Ytcpifcdndhhmgaa
set_option linter.unusedVariables false
set_option linter.unusedSimpArgs false
namespace Go.Proofs.Ytcpifcdndhhmgaa
open Go.RowKit

/-- the first k bytes blank, the others not yet -/
def blankB (k : Nat) : List UInt8 := List.replicate k 255 ++ List.replicate (6144 - k) 0
end Go.Proofs.Ytcpifcdndhhmgaa
set_option linter.unusedVariables false
set_option linter.unusedSimpArgs false
namespace Go.Proofs.Ytcpifcdndhhmgaa
open Go.RowKit

end Go.Proofs.Ytcpifcdndhhmgaa
