/- The document's Parse of a checkpoint. The sparse walk's laws for a variable of one cell: boxed, laid; and for a function value made. No program in sight. Digits, fields, sizes, beginnings. -/
import Derived.Test.YtcpifcdndhhmgaaRetRd
import Derived.Test.YtcpifcdndhhmgaaRetSmall
import Derived.Test.YtcpifcdndhhmgaaKn
import Derived.RangeFuncBox
import Derived.Test.YtcpifcdndhhmgaaTakMem
import Derived.Test.YtcpifcdndhhmgaaKnApp
import Derived.Test.YtcpifcdndhhmgaaLay
import Derived.Test.YtcpifcdndhhmgaaFill
set_option linter.unusedVariables false
set_option linter.unusedSimpArgs false
namespace Go.Proofs.Ytcpifcdndhhmgaa
open Go.RowKit
attribute [local go_sem] ev_tmp ev_const ev_func ev_global lk_hit lk_miss uponK_value uponK_skip look_tmp look_const look_global look_func valP_value
structure PRInv (b : List UInt8) (seq : Int) (n : Nat) (l : List UInt8) (e : Int) (i : Nat) (ks : List KepS) (rl : List UInt8) (re : Int) : Prop where
  fin : (i = n ∨ re ≠ 0) → parseK b = finK seq ks (ended rl re)
  go : i < n → re = 0 → n ≤ 24 ∧ kepN i ([], l, e) = (ks, rl, re)
  len : ks.length = i
  le : i ≤ 24
theorem finK_ended (seq : Int) (ks : List KepS) (rl : List UInt8) (re : Int) (h : re ≠ 0) : finK seq ks (ended rl re) = (0, [], re) := by rw [ended_bad _ _ h, finK_err _ _ _ h]
theorem PRInv.step {b : List UInt8} {seq : Int} {n : Nat} {l : List UInt8} {e : Int} {i : Nat} {ks : List KepS} {rl : List UInt8} (h : PRInv b seq n l e i ks rl 0) (hi : i < n) (hb : parseK b = bodyK seq n l e) :
    PRInv b seq n l e (i + 1) (stepK (ks, rl, 0)).1 (stepK (ks, rl, 0)).2.1 (stepK (ks, rl, 0)).2.2 := by
  obtain ⟨hn, hk⟩ := h.go hi rfl
  have hk1 : kepN (i + 1) ([], l, e) = stepK (ks, rl, 0) := by rw [kepN, hk]
  refine ⟨fun hh => ?_, fun _ _ => ⟨hn, hk1⟩, by have := h.len; simp [stepK, this], by omega⟩
  by_cases he : (stepK (ks, rl, 0)).2.2 ≠ 0
  · rw [finK_ended _ _ _ _ he, hb, bodyK_stick seq n (i + 1) l e hn (by omega) (by rw [hk1]; exact he), hk1]
  · rcases hh with hh | hh
    · rw [hb, bodyK_few _ _ _ _ (by omega), ← hh, hk1]
    · exact absurd hh he
theorem PRInv.hb {b : List UInt8} {seq : Int} {n : Nat} {l : List UInt8} {e : Int} {i : Nat} {ks : List KepS} {rl : List UInt8} (h : PRInv b seq n l e i ks rl 0) (hi : i < n) : n ≤ 24 := (h.go hi rfl).1
theorem value7R_any (k : Int) (w : World) : Calls Try.prog 73 #[.int .i64 k] w fun e w' => e = .returned (.bool (decide (1 ≤ k) && decide (k ≤ 6))) ∧ w = w' := by
  refine calls_kw Try.func73 rfl Try.ntmps73 rfl [(0, .int .i64 k)] rfl ?_
  by_cases d1 : 1 ≤ k
  case neg =>
    have t1 : decide (1 ≤ k) = false := decide_eq_false d1
    rw [t1]
    clear d1
    repeat (first | refine kw_seq ?_ | refine kw_block ?_ | refine kw_skip ?_ | refine kw_region ?_ | refine kl_nil ?_ | refine kq_then ?_ | refine kq_block ?_ | refine kw_exit ?_ | refine kq_then_exit ?_ | refine kq_block_here rfl ?_ | refine kq_block_far rfl ?_ | refine kq_again_exit ?_ | refine kw_ret ?_ | refine kq_then_ret ?_ | refine kq_block_ret ?_ | refine kq_again_ret ?_ | refine kw_ift rfl ?_ | refine kw_iff rfl ?_ | refine kl_ung rfl rfl ?_ | refine kl_skipg rfl rfl rfl rfl ?_ | refine kl_skipg0 rfl rfl rfl ?_ | (first | refine kl_move rfl rfl (.inl rfl) rfl rfl ?_ | refine kl_move rfl rfl (.inr rfl) rfl rfl ?_ | refine kl_const rfl rfl (.inl rfl) rfl ?_ | refine kl_const rfl rfl (.inr rfl) rfl ?_) | ((first | refine kl_step rfl rfl rfl fun K hK => ?_ | refine kl_step0 rfl rfl rfl fun K hK => ?_); go_simp; (try go_bits); (first | refine hK _ _ ?_ | refine hK _ ?_); clear hK K))
    exact kq_ret1 rfl rfl ⟨rfl, rfl⟩
  have t1 : decide (1 ≤ k) = true := decide_eq_true d1
  by_cases d2 : k ≤ 6
  case neg =>
    have t2 : decide (k ≤ 6) = false := decide_eq_false d2
    rw [t1, t2]
    clear d1 d2
    repeat (first | refine kw_seq ?_ | refine kw_block ?_ | refine kw_skip ?_ | refine kw_region ?_ | refine kl_nil ?_ | refine kq_then ?_ | refine kq_block ?_ | refine kw_exit ?_ | refine kq_then_exit ?_ | refine kq_block_here rfl ?_ | refine kq_block_far rfl ?_ | refine kq_again_exit ?_ | refine kw_ret ?_ | refine kq_then_ret ?_ | refine kq_block_ret ?_ | refine kq_again_ret ?_ | refine kw_ift rfl ?_ | refine kw_iff rfl ?_ | refine kl_ung rfl rfl ?_ | refine kl_skipg rfl rfl rfl rfl ?_ | refine kl_skipg0 rfl rfl rfl ?_ | (first | refine kl_move rfl rfl (.inl rfl) rfl rfl ?_ | refine kl_move rfl rfl (.inr rfl) rfl rfl ?_ | refine kl_const rfl rfl (.inl rfl) rfl ?_ | refine kl_const rfl rfl (.inr rfl) rfl ?_) | ((first | refine kl_step rfl rfl rfl fun K hK => ?_ | refine kl_step0 rfl rfl rfl fun K hK => ?_); go_simp; (try go_bits); (first | refine hK _ _ ?_ | refine hK _ ?_); clear hK K))
    exact kq_ret1 rfl rfl ⟨rfl, rfl⟩
  have t2 : decide (k ≤ 6) = true := decide_eq_true d2
  rw [t1, t2]
  clear d1 d2
  repeat (first | refine kw_seq ?_ | refine kw_block ?_ | refine kw_skip ?_ | refine kw_region ?_ | refine kl_nil ?_ | refine kq_then ?_ | refine kq_block ?_ | refine kw_exit ?_ | refine kq_then_exit ?_ | refine kq_block_here rfl ?_ | refine kq_block_far rfl ?_ | refine kq_again_exit ?_ | refine kw_ret ?_ | refine kq_then_ret ?_ | refine kq_block_ret ?_ | refine kq_again_ret ?_ | refine kw_ift rfl ?_ | refine kw_iff rfl ?_ | refine kl_ung rfl rfl ?_ | refine kl_skipg rfl rfl rfl rfl ?_ | refine kl_skipg0 rfl rfl rfl ?_ | (first | refine kl_move rfl rfl (.inl rfl) rfl rfl ?_ | refine kl_move rfl rfl (.inr rfl) rfl rfl ?_ | refine kl_const rfl rfl (.inl rfl) rfl ?_ | refine kl_const rfl rfl (.inr rfl) rfl ?_) | ((first | refine kl_step rfl rfl rfl fun K hK => ?_ | refine kl_step0 rfl rfl rfl fun K hK => ?_); go_simp; (try go_bits); (first | refine hK _ _ ?_ | refine hK _ ?_); clear hK K))
  exact kq_ret1 rfl rfl ⟨rfl, rfl⟩
end Go.Proofs.Ytcpifcdndhhmgaa
set_option linter.unusedVariables false
set_option linter.unusedSimpArgs false
namespace Go.Proofs.Ytcpifcdndhhmgaa
open Go.RowKit
section
variable {P : Program} {Q : Exit → Act → World → Prop} {n : Nat} {L : Slots} {w : World} {ops : Array Oper} {rest : List Oper} {o : Oper}
theorem kl_box1 {d y : Nat} {t : TypeId} {v : Value} (hd : o.dst = some d) (hg : o.guard = none) (ho : o.op = .box t (.tmp y)) (hy : lk L y = some v) (hv : v.cells = #[v]) (hn : Nat.blt d n = true)
    (h : ∀ g w', Hid (g = w.heap.size) → Hid (w'.heap.size = w.heap.size + 1) → Below w.heap.size w w' → Boxed w' g t v → KL P ops Q rest n ((d, .pointer (some ⟨g, 0, none⟩)) :: L) w') : KL P ops Q (o :: rest) n L w :=
  kl_step hd hg (by simp [ho, okop, okx, hy, hn]) fun K hK => by
    have he : ev L (.tmp y) = v := by simp [ev, hy]
    have hr : (execOp (ev L) o).run P w = .ok (.value (.pointer (some ⟨w.heap.size, 0, none⟩))) (w.alloc (.cells #[v] t)) := by
      simp [execOp, ho, he, Instr.box, Sem.run_bind, Sem.run_pure, newVar, newRow, hv]
    rw [hr]
    exact hK _ _ (h _ _ (by show _ = _; rfl) (by show _ = _; simp) ((Below.refl _ _).alloc (Nat.le_refl _) _) (Boxed.new w t v))
theorem kl_alloc1 {d : Nat} {t : TypeId} {v : Value} (hd : o.dst = some d) (hg : o.guard = none) (ho : o.op = .alloc t) (hz : (P.info? t).bind (·.zero) = some v) (hv : v.cells = #[v]) (hn : Nat.blt d n = true)
    (h : ∀ g w', Hid (g = w.heap.size) → Hid (w'.heap.size = w.heap.size + 1) → Below w.heap.size w w' → Boxed w' g t v → KL P ops Q rest n ((d, .pointer (some ⟨g, 0, none⟩)) :: L) w') : KL P ops Q (o :: rest) n L w := ⟨fun a k => by
  refine wpList_plain hg fun K hK => ?_
  obtain ⟨it, hi, hz'⟩ : ∃ it, P.info? t = some it ∧ it.zero = some v := by
    cases hi : P.info? t with
    | none => simp [hi] at hz
    | some it => exact ⟨it, rfl, by simpa [hi] using hz⟩
  have hr : (execOp a.eval o).run P w = .ok (.value (.pointer (some ⟨w.heap.size, 0, none⟩))) (w.alloc (.cells #[v] t)) := by
    have h0 : (zeroValue t).run P w = .ok v w := by
      simp [zeroValue, typeInfo, Sem.run_bind, hi, hz', go_sem]
    simp [execOp, ho, Instr.alloc, Sem.run_bind, Sem.run_pure, newVar, newRow, hv, h0]
  unfold Oper.wp
  rw [hr]
  exact hK _ _ (kl_back k hd hn (h _ _ (by show _ = _; rfl) (by show _ = _; simp) ((Below.refl _ _).alloc (Nat.le_refl _) _) (Boxed.new w t v)))⟩
theorem kl_makeFunc {d : Nat} {f : Fn} {xs : Array Operand} (hd : o.dst = some d) (hg : o.guard = none) (ho : o.op = .makeFunc f #[] xs) (hk : (xs.toList.all (okx L) && Nat.blt d n) = true) (hr : (execOp (ev L) o).run P w = .ok (.value (.func f #[] (xs.map (ev L)))) w)
    (h : KL P ops Q rest n ((d, .func f #[] (xs.map (ev L))) :: L) w) : KL P ops Q (o :: rest) n L w :=
  kl_run hd hg (by simp only [Bool.and_eq_true] at hk; simp [ho, okop, hk]) hr h
end
end Go.Proofs.Ytcpifcdndhhmgaa
set_option linter.unusedVariables false
set_option linter.unusedSimpArgs false
namespace Go.Proofs.Ytcpifcdndhhmgaa
open Go.RowKit
attribute [local go_sem] ev_tmp ev_const ev_func ev_global lk_hit lk_miss uponK_value uponK_skip look_tmp look_const look_global look_func valP_value
theorem intInfo3 : (Try.prog.info? 3).map (fun i => (i.zero, i.size, i.bytes)) = some (some (.int .i64 0), 1, 8) := by kernel_rfl
theorem u8_48 (q j : Nat) (h : 48 + j = q) (hj : j < 10) : UInt8.ofNat (48 + j) = u8n q := by subst h; rfl
def digS (n : Nat) : List UInt8 := [UInt8.ofNat (48 + n)]
theorem vs_new (W : World) (cs : Array Value) (t : TypeId) (n : Nat) (hn : cs.size = n) : Vs (W.alloc (.cells cs t)) (some ⟨W.heap.size, 0, none⟩) n cs.toList := Vs.lit (fr := (0, 0)) (Go.MapKept.heap_alloc W _).1 hn
set_option maxRecDepth 100000 in
set_option maxHeartbeats 1000000 in
theorem digits_any (n : Nat) (hn : n < 10) (w : World) : Calls Try.prog 74 #[.int .i64 (n : Int)] w fun e w' => e = .returned (.string ⟨(digS n).toArray⟩) ∧ Below w.heap.size w w' := by
  refine calls_kw Try.func74 rfl Try.ntmps74 rfl [(0, .int .i64 (n : Int))] rfl ?_
  have t1 : decide ((10 : Int) ≤ (n : Int)) = false := by rw [decide_eq_false_iff_not]; omega
  have t1n : decide (10 ≤ n) = false := by rw [decide_eq_false_iff_not]; omega
  obtain ⟨q, hq⟩ : ∃ q, 48 + n = q := ⟨_, rfl⟩
  have q1 : (48 : Int) + (n : Int) = (q : Int) := by omega
  have q2 : (0 : Int) ≤ q := by omega
  have q3 : (q : Int) ≤ 57 := by omega
  have Q4 := Lib.hid (u8_48 q n hq hn)
  have q5 : IntKind.u8.wrap (q : Int) = (q : Int) := by show (q : Int) % 256 = _; omega
  clear hq hn
  repeat (first | refine kw_seq ?_ | refine kw_block ?_ | refine kw_region ?_ | refine kl_nil ?_ | refine kq_then ?_ | refine kq_block ?_ | refine kw_ift rfl ?_ | refine kw_iff rfl ?_ | refine kw_skip ?_ | refine kl_ung rfl rfl ?_ | refine kl_skipg rfl rfl rfl rfl ?_ | (first | refine kl_move rfl rfl (.inl rfl) rfl rfl ?_ | refine kl_move rfl rfl (.inr rfl) rfl rfl ?_ | refine kl_const rfl rfl (.inl rfl) rfl ?_ | refine kl_const rfl rfl (.inr rfl) rfl ?_) | ((first | refine kl_step rfl rfl rfl fun K hK => ?_ | refine kl_step0 rfl rfl rfl fun K hK => ?_); go_simp; (try go_bits); (first | refine hK _ _ ?_ | refine hK _ ?_); clear hK K))
  have hb3 : Below w.heap.size w (w.alloc (.cells #[.int .u8 (q : Int)] 5)) := (Below.refl _ _).alloc (Nat.le_refl _) _
  have hB3 : Bs (w.alloc (.cells #[.int .u8 (q : Int)] 5)) (some ⟨w.heap.size, 0, none⟩) 1 (digS n) := Bs.lit 5 rfl _ rfl (by unfold digS; rw [Q4.out]; simp [bv, u8n]; omega)
  have HB := Lib.hid hb3
  have k1 := convB (c := 1) hB3
  clear hB3 hb3
  generalize w.alloc (.cells #[.int .u8 (q : Int)] 5) = w3 at HB k1 ⊢
  repeat (first | refine kw_seq ?_ | refine kw_block ?_ | refine kw_skip ?_ | refine kw_region ?_ | refine kl_nil ?_ | refine kq_then ?_ | refine kq_block ?_ | refine kw_exit ?_ | refine kq_then_exit ?_ | refine kq_block_here rfl ?_ | refine kq_block_far rfl ?_ | refine kq_again_exit ?_ | refine kw_ret ?_ | refine kq_then_ret ?_ | refine kq_block_ret ?_ | refine kq_again_ret ?_ | refine kw_ift rfl ?_ | refine kw_iff rfl ?_ | refine kl_ung rfl rfl ?_ | refine kl_skipg rfl rfl rfl rfl ?_ | refine kl_skipg0 rfl rfl rfl ?_ | (first | refine kl_move rfl rfl (.inl rfl) rfl rfl ?_ | refine kl_move rfl rfl (.inr rfl) rfl rfl ?_ | refine kl_const rfl rfl (.inl rfl) rfl ?_ | refine kl_const rfl rfl (.inr rfl) rfl ?_) | ((first | refine kl_step rfl rfl rfl fun K hK => ?_ | refine kl_step0 rfl rfl rfl fun K hK => ?_); go_simp; (try go_bits); (first | refine hK _ _ ?_ | refine hK _ ?_); clear hK K))
  exact kq_ret1 rfl rfl ⟨rfl, HB.out⟩
theorem begin_take (l : List CellV) (k : Nat) (p : CellV) (h : l.take (k + 1) = l.take k ++ [p]) : (l.take (k + 1)).map (fun c => Value.int .i64 c.init) = (l.take k).map (fun c => Value.int .i64 c.init) ++ [.int .i64 p.init] := by rw [h]; simp
set_option maxRecDepth 100000 in
set_option maxHeartbeats 1000000 in
theorem begin8_any (A : Option Addr) (n c : Nat) (l : List CellV) (w : World) (hA : Rw cellE w A n l) (hn : n ≤ 1099511627776) : Calls Try.prog 29 #[.slice A n c] w fun e w' => ∃ v, e = .returned v ∧ w'.ownsRow w.heap.size 3 1 v n (l.map (fun c => Value.int .i64 c.init)) ∧ Below w.heap.size w w' := by
  refine calls_kw Try.func29 rfl Try.ntmps29 rfl [(0, .slice A n c)] rfl ?_
  have HL := Lib.hid hA.len
  repeat (first | refine kw_seq ?_ | refine kw_skip ?_ | refine kw_region ?_ | refine kl_nil ?_ | refine kq_then ?_ | refine kq_block ?_ | refine kw_exit ?_ | refine kq_then_exit ?_ | refine kq_block_here rfl ?_ | refine kq_block_far rfl ?_ | refine kq_again_exit ?_ | refine kw_ret ?_ | refine kq_then_ret ?_ | refine kq_block_ret ?_ | refine kq_again_ret ?_ | refine kw_ift rfl ?_ | refine kw_iff rfl ?_ | refine kl_ung rfl rfl ?_ | refine kl_skipg rfl rfl rfl rfl ?_ | refine kl_skipg0 rfl rfl rfl ?_ | (first | refine kl_move rfl rfl (.inl rfl) rfl rfl ?_ | refine kl_move rfl rfl (.inr rfl) rfl rfl ?_ | refine kl_const rfl rfl (.inl rfl) rfl ?_ | refine kl_const rfl rfl (.inr rfl) rfl ?_) | ((first | refine kl_step rfl rfl rfl fun K hK => ?_ | refine kl_step0 rfl rfl rfl fun K hK => ?_); go_simp; (try go_bits); (first | refine hK _ _ ?_ | refine hK _ ?_); clear hK K))
  refine KW.less [0, 3, 4] ?_
  simp only [nrm, lk, Nat.reduceBEq, cond_true, cond_false]
  refine kw_block ?_
  refine kw_loop (fun mm L W => ∃ k v, k ≤ n ∧ mm = n - k ∧ Hid (Below w.heap.size w W) ∧ Hid (W.ownsRow w.heap.size 3 1 v k ((l.take k).map (fun c => Value.int .i64 c.init))) ∧ L = [(0, .slice A n c), (3, v), (4, .int .i64 (k : Int))]) ⟨0, .slice none 0 0, by omega, rfl, Below.refl _ _, World.ownsRow_nil _ _ _ _, rfl⟩ ?_
  rintro mm L W ⟨k, v, hk, rfl, hb, ho, rfl⟩
  by_cases hlt : k < n
  case neg =>
    obtain rfl : n = k := by omega
    have t1 : decide ((n : Int) < (n : Int)) = false := by simp
    have t1n : decide (n < n) = false := by simp
    rw [List.take_of_length_le (by rw [HL.out]; exact Nat.le_refl _)] at ho
    clear hlt
    repeat (first | refine kw_seq ?_ | refine kw_block ?_ | refine kw_skip ?_ | refine kw_region ?_ | refine kl_nil ?_ | refine kq_then ?_ | refine kq_block ?_ | refine kw_exit ?_ | refine kq_then_exit ?_ | refine kq_block_here rfl ?_ | refine kq_block_far rfl ?_ | refine kq_again_exit ?_ | refine kw_ret ?_ | refine kq_then_ret ?_ | refine kq_block_ret ?_ | refine kq_again_ret ?_ | refine kw_ift rfl ?_ | refine kw_iff rfl ?_ | refine kl_ung rfl rfl ?_ | refine kl_skipg rfl rfl rfl rfl ?_ | refine kl_skipg0 rfl rfl rfl ?_ | (first | refine kl_move rfl rfl (.inl rfl) rfl rfl ?_ | refine kl_move rfl rfl (.inr rfl) rfl rfl ?_ | refine kl_const rfl rfl (.inl rfl) rfl ?_ | refine kl_const rfl rfl (.inr rfl) rfl ?_) | ((first | refine kl_step rfl rfl rfl fun K hK => ?_ | refine kl_step0 rfl rfl rfl fun K hK => ?_); go_simp; (try go_bits); (first | refine hK _ _ ?_ | refine hK _ ?_); clear hK K))
    exact kq_ret1 rfl rfl ⟨_, rfl, ho.out, hb.out⟩
  have t1 : decide ((k : Int) < (n : Int)) = true := by rw [decide_eq_true_eq]; omega
  have t1n : decide (k < n) = true := decide_eq_true hlt
  have u0 : (0 : Int) ≤ k := by omega
  have u1 : (k : Int) < n := by omega
  obtain ⟨g, o, p, rfl, hr, ht, _⟩ := hA.next hlt
  have c3 : W.cell? ⟨g, o + k * 6 + 3, none⟩ = some (.int .i64 p.init) := Keeps.of_below hb.out _ _ (hr 3 _ rfl)
  obtain ⟨nk, hnk⟩ : ∃ nk, k + 1 = nk := ⟨_, rfl⟩
  have k1 : (k : Int) + 1 = (nk : Int) := by omega
  have k2 : (0 : Int) ≤ nk := by omega
  have k3 : (nk : Int) ≤ 1099511627776 := by omega
  have HK := Lib.hid (And.intro hnk hlt)
  clear hr hlt hk hnk
  repeat (first | refine kw_seq ?_ | refine kw_block ?_ | refine kw_region ?_ | refine kl_nil ?_ | refine kq_then ?_ | refine kq_block ?_ | refine kw_ift rfl ?_ | refine kw_iff rfl ?_ | refine kw_skip ?_ | refine kl_ung rfl rfl ?_ | refine kl_skipg rfl rfl rfl rfl ?_ | (first | refine kl_move rfl rfl (.inl rfl) rfl rfl ?_ | refine kl_move rfl rfl (.inr rfl) rfl rfl ?_ | refine kl_const rfl rfl (.inl rfl) rfl ?_ | refine kl_const rfl rfl (.inr rfl) rfl ?_) | ((first | refine kl_step rfl rfl rfl fun K hK => ?_ | refine kl_step0 rfl rfl rfl fun K hK => ?_); go_simp; (try go_bits); (first | refine hK _ _ ?_ | refine hK _ ?_); clear hK K))
  have HV3 := Lib.hid (vs_new W #[.int .i64 p.init] 3 1 rfl)
  have HB3 : Hid (Below w.heap.size w (W.alloc (.cells #[.int .i64 p.init] 3))) := hb.out.alloc hb.out.size _
  have HO3 := Lib.hid (ho.out.alloc (.cells #[.int .i64 p.init] 3))
  clear hb ho c3
  generalize W.heap.size = g3 at HV3 ⊢
  generalize W.alloc (.cells #[.int .i64 p.init] 3) = w3 at HV3 HB3 HO3 ⊢
  refine kl_appendV 56 3 (.int .i64 0) 8 Try.underlying56 intInfo3 rfl w.heap.size v k _ HO3.out _ 1 1 _ HV3.out (by intro u hu; simp at hu; subst hu; rfl) (by have := HK.out; omega) (by have := HK.out; omega) HB3.out.size rfl rfl rfl rfl rfl rfl ?_
  intro v4 w4 ho4 hg4 hv4
  have hb4 : Below w.heap.size w w4 := below_append HB3.out hg4 HO3.out HB3.out.size
  have ho4' := Lib.hid ho4
  rw [show ((l.take k).map (fun c => Value.int .i64 c.init) ++ [Value.int .i64 p.init]) = (l.take (k + 1)).map (fun c => Value.int .i64 c.init) from (begin_take l k p ht.out).symm, HK.out.1] at ho4'
  have HB4 := Lib.hid hb4
  clear hb4 ho4 hg4 hv4 HV3 HB3 HO3
  repeat (first | refine kw_seq ?_ | refine kw_block ?_ | refine kw_region ?_ | refine kl_nil ?_ | refine kq_then ?_ | refine kq_block ?_ | refine kw_ift rfl ?_ | refine kw_iff rfl ?_ | refine kw_skip ?_ | refine kl_ung rfl rfl ?_ | refine kl_skipg rfl rfl rfl rfl ?_ | (first | refine kl_move rfl rfl (.inl rfl) rfl rfl ?_ | refine kl_move rfl rfl (.inr rfl) rfl rfl ?_ | refine kl_const rfl rfl (.inl rfl) rfl ?_ | refine kl_const rfl rfl (.inr rfl) rfl ?_) | ((first | refine kl_step rfl rfl rfl fun K hK => ?_ | refine kl_step0 rfl rfl rfl fun K hK => ?_); go_simp; (try go_bits); (first | refine hK _ _ ?_ | refine hK _ ?_); clear hK K))
  refine kq_again (n - nk) [0, 3, 4] (by have := HK.out; omega) ?_
  exact ⟨nk, v4, by have := HK.out; omega, rfl, HB4, ho4', rfl⟩
end Go.Proofs.Ytcpifcdndhhmgaa
