/- code.Int, code.Byte, code.Text and the document's: what each returns. -/
import Derived.Test.YtpbbindeghoaaaaChecked
import Derived.Test.YtpbbindeghoaaaaConcat
import Derived.Test.YtpbbindeghoaaaaAppendK
import Derived.Test.YtpbbindeghoaaaaCodePlain
import Derived.Lib.ConvBytes
namespace Go.Proofs.Ytpbbindeghoaaaa
open Go.RowKit

/-- append onto a row that was made of v0 -/
theorem ontoB {wr : World} {ops : Array Oper} {rest : List Oper} {o : Oper} {a : Act} {Q : Exit → Act → World → Prop} (hgd : o.guard = none) (s x : Operand)
    (ho : o.op = .call { callee := .builtin .append, args := #[s, x], argTypes := #[22, 22] })
    {w : World} {base : Nat} {v0 v : Value} {n N : Nat} {l r : List UInt8} (hs : a.eval s = v) (h : Onto w wr base 5 v0 n (bv l) v N (bv r))
    (A : Option Addr) (m c : Nat) (k : List UInt8) (hx : a.eval x = .slice A m c) (hr : Bs wr A m k) (hb : N + m ≤ 70368744177664) (hbase : base ≤ wr.heap.size)
    (hK : ∀ v' w', Onto w w' base 5 v0 n (bv l) v' (N + m) (bv (r ++ k)) → wr.heap.size ≤ w'.heap.size → wpList Try.prog ops Q rest (a.put o.dst v') w') : wpList Try.prog ops Q (o :: rest) a wr := by
  obtain ⟨i0, hi0, hz0, hz1, hz2⟩ := info_parts byteInfo
  refine wpList_plain hgd fun K hKK => ?_
  obtain ⟨v', w', hrun, h2, h3, _, h5⟩ := run_append_K (P := Try.prog) wr base 22 o.type 5 i0 (.int .u8 0) 1 Try.underlying22 hi0 hz0 hz1 hz2 rfl v N (bv r) h.now A m c (bv k) hr (bv_one k) (by omega) (by simp only [maxLen]; omega) hbase
  unfold Oper.wp execOp
  simp only [ho, resolve, invoke, builtin, Sem.run_bind, Sem.run_pure, Result.andThen_ok, List.map_toArray, List.map_cons, List.map_nil, hs, hx, hrun]
  have := h.step h2 h3 h5
  rw [← bv_append] at this
  exact hKK _ _ (hK v' w' this h3.size)

set_option maxRecDepth 100000 in
theorem refInt_any (v0 : Value) (n : Nat) (l : List UInt8) (x : Int) (w : World) (base : Nat) (hown : w.ownsRow base 5 1 v0 n (bv l)) (hbase : base ≤ w.heap.size) (hn : n ≤ 1099511627776) (hx : -9223372036854775808 ≤ x ∧ x ≤ 9223372036854775807) :
    Calls Try.prog 12 #[v0, .int .i64 x] w fun e w' => ∃ v, e = .returned v ∧ Onto w w' base 5 v0 n (bv l) v (n + 8) (bv (l ++ le8 x)) := by
  go_enter Try.func12, Try.ntmps12
  go_wp2_with fail
  go_loopw [0, 5] (fun v i wr => ∃ (k : Nat), k ≤ 8 ∧ i = .int .i64 k ∧ Onto w wr base 5 v0 n (bv l) v (n + k) (bv (l ++ (le8 x).take k))) (fun _ i _ => 8 - (intOf i).toNat)
  case atStart => exact ⟨0, by omega, rfl, by simpa using Onto.start hown⟩
  case round =>
    obtain ⟨k, hk, rfl, h⟩ := hrel
    by_cases hlt : k < 8
    · have hk8 : (k : Int) < 8 := by omega
      have hk0 : (0 : Int) ≤ k := by omega
      have hbw := h.grown.size
      have e1 : IntKind.u64.wrap x / 2 ^ (8 * k) % 256 = ((i64byte x k).toNat : Int) := (i64byte_val x k).symm
      have e2 := le8_next x k hlt
      generalize i64byte x k = z at e1 e2
      have E2 := Lib.hid e2; clear e2
      go_wp2_with (at_builtin; refine ontoB rfl (.tmp 10) (.tmp 18) rfl rfl (h.below (.alloc (.refl _ _) (Nat.le_refl _) _)) _ _ _ [z] rfl (Bs.lit _ rfl [z] rfl rfl) (by omega) (by simp; omega) ?_; intro v2 w2 h2 hs2)
      go_roundw
      case rel => exact ⟨k + 1, by omega, by go_num, by rw [E2.out, ← List.append_assoc]; exact h2⟩
      case measure => simp [intOf]; omega
    · obtain rfl : k = 8 := by omega
      rw [le8_all] at h
      go_wp2_with fail
      go_ret
      exact ⟨_, rfl, h⟩

theorem refByte_any (v0 : Value) (n : Nat) (l : List UInt8) (x : Int) (w : World) (base : Nat) (hown : w.ownsRow base 5 1 v0 n (bv l)) (hbase : base ≤ w.heap.size) (hn : n ≤ 1099511627776) :
    Calls Try.prog 14 #[v0, .int .i64 x] w fun e w' => ∃ v, e = .returned v ∧ Onto w w' base 5 v0 n (bv l) v (n + 1) (bv (l ++ [i64byte x 0])) := by
  have e1 : x % 256 = ((i64byte x 0).toNat : Int) := (i64byte0 x).symm
  generalize i64byte x 0 = z at e1
  go_enter Try.func14, Try.ntmps14
  go_wp2_with (at_builtin; refine ontoB rfl (.tmp 5) (.tmp 8) rfl rfl ((Onto.start hown).below (.alloc (.refl _ _) (Nat.le_refl _) _)) _ _ _ [z] rfl (Bs.lit _ rfl [z] rfl rfl) (by omega) (by simp; omega) ?_; intro v2 w2 h2 hs2)
  go_ret
  exact ⟨_, rfl, h2⟩

theorem codeByte_any (A : Option Addr) (n c : Nat) (l : List UInt8) (x : Int) (w : World) (hA : Bs w A n l) (hn : n ≤ 1099511627775) (hc : n ≤ c) (hc2 : c ≤ 9223372036854775807) :
    Calls Try.prog 13 #[.slice A n c, .int .i64 x] w fun e w' => ∃ v, e = .returned v ∧ w'.ownsRow w.heap.size 5 1 v (n + 1) (bv (l ++ [i64byte x 0])) ∧ Below w.heap.size w w' := by
  have e1 : x % 256 = ((i64byte x 0).toNat : Int) := (i64byte0 x).symm
  generalize i64byte x 0 = z at e1
  go_enter Try.func13, Try.ntmps13
  go_wp2_with fail
  have hl := hA.len
  refine Calls.mono (concat_any _ _ _ [l, [z]] _ (Ps.lit2 _ (by simp) (hA.alloc _) hc hc2 (Bs.lit _ rfl [z] rfl rfl) (by omega) (by omega)) (by omega) (by simp; omega)) ?_
  rintro e w2 ⟨v2, rfl, hown, hb⟩
  go_wp2
  go_ret
  have e2 : [l, [z]].flatten = l ++ [z] := by simp
  have e3 : [l, [z]].flatten.length = n + 1 := by simp [hl]
  rw [e3, e2] at hown
  exact ⟨_, rfl, ownsRow_base hown (by simp; omega), below_then (((Below.refl _ w).alloc (Nat.le_refl _) _).alloc (by simp) _) hb (by simp; omega)⟩

set_option maxRecDepth 100000 in
theorem codeInt_any (A : Option Addr) (n c : Nat) (l : List UInt8) (x : Int) (w : World) (hA : Bs w A n l) (hn : n ≤ 1099511627776) (hx : -9223372036854775808 ≤ x ∧ x ≤ 9223372036854775807) :
    Calls Try.prog 11 #[.slice A n c, .int .i64 x] w fun e w' => ∃ v, e = .returned v ∧ w'.ownsRow w.heap.size 5 1 v (n + 8) (bv (l ++ le8 x)) ∧ Below w.heap.size w w' := by
  go_enter Try.func11, Try.ntmps11
  go_wp2_with (go_at_call 30; refine Calls.mono (clone_any _ _ _ l _ hA (by omega)) ?_; rintro e w1 ⟨v1, rfl, hown1, hb1⟩)
  go_loopw [5, 6, 9] (fun v _ i wr => ∃ (k : Nat), k ≤ 8 ∧ i = .int .i64 k ∧ wr.ownsRow w.heap.size 5 1 v (n + k) (bv (l ++ (le8 x).take k)) ∧ Below w.heap.size w wr) (fun _ _ i _ => 8 - (intOf i).toNat)
  case atStart => exact ⟨0, by omega, rfl, by simpa using hown1, hb1⟩
  case round =>
    obtain ⟨k, hk, rfl, hown, hbr⟩ := hrel
    by_cases hlt : k < 8
    · have hk8 : (k : Int) < 8 := by omega
      have hk0 : (0 : Int) ≤ k := by omega
      have hbw := hbr.size
      have e1 : IntKind.u64.wrap x / 2 ^ (8 * k) % 256 = ((i64byte x k).toNat : Int) := (i64byte_val x k).symm
      have e2 := le8_next x k hlt
      generalize i64byte x k = z at e1 e2
      have E2 := Lib.hid e2; clear e2
      go_wp2_with (at_builtin; refine appendB _ rfl (.tmp 12) (.tmp 19) rfl w.heap.size _ _ _ rfl (own_below hown (.alloc (.refl _ _) (Nat.le_refl _) _)) _ _ _ [z] rfl (Bs.lit _ rfl [z] rfl rfl) (by omega) (by simp; omega) ?_; intro v2 w2 hown2 hg2 hat2)
      go_roundw
      case rel => exact ⟨k + 1, by omega, by go_num, by rw [E2.out, ← List.append_assoc]; exact hown2, below_append (hbr.alloc hbr.size _) hg2 (own_below hown (.alloc (.refl _ _) (Nat.le_refl _) _)) (by simp; omega)⟩
      case measure => simp [intOf]; omega
    · obtain rfl : k = 8 := by omega
      rw [le8_all] at hown
      obtain ⟨B, c2, rfl, q1, q2, q3, _⟩ := own_slice hown
      go_wp2_with (go_at_call 30; refine Calls.mono (clone_any _ _ _ (l ++ le8 x) _ q3 (by omega)) ?_; rintro e w3 ⟨v3, rfl, hown3, hb3⟩)
      go_ret
      exact ⟨_, rfl, ownsRow_base hown3 hbr.size, below_then hbr hb3 hbr.size⟩
end Go.Proofs.Ytpbbindeghoaaaa
