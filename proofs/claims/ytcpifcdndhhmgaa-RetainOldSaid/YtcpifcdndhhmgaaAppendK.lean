/- slices.Grow, Concat at bytes. slices.Clone, Grow, Concat at bytes. append onto a row of one's own, the elder handle kept: in place, or all that was stays. No program in sight but for the byte's type. -/
import Derived.Test.YtcpifcdndhhmgaaClone
import Derived.Lib.AppendZerosOnto
import Derived.Lib.SliceRun
import Derived.Maps.AppendAt
import Derived.Lib.AppendStr
set_option linter.unusedVariables false
set_option linter.unusedSimpArgs false
namespace Go.Proofs.Ytcpifcdndhhmgaa
open Go.RowKit

theorem size_zeros (k : Nat) : (Builtin.zeroCells #[Value.int .u8 0] k).size = k := by simp [Builtin.zeroCells]

set_option maxRecDepth 100000 in
theorem grow_nil (k : Nat) (w : World) (hk : k ≤ 140737488355328) :
    Calls Try.prog 92 #[.slice none 0 0, .int .i64 k] w fun e w' => ∃ v, e = .returned v ∧ w'.ownsRow w.heap.size 5 1 v 0 [] ∧ Below w.heap.size w w' := by
  obtain ⟨i0, hi0, hz0, hz1, hz2⟩ := info_parts byteInfo
  by_cases h0 : 0 < k
  · have hr := Lib.run_append_grow_zeros (P := Try.prog) w 27 3 27 5 i0 (.int .u8 0) .i64 .i64 Try.underlying27 Try.underlying3 hi0 hz0 none 0 0 []
      (by simp [Builtin.firstCells]) k h0 (by omega) (by omega) (by omega) (by rw [hz2]; omega) (by rw [Nat.zero_add, nextslicecap_zero h0, hz2]; omega)
    have hc1 := grownCap_ge w (0 + k) 0 5
    have hc2 := grownCap_le_maxLen w (0 + k) 0 5 (by simp only [maxLen]; omega)
    generalize grownCap w (0 + k) 0 5 = g at hr hc1 hc2
    have hB := (Below.refl w.heap.size w).drew.alloc (Nat.le_refl _) (.cells (([] : List Value).toArray ++ Builtin.zeroCells #[Value.int .u8 0] k ++ Builtin.zeroCells #[Value.int .u8 0] (g - (0 + k))) 5)
    have hO := World.ownsRow_made (base := w.heap.size) (e := 5) (size := 1) w.drew (([] : List Value).toArray ++ Builtin.zeroCells #[Value.int .u8 0] k ++ Builtin.zeroCells #[Value.int .u8 0] (g - (0 + k))) g (Nat.le_refl _) hc2 (by simp [size_zeros]; omega)
    simp only [Value.cells] at hr
    generalize (([] : List Value).toArray ++ Builtin.zeroCells #[Value.int .u8 0] k ++ Builtin.zeroCells #[Value.int .u8 0] (g - (0 + k))) = C at hr hB hO
    rw [Nat.zero_add] at hr
    simp only [maxLen] at hc2
    have hkz : (0 : Int) < (k : Int) := by omega
    go_enter Try.func92, Try.ntmps92
    have HR := Lib.hid hr; clear hr
    go_wp2_with (at_builtin; refine wpList_append_run rfl (.tmp 20) (.tmp 21) 27 3 rfl (by rfl) (by rfl) HR.out ?_)
    go_ret
    exact ⟨_, rfl, hO, hB⟩
  · obtain rfl : k = 0 := by omega
    go_enter Try.func92, Try.ntmps92
    go_wp2
    go_ret
    exact ⟨_, rfl, World.ownsRow_nil _ _ _ _, Below.refl _ _⟩

set_option maxRecDepth 100000 in
/-- the parts together are at most 2^40 bytes -/
theorem concat_any (A : Option Addr) (n c : Nat) (ls : List (List UInt8)) (w : World) (hA : Ps w A n ls) (hn : n ≤ 1048576) (hsum : ls.flatten.length ≤ 1099511627776) :
    Calls Try.prog 62 #[.slice A n c] w fun e w' => ∃ v, e = .returned v ∧ w'.ownsRow w.heap.size 5 1 v ls.flatten.length (bv ls.flatten) ∧ Below w.heap.size w w' := by
  obtain ⟨i0, hi0, hz0, hz1, hz2⟩ := info_parts byteInfo
  have hle : ∀ k, (ls.take k).flatten.length ≤ 1099511627776 := by
    intro k
    have : ls.flatten.length = (ls.take k).flatten.length + (ls.drop k).flatten.length := by
      rw [← List.length_append, ← List.flatten_append, List.take_append_drop]
    omega
  clear hsum
  go_enter Try.func62, Try.ntmps62
  go_wp2_with fail
  go_loop [3, 11] (fun v i => ∃ (k s : Nat), k ≤ n ∧ i = .int .i64 k ∧ v = .int .i64 s ∧ Hid (s = (ls.take k).flatten.length) ∧ s ≤ 1099511627776) (fun _ i => n - (intOf i).toNat)
  case atStart => exact ⟨0, 0, Nat.zero_le _, rfl, rfl, rfl, by omega⟩
  case round =>
    obtain ⟨k, s, hk, rfl, rfl, hs, hs2⟩ := hrel
    by_cases hlt : k < n
    · obtain ⟨pb, po, B, m, d, l, rfl, hcell, hB, hm, hd, ht, hsk⟩ := hA.next hlt
      have hx : (ls.take (k + 1)).flatten.length = s + m := by
        rw [ht.out, List.flatten_append, List.length_append, ← hs.out]; simp [hB.len]
      have hx2 := hle (k + 1)
      rw [hx] at hx2
      have Hx := Lib.hid hx; clear hx
      have hnn : ¬ ((s : Int) + (m : Int) < 0) := by omega
      go_wp2_with fail
      go_round
      case rel => exact ⟨k + 1, s + m, by omega, by go_num, by go_num, Hx.out.symm, hx2⟩
      case measure => simp [intOf]; omega
    · obtain rfl : k = n := by omega
      go_wp2_with (go_at_call 92; refine (grow_nil _ _ (by omega)).mono ?_; rintro e w1 ⟨v1, rfl, hown1, hb1⟩)
      go_loopw [6, 27] (fun v i wr => ∃ (j : Nat), j ≤ k ∧ i = .int .i64 j ∧ wr.ownsRow w.heap.size 5 1 v (ls.take j).flatten.length (bv (ls.take j).flatten) ∧ Below w.heap.size w wr) (fun _ i _ => k - (intOf i).toNat)
      case atStart => exact ⟨0, Nat.zero_le _, rfl, hown1, hb1⟩
      case round =>
        obtain ⟨j, hj, rfl, hown, hbel⟩ := hrel
        have hAr := hA.keep (.of_below hbel)
        have hx := hle j
        have hy := hle (j + 1)
        generalize hL : (ls.take j).flatten = L at hown hx
        have HL := Lib.hid hL; clear hL
        generalize hN : L.length = N at hown hx
        have HN := Lib.hid hN; clear hN
        by_cases hlt : j < k
        · obtain ⟨pb, po, B, m, d, l, rfl, hcell, hB, hm, hd, ht, hsk⟩ := hAr.next hlt
          have hNm : N + m ≤ 1099511627776 := by
            rw [ht.out, List.flatten_append, List.length_append, HL.out, HN.out] at hy; simpa [hB.len] using hy
          clear hy hle
          go_wp2_with (at_builtin; refine wpList_append_V _ rfl (.tmp 31) (.tmp 32) 27 rfl w.heap.size 5 i0 (.int .u8 0) 1 Try.underlying27 hi0 hz0 hz1 hz2 rfl _ _ _ rfl hown B m d (bv l) rfl hB (bv_one l) (by omega) (by simp only [maxLen]; omega) hbel.size ?_; intro v1 w1 hown1 hg1 hat1)
          go_roundw
          case rel =>
            refine ⟨j + 1, by omega, by go_num, ?_, below_append hbel hg1 hown hbel.size⟩
            rw [ht.out, List.flatten_append, HL.out, List.length_append, HN.out, bv_append]
            simp only [List.flatten_cons, List.flatten_nil, List.append_nil]
            rw [hB.len]
            exact hown1
          case measure => simp [intOf]; omega
        · obtain rfl : j = k := by omega
          go_wp2_with fail
          go_ret
          refine ⟨_, rfl, ?_, hbel⟩
          rw [hA.all] at HL
          rw [HL.out, HN.out]
          exact hown
end Go.Proofs.Ytcpifcdndhhmgaa
set_option linter.unusedVariables false
set_option linter.unusedSimpArgs false
namespace Go.Proofs.Ytcpifcdndhhmgaa
open Go.RowKit

section
variable {P : Program} (w : World)

/-- 'v' was made of the owned row 'v0' by appending; the elder handle stands -/
structure Onto (w wr : World) (base : Nat) (e : TypeId) (v0 : Value) (n : Nat) (xs : List Value) (v : Value) (N : Nat) (ys : List Value) : Prop where
  now : wr.ownsRow base e 1 v N ys
  was : wr.ownsRow base e 1 v0 n xs
  front : n ≤ N ∧ ys.take n = xs
  grown : w.grownBy wr v0.ownBlock
  old : ∀ b, v0.ownBlock = some b → b < w.heap.size
  form : (∃ g cap, v0 = .slice (some ⟨g, 0, none⟩) n cap ∧ v = .slice (some ⟨g, 0, none⟩) N cap) ∨ ∀ b, v.ownBlock = some b → w.heap.size ≤ b

theorem own_front {W : World} {base : Nat} {e : TypeId} {g cap n N : Nat} {xs ys : List Value} (h : W.ownsRow base e 1 (.slice (some ⟨g, 0, none⟩) N cap) N ys) (hn : n ≤ N) (hx : ys.take n = xs) :
    W.ownsRow base e 1 (.slice (some ⟨g, 0, none⟩) n cap) n xs := by
  have hl := h.1
  refine ⟨by rw [← hx, List.length_take, hl]; omega, .inr ?_⟩
  rcases h.2 with ⟨hv, _⟩ | ⟨g', cap', cur, hv, hb, hg, h1, h2, h3, h4⟩
  · cases hv
  · injection hv with e1 e2 e3
    injection e1 with e1
    injection e1 with e1 _ _
    subst e1; subst e3
    refine ⟨g, cap, cur, rfl, hb, hg, by omega, h2, h3, ?_⟩
    rw [← hx, ← h4, List.take_take]
    congr 1
    omega

variable {w}
theorem Onto.start {base : Nat} {e : TypeId} {v0 : Value} {n : Nat} {xs : List Value} (h : w.ownsRow base e 1 v0 n xs) : Onto w w base e v0 n xs v0 n xs := by
  refine ⟨h, h, ⟨Nat.le_refl _, List.take_of_length_le (by rw [h.1]; omega)⟩, ⟨rfl, rfl, rfl, Nat.le_refl _, fun _ _ _ => rfl⟩, fun b hb => (h.lt b hb).2, ?_⟩
  rcases h.2 with ⟨rfl, rfl⟩ | ⟨g, cap, cur, rfl, _⟩
  · exact .inr fun b hb => by simp [Value.ownBlock] at hb
  · exact .inl ⟨g, cap, rfl, rfl⟩
theorem Onto.below {wr wr' : World} {base : Nat} {e : TypeId} {v0 v : Value} {n N : Nat} {xs ys : List Value} (h : Onto w wr base e v0 n xs v N ys) (hb : Below wr.heap.size wr wr') : Onto w wr' base e v0 n xs v N ys := by
  refine ⟨own_below h.now hb, own_below h.was hb, h.front, ⟨hb.os.trans h.grown.os, hb.tape.trans h.grown.tape, hb.output.trans h.grown.output, Nat.le_trans h.grown.size hb.size, fun i hi hne => ?_⟩, h.old, h.form⟩
  rw [hb.block i (Nat.lt_of_lt_of_le hi h.grown.size)]
  exact h.grown.block i hi hne
/-- one more append: what the append's law says -/
theorem Onto.step {wr w' : World} {base : Nat} {e : TypeId} {v0 v v' : Value} {n N m : Nat} {xs ys news : List Value} (h : Onto w wr base e v0 n xs v N ys)
    (h2 : w'.ownsRow base e 1 v' (N + m) (ys ++ news)) (h3 : wr.grownBy w' v.ownBlock)
    (h5 : (∃ g cap, v = .slice (some ⟨g, 0, none⟩) N cap ∧ v' = .slice (some ⟨g, 0, none⟩) (N + m) cap) ∨ (Below wr.heap.size wr w' ∧ (v'.ownBlock = none ∨ v'.ownBlock = some wr.heap.size))) : Onto w w' base e v0 n xs v' (N + m) (ys ++ news) := by
  have hyl : ys.length = N := by simpa using h.now.1
  have hfr : n ≤ N + m ∧ (ys ++ news).take n = xs := by
    refine ⟨by have := h.front.1; omega, ?_⟩
    rw [List.take_append_of_le_length (by rw [hyl]; exact h.front.1)]
    exact h.front.2
  rcases h5 with ⟨g, cap, rfl, rfl⟩ | ⟨hb, hv'⟩
  · have h3 : wr.grownBy w' (some g) := h3
    rcases h.form with ⟨g', cap', e1, e2⟩ | hf
    · subst e1
      injection e2 with e2 _ e3; injection e2 with e2; injection e2 with e2 _ _
      subst e2; subst e3
      have hg0 : w.grownBy wr (some g) := h.grown
      refine ⟨h2, own_front h2 hfr.1 hfr.2, hfr, ?_, h.old, .inl ⟨g, cap, rfl, rfl⟩⟩
      exact ⟨h3.os.trans hg0.os, h3.tape.trans hg0.tape, h3.output.trans hg0.output, Nat.le_trans hg0.size h3.size, fun i hi hne => (h3.block i (Nat.lt_of_lt_of_le hi hg0.size) hne).trans (hg0.block i hi hne)⟩
    · have hgw : w.heap.size ≤ g := hf g rfl
      refine ⟨h2, h.was.kept h3 ?_, hfr, ?_, h.old, .inr fun b hb => hf b hb⟩
      · cases hv : v0.ownBlock with
        | none => exact .inl rfl
        | some b =>
          have := h.old b hv
          refine .inr fun he => ?_
          injection he with he
          omega
      · refine ⟨h3.os.trans h.grown.os, h3.tape.trans h.grown.tape, h3.output.trans h.grown.output, Nat.le_trans h.grown.size h3.size, fun i hi hne => (h3.block i (Nat.lt_of_lt_of_le hi h.grown.size) ?_).trans (h.grown.block i hi hne)⟩
        intro he
        injection he with he
        omega
  · refine ⟨h2, own_below h.was hb, hfr, ?_, h.old, .inr fun b hb' => ?_⟩
    · exact ⟨hb.os.trans h.grown.os, hb.tape.trans h.grown.tape, hb.output.trans h.grown.output, Nat.le_trans h.grown.size hb.size, fun i hi hne => (hb.block i (Nat.lt_of_lt_of_le hi h.grown.size)).trans (h.grown.block i hi hne)⟩
    · rcases hv' with hv' | hv'
      · rw [hv'] at hb'; cases hb'
      · rw [hv'] at hb'
        injection hb' with hb'
        subst hb'
        exact h.grown.size
end
end Go.Proofs.Ytcpifcdndhhmgaa
