/- append and conversion at bytes; make. A world that has grown, and blocks that one stays away from. No program in sight. slices.Clone at bytes. slices.Grow, Concat at bytes. slices.Clone, Grow, Concat at bytes. -/
import Derived.Test.YtcpifcdndhhmgaaChecked
import Derived.Test.YtcpifcdndhhmgaaLib
import Derived.Lib.AppendZerosOnto
import Derived.Lib.SliceRun
set_option linter.unusedVariables false
set_option linter.unusedSimpArgs false
namespace Go.Proofs.Ytcpifcdndhhmgaa
open Go.RowKit

theorem byteInfo : (Try.prog.info? 5).map (fun i => (i.zero, i.size, i.bytes)) = some (some (.int .u8 0), 1, 1) := by kernel_rfl

/-- append onto bytes of the call's own -/
theorem appendB (w : World) {ops : Array Oper} {rest : List Oper} {o : Oper} {a : Act} {Q : Exit → Act → World → Prop} (hgd : o.guard = none) (s x : Operand)
    (ho : o.op = .call { callee := .builtin .append, args := #[s, x], argTypes := #[27, 27] })
    (base : Nat) (v : Value) (n : Nat) (l : List UInt8) (hs : a.eval s = v) (hown : w.ownsRow base 5 1 v n (bv l))
    (A : Option Addr) (m c : Nat) (k : List UInt8) (hx : a.eval x = .slice A m c) (hr : Bs w A m k) (hb : n + m ≤ 70368744177664) (hbase : base ≤ w.heap.size)
    (h : ∀ v' w', w'.ownsRow base 5 1 v' (n + m) (bv (l ++ k)) → w.grownBy w' v.ownBlock → (v'.ownBlock = v.ownBlock ∨ v'.ownBlock = some w.heap.size) → wpList Try.prog ops Q rest (a.put o.dst v') w') : wpList Try.prog ops Q (o :: rest) a w := by
  obtain ⟨i0, hi0, hz0, hz1, hz2⟩ := info_parts byteInfo
  refine wpList_append_V w hgd s x 27 ho base 5 i0 (.int .u8 0) 1 Try.underlying27 hi0 hz0 hz1 hz2 rfl v n (bv l) hs hown A m c (bv k) hx hr (bv_one k) (by omega) (by simp only [maxLen]; omega) hbase ?_
  intro v' w' h1 h2 h3
  rw [← bv_append] at h1
  exact h v' w' h1 h2 h3
/-- append([]byte{}, k...) -/
theorem cloneB (w : World) {ops : Array Oper} {rest : List Oper} {o : Oper} {a : Act} {Q : Exit → Act → World → Prop} (hgd : o.guard = none) (s x : Operand)
    (ho : o.op = .call { callee := .builtin .append, args := #[s, x], argTypes := #[27, 27] })
    (B : Nat) (hB : B = w.heap.size) (hs : a.eval s = .slice (some ⟨B, 0, none⟩) 0 0)
    (A : Option Addr) (m c : Nat) (k : List UInt8) (hx : a.eval x = .slice A m c) (hr : Bs w A m k) (hb : m ≤ 70368744177664)
    (h : ∀ v' w', w'.ownsRow w.heap.size 5 1 v' m (bv k) → Below w.heap.size w w' → wpList Try.prog ops Q rest (a.put o.dst v') w') : wpList Try.prog ops Q (o :: rest) a (w.alloc (.cells #[] 5)) := by
  subst hB
  refine appendB _ hgd s x ho w.heap.size (.slice (some ⟨w.heap.size, 0, none⟩) 0 0) 0 [] hs (World.ownsRow_made w #[] 0 (Nat.le_refl _) (by simp [maxLen]) rfl) A m c k hx (hr.alloc _) (by omega) (by simp) ?_
  intro v' w' h1 h2 h3
  rw [Nat.zero_add] at h1
  exact h v' w' h1 (((Below.refl _ w).alloc (Nat.le_refl _) _).grown h2 (by simp) (by simp [Value.ownBlock]))
/-- string(b) -/
theorem convB {w : World} {A : Option Addr} {n c : Nat} {l : List UInt8} (h : Bs w A n l) :
    (convert 27 9 (.slice A n c)).run Try.prog w = .ok (.string ⟨l.toArray⟩) w := by
  rw [run_convert_bytes_string (P := Try.prog) w 27 9 5 A n c Try.underlying27 Try.underlying5 Try.underlying9]
  rcases A with _ | ad
  · have h0 : n = 0 := by
      rcases Nat.eq_zero_or_pos n with h' | h'
      · exact h'
      · obtain ⟨_, _, h', _⟩ := h.2 h'; cases h'
    subst h0
    have hl : l = [] := List.eq_nil_of_length_eq_zero h.len
    subst hl
    rfl
  · have hlen := h.len
    have hload : (loadCells ad n).run Try.prog w = .ok ((l.map fun u => (u.toNat : Int)).map (Value.int .u8)).toArray w := by
      rcases Nat.eq_zero_or_pos n with h' | h'
      · subst h'
        have hl : l = [] := List.eq_nil_of_length_eq_zero hlen
        subst hl
        rfl
      · obtain ⟨b, o, e, hc⟩ := h.2 h'
        injection e with e; subst e
        have := run_loadCells_list (P := Try.prog) w ⟨b, o, none⟩ (bv l) (fun j u hu => by rw [Addr.add_lit]; exact hc j u hu)
        rw [length_bv, hlen] at this
        rw [this]
        simp [bv]
    rw [run_bytesToString w ad n c _ hload, foldl_push_bytes]
    simp only [List.map_map]
    have : (fun n : Int => UInt8.ofNat n.toNat) ∘ (fun u : UInt8 => (u.toNat : Int)) = id := by funext u; simp
    rw [this, List.map_id]
    have : (ByteArray.empty).data ++ l.toArray = l.toArray := by
      show #[] ++ l.toArray = l.toArray
      simp
    rw [this]

set_option maxRecDepth 100000 in
/-- make([]byte, n) -/
theorem makeBytes (n : Nat) (hn : n ≤ 140737488355328) (W : World) :
    (Instr.makeSlice 27 (.int .i64 (n : Int)) (.int .i64 (n : Int))).run Try.prog W = .ok (.slice (some ⟨W.heap.size, 0, none⟩) n n) (W.alloc (.cells (bv (List.replicate n 0)).toArray 5)) := by
  obtain ⟨i0, hi0, hz0, hz1, hz2⟩ := info_parts byteInfo
  have hr := run_make (P := Try.prog) W 27 5 i0 (.int .u8 0) Try.underlying27 hi0 hz0 .i64 .i64 n n (by omega) (by omega) (by rw [hz2]; omega) (by omega)
  simp only [Int.toNat_natCast, hz1, Nat.mul_one, Value.cells] at hr
  rw [hr]
  congr 3
  apply Array.toList_inj.1
  rw [toList_madeCells_one]
  simp [bv]
end Go.Proofs.Ytcpifcdndhhmgaa
set_option linter.unusedVariables false
set_option linter.unusedSimpArgs false
namespace Go.Proofs.Ytcpifcdndhhmgaa
open Go.RowKit
theorem grown_set (w : World) (g k : Nat) (u : Value) : w.grownBy (w.setCell ⟨g, k, none⟩ u) (some g) :=
  ⟨rfl, rfl, rfl, by simp, fun i _ hne => Below.heap_setCell _ _ _ _ (fun e => hne (by rw [e]))⟩
theorem grown_trans {a b c : World} {r : Option Nat} (h : a.grownBy b r) (k : b.grownBy c r) : a.grownBy c r :=
  ⟨k.os.trans h.os, k.tape.trans h.tape, k.output.trans h.output, Nat.le_trans h.size k.size, fun i hi hne => (k.block i (Nat.lt_of_lt_of_le hi h.size) hne).trans (h.block i hi hne)⟩
theorem grown_refl (a : World) (r : Option Nat) : a.grownBy a r := ⟨rfl, rfl, rfl, Nat.le_refl _, fun _ _ _ => rfl⟩
theorem grown_below {W W' : World} (hb : Below W.heap.size W W') (r : Option Nat) : W.grownBy W' r := ⟨hb.os, hb.tape, hb.output, hb.size, fun i hi _ => hb.block i hi⟩
theorem grown_drew (w : World) (n : Nat) (r : Option Nat) : w.grownBy (w.drewN n) r := ⟨rfl, rfl, rfl, Nat.le_refl _, fun _ _ _ => rfl⟩
theorem below_grown {B g : Nat} {w0 w w' : World} (hb : Below B w0 w) (hg : w.grownBy w' (some g)) (hB : B ≤ w.heap.size) (hgB : B ≤ g) : Below B w0 w' :=
  hb.grown hg hB fun k hk => by injection hk with hk; omega
def InQ (Q : Nat → Prop) (A : Option Addr) : Prop := ∀ a, A = some a → Q a.block
theorem inQ_none (Q : Nat → Prop) : InQ Q none := fun a e => by cases e
/-- a slice that lies elsewhere than block g -/
def Away (g : Nat) (A : Option Addr) : Prop := ∀ a, A = some a → a.block ≠ g
theorem InQ.away {Q : Nat → Prop} {g : Nat} {A : Option Addr} (h : InQ Q A) (hQ : ∀ b, Q b → b ≠ g) : Away g A := fun a e => hQ _ (h a e)
theorem Bs.grownKeep {W W' : World} {A : Option Addr} {n g : Nat} {l : List UInt8} (h : Bs W A n l) (hg : W.grownBy W' (some g)) (hne : Away g A) : Bs W' A n l :=
  ⟨h.1, fun hn => by
    obtain ⟨b, o, e, hc⟩ := h.2 hn
    exact ⟨b, o, e, fun i u hu => hg.cell (hc i u hu) (fun h => hne _ e (by injection h))⟩⟩
/-- bytes that there are lie below -/
theorem Bs.inQ {W : World} {A : Option Addr} {n : Nat} {l : List UInt8} (h : Bs W A n l) : 0 < n → InQ (fun b => b < W.heap.size) A := fun h0 a e => by
  obtain ⟨b, o, e', hc'⟩ := h.2 h0
  have := World.block_lt_of_cell? W _ (hc' 0 _ (bv_get l 0 (by rw [h.len]; exact h0)))
  rw [e'] at e
  injection e with e
  subst e
  exact this
theorem Bs.grownKeep0 {W W' : World} {A : Option Addr} {n g : Nat} {l : List UInt8} (h : Bs W A n l) (hg : W.grownBy W' (some g)) (hne : 0 < n → Away g A) : Bs W' A n l :=
  ⟨h.1, fun hn => (h.grownKeep hg (hne hn)).2 hn⟩
end Go.Proofs.Ytcpifcdndhhmgaa
set_option linter.unusedVariables false
set_option linter.unusedSimpArgs false
namespace Go.Proofs.Ytcpifcdndhhmgaa
open Go.RowKit



theorem clone_any (A : Option Addr) (n c : Nat) (l : List UInt8) (w : World) (hA : Bs w A n l) (hn : n ≤ 140737488355328) :
    Calls Try.prog 63 #[.slice A n c] w fun e w' => ∃ v, e = .returned v ∧ w'.ownsRow w.heap.size 5 1 v n (bv l) ∧ Below w.heap.size w w' := by
  obtain ⟨i0, hi0, hz0, hz1, hz2⟩ := info_parts byteInfo
  have hnil := fun W => Lib.run_eql_slice_nil (P := Try.prog) W 27 5 A n c 0 0 Try.underlying27
  rcases A with _ | ad
  · have h0 : n = 0 := by
      rcases Nat.eq_zero_or_pos n with h | h
      · exact h
      · obtain ⟨_, _, h, _⟩ := hA.2 h; cases h
    subst h0
    have hl : l = [] := List.eq_nil_of_length_eq_zero hA.len
    subst hl
    clear hA
    go_enter Try.func63, Try.ntmps63
    go_wp2
    go_ret
    exact ⟨_, rfl, World.ownsRow_nil _ _ _ _, Below.refl _ _⟩
  · go_enter Try.func63, Try.ntmps63
    go_wp2_with (at_builtin; refine wpList_append_V _ rfl (.tmp 5) (.tmp 6) 27 rfl w.heap.size 5 i0 (.int .u8 0) 1 Try.underlying27 hi0 hz0 hz1 hz2 rfl (.slice (some ⟨w.heap.size, 0, none⟩) 0 0) 0 [] rfl (World.ownsRow_made w #[] 0 (Nat.le_refl _) (by simp [maxLen]) rfl) (some ad) n c (bv l) rfl (hA.alloc _) (bv_one l) (by omega) (by simp only [maxLen]; omega) (by simp) ?_; intro v1 w1 hown1 hg1 hat1)
    go_ret
    have hb := (Below.refl w.heap.size w).alloc (Nat.le_refl _) (.cells #[] 5)
    rw [Nat.zero_add, List.nil_append] at hown1
    exact ⟨_, rfl, hown1, hb.grown hg1 (by simp) (by simp [Value.ownBlock])⟩
end Go.Proofs.Ytcpifcdndhhmgaa
set_option linter.unusedVariables false
set_option linter.unusedSimpArgs false
namespace Go.Proofs.Ytcpifcdndhhmgaa
open Go.RowKit

theorem size_zeros (k : Nat) : (Builtin.zeroCells #[Value.int .u8 0] k).size = k := by simp [Builtin.zeroCells]

set_option maxRecDepth 100000 in
theorem grow_nil (k : Nat) (w : World) (hk : k ≤ 140737488355328) :
    Calls Try.prog 92 #[.slice none 0 0, .int .i64 k] w fun e w' => ∃ v, e = .returned v ∧ w'.ownsRow w.heap.size 5 1 v 0 [] ∧ Below w.heap.size w w' := by
  obtain ⟨i0, hi0, hz0, hz1, hz2⟩ := info_parts byteInfo
  by_cases h0 : 0 < k
  · have hr := Lib.run_append_grow_zeros (P := Try.prog) w 27 3 27 5 i0 (.int .u8 0) .i64 .i64 Try.underlying27 Try.underlying3 hi0 hz0 none 0 0 []
      (by simp [Builtin.firstCells]) k h0 (by omega) (by omega) (by omega) (by rw [hz2]; omega) (by rw [Nat.zero_add, nextslicecap_zero h0, hz2]; omega)
    have hc1 := grownCap_ge w (0 + k) 0 5
    have hc2 := grownCap_le_maxLen w (0 + k) 0 5 (by simp only [maxLen]; omega)
    generalize grownCap w (0 + k) 0 5 = g at hr hc1 hc2
    have hB := (Below.refl w.heap.size w).drew.alloc (Nat.le_refl _) (.cells (([] : List Value).toArray ++ Builtin.zeroCells #[Value.int .u8 0] k ++ Builtin.zeroCells #[Value.int .u8 0] (g - (0 + k))) 5)
    have hO := World.ownsRow_made (base := w.heap.size) (e := 5) (size := 1) w.drew (([] : List Value).toArray ++ Builtin.zeroCells #[Value.int .u8 0] k ++ Builtin.zeroCells #[Value.int .u8 0] (g - (0 + k))) g (Nat.le_refl _) hc2 (by simp [size_zeros]; omega)
    simp only [Value.cells] at hr
    generalize (([] : List Value).toArray ++ Builtin.zeroCells #[Value.int .u8 0] k ++ Builtin.zeroCells #[Value.int .u8 0] (g - (0 + k))) = C at hr hB hO
    rw [Nat.zero_add] at hr
    simp only [maxLen] at hc2
    have hkz : (0 : Int) < (k : Int) := by omega
    go_enter Try.func92, Try.ntmps92
    have HR := Lib.hid hr; clear hr
    go_wp2_with (at_builtin; refine wpList_append_run rfl (.tmp 20) (.tmp 21) 27 3 rfl (by rfl) (by rfl) HR.out ?_)
    go_ret
    exact ⟨_, rfl, hO, hB⟩
  · obtain rfl : k = 0 := by omega
    go_enter Try.func92, Try.ntmps92
    go_wp2
    go_ret
    exact ⟨_, rfl, World.ownsRow_nil _ _ _ _, Below.refl _ _⟩

set_option maxRecDepth 100000 in
/-- the parts together are at most 2^40 bytes -/
theorem concat_any (A : Option Addr) (n c : Nat) (ls : List (List UInt8)) (w : World) (hA : Ps w A n ls) (hn : n ≤ 1048576) (hsum : ls.flatten.length ≤ 1099511627776) :
    Calls Try.prog 62 #[.slice A n c] w fun e w' => ∃ v, e = .returned v ∧ w'.ownsRow w.heap.size 5 1 v ls.flatten.length (bv ls.flatten) ∧ Below w.heap.size w w' := by
  obtain ⟨i0, hi0, hz0, hz1, hz2⟩ := info_parts byteInfo
  have hle : ∀ k, (ls.take k).flatten.length ≤ 1099511627776 := by
    intro k
    have : ls.flatten.length = (ls.take k).flatten.length + (ls.drop k).flatten.length := by
      rw [← List.length_append, ← List.flatten_append, List.take_append_drop]
    omega
  clear hsum
  go_enter Try.func62, Try.ntmps62
  go_wp2_with fail
  go_loop [3, 11] (fun v i => ∃ (k s : Nat), k ≤ n ∧ i = .int .i64 k ∧ v = .int .i64 s ∧ Hid (s = (ls.take k).flatten.length) ∧ s ≤ 1099511627776) (fun _ i => n - (intOf i).toNat)
  case atStart => exact ⟨0, 0, Nat.zero_le _, rfl, rfl, rfl, by omega⟩
  case round =>
    obtain ⟨k, s, hk, rfl, rfl, hs, hs2⟩ := hrel
    by_cases hlt : k < n
    · obtain ⟨pb, po, B, m, d, l, rfl, hcell, hB, hm, hd, ht, hsk⟩ := hA.next hlt
      have hx : (ls.take (k + 1)).flatten.length = s + m := by
        rw [ht.out, List.flatten_append, List.length_append, ← hs.out]; simp [hB.len]
      have hx2 := hle (k + 1)
      rw [hx] at hx2
      have Hx := Lib.hid hx; clear hx
      have hnn : ¬ ((s : Int) + (m : Int) < 0) := by omega
      go_wp2_with fail
      go_round
      case rel => exact ⟨k + 1, s + m, by omega, by go_num, by go_num, Hx.out.symm, hx2⟩
      case measure => simp [intOf]; omega
    · obtain rfl : k = n := by omega
      go_wp2_with (go_at_call 92; refine (grow_nil _ _ (by omega)).mono ?_; rintro e w1 ⟨v1, rfl, hown1, hb1⟩)
      go_loopw [6, 27] (fun v i wr => ∃ (j : Nat), j ≤ k ∧ i = .int .i64 j ∧ wr.ownsRow w.heap.size 5 1 v (ls.take j).flatten.length (bv (ls.take j).flatten) ∧ Below w.heap.size w wr) (fun _ i _ => k - (intOf i).toNat)
      case atStart => exact ⟨0, Nat.zero_le _, rfl, hown1, hb1⟩
      case round =>
        obtain ⟨j, hj, rfl, hown, hbel⟩ := hrel
        have hAr := hA.keep (.of_below hbel)
        have hx := hle j
        have hy := hle (j + 1)
        generalize hL : (ls.take j).flatten = L at hown hx
        have HL := Lib.hid hL; clear hL
        generalize hN : L.length = N at hown hx
        have HN := Lib.hid hN; clear hN
        by_cases hlt : j < k
        · obtain ⟨pb, po, B, m, d, l, rfl, hcell, hB, hm, hd, ht, hsk⟩ := hAr.next hlt
          have hNm : N + m ≤ 1099511627776 := by
            rw [ht.out, List.flatten_append, List.length_append, HL.out, HN.out] at hy; simpa [hB.len] using hy
          clear hy hle
          go_wp2_with (at_builtin; refine wpList_append_V _ rfl (.tmp 31) (.tmp 32) 27 rfl w.heap.size 5 i0 (.int .u8 0) 1 Try.underlying27 hi0 hz0 hz1 hz2 rfl _ _ _ rfl hown B m d (bv l) rfl hB (bv_one l) (by omega) (by simp only [maxLen]; omega) hbel.size ?_; intro v1 w1 hown1 hg1 hat1)
          go_roundw
          case rel =>
            refine ⟨j + 1, by omega, by go_num, ?_, below_append hbel hg1 hown hbel.size⟩
            rw [ht.out, List.flatten_append, HL.out, List.length_append, HN.out, bv_append]
            simp only [List.flatten_cons, List.flatten_nil, List.append_nil]
            rw [hB.len]
            exact hown1
          case measure => simp [intOf]; omega
        · obtain rfl : j = k := by omega
          go_wp2_with fail
          go_ret
          refine ⟨_, rfl, ?_, hbel⟩
          rw [hA.all] at HL
          rw [HL.out, HN.out]
          exact hown
end Go.Proofs.Ytcpifcdndhhmgaa
