/- The flash memory's exported functions: what each returns and leaves. -/
import Derived.Test.YtkncomkncfcecaaFlashWalk
set_option linter.unusedVariables false
set_option linter.unusedSimpArgs false
namespace Go.Proofs.Ytkncomkncfcecaa
open Go.RowKit
theorem dead_any (Q : Nat → Prop) (g : Nat) (f : FlashSt) (w : World) (h : FS Q w g f) :
    Calls Try.prog 50 #[.pointer (some ⟨g, 0, none⟩)] w fun r w' => r = .returned (.bool f.dead) ∧ w = w' := by
  obtain ⟨A, n, c, hg, hS, hl0, hl1, hB, hn, hc, ha⟩ := h
  have c3 := fl_dead hg
  clear hg
  go_enter Try.func50, Try.ntmps50
  go_wp2_with fail
  go_ret
  exact ⟨rfl, rfl⟩
theorem ops_any (Q : Nat → Prop) (g : Nat) (f : FlashSt) (w : World) (h : FS Q w g f) :
    Calls Try.prog 19 #[.pointer (some ⟨g, 0, none⟩)] w fun r w' => r = .returned (.int .i64 f.done) ∧ w = w' := by
  obtain ⟨A, n, c, hg, hS, hl0, hl1, hB, hn, hc, ha⟩ := h
  have c1 := fl_done hg
  clear hg
  go_enter Try.func19, Try.ntmps19
  go_wp2_with fail
  go_ret
  exact ⟨rfl, rfl⟩
set_option maxRecDepth 100000 in
theorem start_any (Q : Nat → Prop) (g : Nat) (f : FlashSt) (w : World) (h : FS Q w g f) :
    Calls Try.prog 25 #[.pointer (some ⟨g, 0, none⟩)] w fun r w' => r = .returned (.tuple #[]) ∧ FS Q w' g (startF f) ∧ w.grownBy w' (some g) := by
  obtain ⟨A, n, c, hg, hS, hl0, hl1, hB, hn, hc, ha⟩ := h
  have c0 := WR hg
  have c2 := fl_mask hg
  have c3 := fl_dead hg
  have f0 : w.frozen? ⟨g, 0, none⟩ = false := Z6 hg
  have f2 : w.frozen? ⟨g, 2, none⟩ = false := Z6 hg
  have f3 : w.frozen? ⟨g, 3, none⟩ = false := Z6 hg
  have h1 := ZB (i := 0) (.int .i64 0) hg
  rw [fl_setLeft] at h1
  have h2 := ZB (i := 2) (.slice none 0 0) h1
  rw [fl_setMask none 0 0 []] at h2
  have h3 := ZB (i := 3) (.bool false) h2
  rw [fl_setDead] at h3
  have H3 := Lib.hid h3
  clear hg h1 h2 h3
  go_enter Try.func25, Try.ntmps25
  go_wp2_with fail
  go_end0
  exact ⟨rfl, ⟨none, 0, 0, H3.out, hS, Int.le_refl _, by show (0 : Int) ≤ _; omega, Bs.nil _ _, Nat.le_refl _, by omega, Wz Q⟩, Z0 (ZJ _ _ _ _) (Z0 (ZJ _ _ _ _) (ZJ _ _ _ _))⟩
set_option maxRecDepth 100000 in
theorem stop_any (Q : Nat → Prop) (g : Nat) (f : FlashSt) (x : Int) (B : Option Addr) (m d : Nat) (l : List UInt8) (w : World) (h : FS Q w g f) (hQ2 : ∀ b, w.heap.size ≤ b → Q b) (hx : -9223372036854775808 ≤ x ∧ x ≤ 9223372036854775807) (hB : Bs w B m l) (hm : m ≤ 1099511627776) :
    Calls Try.prog 23 #[.pointer (some ⟨g, 0, none⟩), .int .i64 x, .slice B m d] w fun r w' => r = .returned (.tuple #[]) ∧ FS Q w' g (stopF f x l) ∧ w.grownBy w' (some g) := by
  obtain ⟨A, n, c, hg0, hS, hl0, hl1, hB0, hn, hc, ha⟩ := h
  have HG0 := Lib.hid hg0
  clear hg0
  go_enter Try.func23, Try.ntmps23
  have key : ∀ w1 : World, Below w.heap.size w w1 → w1.heap[w.heap.size]? = some (.cells (bv l).toArray 5 (0, 0)) →
      Hid (((w1.setCell ⟨g, 0, none⟩ (.int .i64 (max x 0))).setCell ⟨g, 2, none⟩ (.slice (some ⟨w.heap.size, 0, none⟩) m m)).heap[g]? = some (.cells (flashCells (stopF f x l) (some ⟨w.heap.size, 0, none⟩) m m).toArray 52 (0, 0))) ∧ w1.cell? ⟨g, 0, none⟩ = some (.int .i64 f.left) ∧ w1.cell? ⟨g, 2, none⟩ = some (.slice A n c) ∧
      w1.frozen? ⟨g, 0, none⟩ = false ∧ w1.frozen? ⟨g, 2, none⟩ = false ∧ Bs ((w1.setCell ⟨g, 0, none⟩ (.int .i64 (max x 0))).setCell ⟨g, 2, none⟩ (.slice (some ⟨w.heap.size, 0, none⟩) m m)) (some ⟨w.heap.size, 0, none⟩) m l := by
    intro w1 hb hh
    have hglt := (Array.getElem?_eq_some_iff.1 HG0.out).1
    have hg : w1.heap[g]? = some (.cells (flashCells f A n c).toArray 52 (0, 0)) := by rw [hb.block g hglt]; exact HG0.out
    have h1 := ZB (i := 0) (.int .i64 (max x 0)) hg
    rw [fl_setLeft] at h1
    have h2 := ZB (i := 2) (.slice (some ⟨w.heap.size, 0, none⟩) m m) h1
    rw [fl_setMask _ _ _ l] at h2
    refine ⟨h2, WR hg, fl_mask hg, Z6 hg, Z6 hg, ?_⟩
    have hb1 : Bs w1 (some ⟨w.heap.size, 0, none⟩) m l := by
      have := Vs.lit (n := m) hh (by have := hB.len; simp [bv]; exact this)
      simpa [Bs] using this
    exact hb1.grownKeep (Z0 (ZJ _ _ _ _) (ZJ _ _ _ _)) (fun a e => by injection e with e; subst e; exact Nat.ne_of_gt hglt)
  have hml : m ≤ 9223372036854775807 := by omega
  by_cases h0 : 0 ≤ x
  · have hmx : max x 0 = x := by omega
    rw [hmx] at key
    clear hmx
    go_wp2_with (go_at_call 40; refine Calls.mono (bytes_any _ _ _ l _ hB hm) ?_; rintro r w1 ⟨rfl, hh, hb1, hlt1⟩; obtain ⟨k1, k2, k3, k4, k5, k6⟩ := key w1 hb1 hh)
    go_end0
    exact ⟨rfl, ⟨_, _, _, k1.out, hS, by show 0 ≤ max x 0; omega, by show max x 0 ≤ _; omega, k6, Nat.le_refl _, hml, fun a e => by injection e with e; subst e; exact hQ2 _ (Nat.le_refl _)⟩, Z0 (Z8 hb1 _) (Z0 (ZJ _ _ _ _) (ZJ _ _ _ _))⟩
  · have hmx : max x 0 = 0 := by omega
    rw [hmx] at key
    go_wp2_with (go_at_call 40; refine Calls.mono (bytes_any _ _ _ l _ hB hm) ?_; rintro r w1 ⟨rfl, hh, hb1, hlt1⟩; obtain ⟨k1, k2, k3, k4, k5, k6⟩ := key w1 hb1 hh)
    go_end0
    exact ⟨rfl, ⟨_, _, _, k1.out, hS, by show 0 ≤ max x 0; omega, by show max x 0 ≤ _; omega, k6, Nat.le_refl _, hml, fun a e => by injection e with e; subst e; exact hQ2 _ (Nat.le_refl _)⟩, Z0 (Z8 hb1 _) (Z0 (ZJ _ _ _ _) (ZJ _ _ _ _))⟩
set_option maxRecDepth 100000 in
theorem read_any (Q : Nat → Prop) (g : Nat) (f : FlashSt) (s : Int) (w : World) (h : FS Q w g f) :
    Calls Try.prog 16 #[.pointer (some ⟨g, 0, none⟩), .int .i64 s] w fun r w' => ∃ A n c, r = .returned (.slice A n c) ∧ Bs w' A n (readF f s) ∧ n ≤ c ∧ c ≤ 1024 ∧ Below w.heap.size w w' := by
  obtain ⟨A, n, c, hg, hS, hl0, hl1, hB, hn, hc, ha⟩ := h
  by_cases hs : s < 0 ∨ 6 ≤ s
  · have hi := is_any s w
    rw [decide_eq_true hs] at hi
    rw [show readF f s = [] by unfold readF; rw [if_pos hs]]
    have HG := Lib.hid hg
    clear hg
    go_enter Try.func16, Try.ntmps16
    go_wp2_with (go_at_call 39; refine Calls.mono hi ?_; rintro r _ ⟨rfl, rfl⟩)
    go_ret
    exact ⟨_, _, _, rfl, Bs.nil _ _, Nat.le_refl _, by omega, Below.refl _ _⟩
  · obtain ⟨k, rfl⟩ : ∃ k : Nat, s = k := ⟨s.toNat, by omega⟩
    have hk : k < 6 := by omega
    have hk1 : (k : Int) < 6 := by omega
    have hk0 : (0 : Int) ≤ k := by omega
    have hi := is_any (k : Int) w
    rw [decide_eq_false hs] at hi
    have hb := fl_bytes hg (k * 1024) 1024 (by omega)
    rw [show readF f k = (f.S.drop (k * 1024)).take 1024 by unfold readF; rw [if_neg hs]; rfl]
    have HG := Lib.hid hg
    have c0 := WR hg
    clear hg
    go_enter Try.func16, Try.ntmps16
    go_wp2_with (go_at_call 39; refine Calls.mono hi ?_; rintro r _ ⟨rfl, rfl⟩)
    refine Calls.mono (bytes_any _ _ _ _ _ hb (by omega)) ?_
    rintro r w1 ⟨rfl, hh, hb1, hlt1⟩
    go_wp2_with fail
    go_ret
    have hlen := hb.len
    refine ⟨_, _, _, rfl, ?_, Nat.le_refl _, Nat.le_refl _, hb1⟩
    have := Vs.lit (n := 1024) hh (by simp [bv]; omega)
    simpa [Bs] using this
end Go.Proofs.Ytkncomkncfcecaa
