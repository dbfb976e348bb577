/- The document's flash memory: New, Stop. -/
import Derived.Test.YtcpifcdndhhmgaaCrcSum
set_option linter.unusedVariables false
set_option linter.unusedSimpArgs false
namespace Go.Proofs.Ytcpifcdndhhmgaa
open Go.RowKit

/-- the first k bytes blank, the others not yet -/
def blankB (k : Nat) : List UInt8 := List.replicate k 255 ++ List.replicate (6144 - k) 0
theorem length_blankB (k : Nat) (hk : k ≤ 6144) : (blankB k).length = 6144 := by unfold blankB; rw [List.length_append, List.length_replicate, List.length_replicate]; omega
theorem blankB_next (k : Nat) (hk : k < 6144) : (blankB k).set k 255 = blankB (k + 1) := by
  unfold blankB
  rw [List.set_append_right _ _ (by rw [List.length_replicate]; exact Nat.le_refl _), List.length_replicate, Nat.sub_self, show 6144 - k = (6144 - (k + 1)) + 1 by omega, List.replicate_succ (a := (0 : UInt8)), List.set_cons_zero, List.replicate_succ', List.append_assoc]
  rfl
set_option maxRecDepth 100000 in
set_option maxHeartbeats 1000000 in
theorem refNew_any (w : World) : Calls Try.prog 18 #[] w fun r w' => r = .returned (.pointer (some ⟨w.heap.size, 0, none⟩)) ∧ RF (fun _ => False) w' w.heap.size newF ∧ Below w.heap.size w w' := by
  have hbuild := run_zeroRef
  have h0 : List.replicate 6144 (0 : UInt8) = blankB 0 := by unfold blankB; rw [List.replicate_zero, List.nil_append]
  rw [h0] at hbuild
  have hfin : newF = ⟨0, 0, [], false, blankB 6144⟩ := by
    unfold newF blankB
    rw [Nat.sub_self, List.replicate_zero, List.append_nil]
  rw [hfin]
  clear hfin h0
  go_enter Try.func18, Try.ntmps18
  go_wp2_with fail
  go_loopw [2] (fun sv wr => ∃ (s : Nat), s ≤ 6 ∧ sv = .int .i64 s ∧ wr.heap[w.heap.size]? = some (.cells (rfCells ⟨0, 0, [], false, blankB (s * 1024)⟩ none 0 0).toArray 85 (0, 0)) ∧ Below w.heap.size w wr) (fun sv _ => 6 - (intOf sv).toNat)
  case atStart => exact ⟨0, by omega, rfl, heap_alloc_new w _, (Below.refl _ w).alloc (Nat.le_refl _) _⟩
  case round =>
    clear hbuild
    obtain ⟨s, hs, rfl, hg, hbr⟩ := hrel
    by_cases hlt : s < 6
    · have hs1 : (s : Int) < 6 := by omega
      have hs0 : (0 : Int) ≤ s := by omega
      go_wp2_with fail
      go_loopw [3] (fun iv wr => ∃ (i : Nat), i ≤ 1024 ∧ iv = .int .i64 i ∧ wr.heap[w.heap.size]? = some (.cells (rfCells ⟨0, 0, [], false, blankB (s * 1024 + i)⟩ none 0 0).toArray 85 (0, 0)) ∧ Below w.heap.size w wr) (fun iv _ => 1024 - (intOf iv).toNat)
      case atStart => exact ⟨0, by omega, rfl, hg, hbr⟩
      case round =>
        clear hg hbr
        obtain ⟨i, hi, rfl, hg, hbr⟩ := hrel
        by_cases hlt2 : i < 1024
        · have hi1 : (i : Int) < 1024 := by omega
          have hi0 : (0 : Int) ≤ i := by omega
          have hL := length_blankB (s * 1024 + i) (by omega)
          have c0 := rf_byte hg (i := s * 1024 + i) (by show _ < (blankB (s * 1024 + i)).length; rw [hL]; omega)
          have f0 : wr.frozen? ⟨w.heap.size, s * 1024 + i, none⟩ = false := free_of_block hg
          have hg2 := block_setCell (i := s * 1024 + i) (.int .u8 ((255 : UInt8).toNat : Int)) hg
          rw [rf_setByte _ (by show _ < (blankB (s * 1024 + i)).length; rw [hL]; omega)] at hg2
          dsimp only at hg2
          rw [blankB_next _ (by omega)] at hg2
          have HG2 := Lib.hid hg2
          clear hg hg2 hL
          go_wp2_with fail
          go_roundw
          case rel => exact ⟨i + 1, by omega, by go_num, HG2.out, hbr.setCell (p := ⟨w.heap.size, s * 1024 + i, none⟩) (Nat.le_refl _) _⟩
          case measure => simp [intOf]; omega
        · obtain rfl : i = 1024 := by omega
          rw [show s * 1024 + 1024 = (s + 1) * 1024 by omega] at hg
          have HG := Lib.hid hg
          clear hg
          go_wp2_with fail
          go_roundw
          case rel => exact ⟨s + 1, by omega, by go_num, HG.out, hbr⟩
          case measure => simp [intOf]; omega
    · obtain rfl : s = 6 := by omega
      rw [show 6 * 1024 = 6144 by omega] at hg
      have HG := Lib.hid hg
      clear hg
      go_wp2_with fail
      go_ret
      exact ⟨rfl, ⟨none, 0, 0, HG.out, length_blankB 6144 (Nat.le_refl _), Int.le_refl _, by show (0 : Int) ≤ _; omega, Bs.nil _ _, Nat.le_refl _, by omega, inQ_none _⟩, hbr⟩

set_option maxRecDepth 100000 in
theorem refStop_any (Q : Nat → Prop) (g : Nat) (hQ : ∀ b, Q b → b ≠ g) (f : FlashSt) (x : Int) (B : Option Addr) (m d : Nat) (l : List UInt8) (w : World) (h : RF Q w g f) (hQ2 : ∀ b, w.heap.size ≤ b → Q b) (hx : -9223372036854775808 ≤ x ∧ x ≤ 9223372036854775807) (hB : Bs w B m l) (hm : m ≤ 1099511627776) :
    Calls Try.prog 22 #[.pointer (some ⟨g, 0, none⟩), .int .i64 x, .slice B m d] w fun r w' => r = .returned (.tuple #[]) ∧ RF Q w' g (stopF f x l) ∧ w.grownBy w' (some g) := by
  obtain ⟨A, n, c, hg0, hS, hl0, hl1, hB0, hn, hc, ha⟩ := h
  have HG0 := Lib.hid hg0
  have hglt := (Array.getElem?_eq_some_iff.1 hg0).1
  clear hg0
  go_enter Try.func22, Try.ntmps22
  have key : ∀ (w1 : World) (M : Option Addr) (cm : Nat), Below w.heap.size w w1 →
      Hid (((w1.setCell ⟨g, 6145, none⟩ (.int .i64 (max x 0))).setCell ⟨g, 6146, none⟩ (.slice M m cm)).heap[g]? = some (.cells (rfCells (stopF f x l) M m cm).toArray 85 (0, 0))) ∧ w1.cell? ⟨g, 6145, none⟩ = some (.int .i64 f.left) ∧ w1.cell? ⟨g, 6146, none⟩ = some (.slice A n c) ∧
      w1.frozen? ⟨g, 6145, none⟩ = false ∧ w1.frozen? ⟨g, 6146, none⟩ = false := by
    intro w1 M cm hb
    have hg : w1.heap[g]? = some (.cells (rfCells f A n c).toArray 85 (0, 0)) := by rw [hb.block g hglt]; exact HG0.out
    have h1 := block_setCell (i := 6145) (.int .i64 (max x 0)) hg
    rw [rf_setLeft hS] at h1
    have h2 := block_setCell (i := 6146) (.slice M m cm) h1
    rw [rf_setMask (f := { f with left := max x 0 }) hS M m cm l] at h2
    exact ⟨h2, rf_left hg hS, rf_mask hg hS, free_of_block hg, free_of_block hg⟩
  have hfin : ∀ (w1 : World) (M : Option Addr) (cm : Nat) (V : World), Below w.heap.size w w1 → w1.ownsRow w.heap.size 5 1 (.slice M m cm) m (bv l) → V = (w1.setCell ⟨g, 6145, none⟩ (.int .i64 (max x 0))).setCell ⟨g, 6146, none⟩ (.slice M m cm) → RF Q V g (stopF f x l) ∧ w.grownBy V (some g) := by
    intro w1 M cm V hb hown hV
    subst hV
    obtain ⟨A2, c2, e, q1, q2, q3, _⟩ := own_slice hown
    injection e with e1 _ e3
    subst e1; subst e3
    have hin : InQ (fun b => w.heap.size ≤ b) M := by
      intro a e
      rcases hown.2 with ⟨hv, _⟩ | ⟨g', cap, cur, hv, hb', _⟩
      · injection hv with hv _ _; rw [hv] at e; cases e
      · injection hv with hv _ _; rw [hv] at e; injection e with e; subst e; exact hb'
    have hgr := grown_trans (grown_set w1 g 6145 (.int .i64 (max x 0))) (grown_set _ g 6146 (.slice M m cm))
    refine ⟨⟨M, m, cm, (key w1 M cm hb).1.out, hS, by show 0 ≤ max x 0; omega, by show max x 0 ≤ _; omega, ?_, q1, by simpa [maxLen] using q2, fun a e => hQ2 _ (hin a e)⟩, grown_trans (grown_below hb _) hgr⟩
    exact Bs.grownKeep q3 hgr (fun a e => Nat.ne_of_gt (Nat.lt_of_lt_of_le hglt (hin a e)))
  by_cases h0 : 0 ≤ x
  · have hmx : max x 0 = x := by omega
    rw [hmx] at key hfin
    clear hmx
    go_wp2_with (at_builtin; refine cloneB w rfl (.tmp 10) (.tmp 11) rfl _ rfl rfl _ _ _ l rfl hB (by omega) ?_; intro v2 w2 hown2 hb2; obtain ⟨A2, c2, rfl, q1, q2, q3, _⟩ := own_slice hown2; obtain ⟨k1, k2, k3, k4, k5⟩ := key w2 A2 c2 hb2)
    go_end0
    exact ⟨rfl, hfin w2 A2 c2 _ hb2 hown2 rfl⟩
  · have hmx : max x 0 = 0 := by omega
    rw [hmx] at key hfin
    go_wp2_with (at_builtin; refine cloneB w rfl (.tmp 10) (.tmp 11) rfl _ rfl rfl _ _ _ l rfl hB (by omega) ?_; intro v2 w2 hown2 hb2; obtain ⟨A2, c2, rfl, q1, q2, q3, _⟩ := own_slice hown2; obtain ⟨k1, k2, k3, k4, k5⟩ := key w2 A2 c2 hb2)
    go_end0
    exact ⟨rfl, hfin w2 A2 c2 _ hb2 hown2 rfl⟩
end Go.Proofs.Ytcpifcdndhhmgaa
