/- The document's flash memory: its block; what its calls return and leave: the same plain state as the code's. The document's flash memory: New, Stop. -/
import Derived.Test.YtkncomkncfcecaaFlashWalk
set_option linter.unusedVariables false
set_option linter.unusedSimpArgs false
namespace Go.Proofs.Ytkncomkncfcecaa
open Go.RowKit
def rfCells (f : FlashSt) (A : Option Addr) (n c : Nat) : List Value := bv f.S ++ [.int .i64 f.done, .int .i64 f.left, .slice A n c, .bool f.dead]
def RF (Q : Nat → Prop) (W : World) (g : Nat) (f : FlashSt) : Prop :=
  ∃ A n c, W.heap[g]? = some (.cells (rfCells f A n c).toArray 89 (0, 0)) ∧ f.S.length = 6144 ∧ 0 ≤ f.left ∧ f.left ≤ 9223372036854775807 ∧ Bs W A n f.mask ∧ n ≤ c ∧ c ≤ 9223372036854775807 ∧ InQ Q A
theorem rf_get (f : FlashSt) (A : Option Addr) (n c : Nat) (hS : f.S.length = 6144) (j : Nat) : (rfCells f A n c)[6144 + j]? = [.int .i64 f.done, .int .i64 f.left, .slice A n c, .bool f.dead][j]? := by
  unfold rfCells
  rw [List.getElem?_append_right (by rw [Ye, hS]; omega), Ye, hS, Nat.add_sub_cancel_left]
theorem rf_set (f : FlashSt) (A : Option Addr) (n c : Nat) (hS : f.S.length = 6144) (j : Nat) (v : Value) : (rfCells f A n c).toArray.setIfInBounds (6144 + j) v = (bv f.S ++ [.int .i64 f.done, .int .i64 f.left, .slice A n c, .bool f.dead].set j v).toArray := by
  unfold rfCells
  rw [List.setIfInBounds_toArray, List.set_append_right _ _ (by rw [Ye, hS]; omega), Ye, hS, Nat.add_sub_cancel_left]
section
variable {W : World} {g : Nat} {f : FlashSt} {A : Option Addr} {n c : Nat}
theorem rf_done (h : W.heap[g]? = some (.cells (rfCells f A n c).toArray 89 (0, 0))) (hS : f.S.length = 6144) : W.cell? ⟨g, 6144, none⟩ = some (.int .i64 f.done) :=
  Z4 h (by rw [List.getElem?_toArray]; exact rf_get f A n c hS 0)
theorem rf_left (h : W.heap[g]? = some (.cells (rfCells f A n c).toArray 89 (0, 0))) (hS : f.S.length = 6144) : W.cell? ⟨g, 6145, none⟩ = some (.int .i64 f.left) :=
  Z4 h (by rw [List.getElem?_toArray]; exact rf_get f A n c hS 1)
theorem Wh (h : W.heap[g]? = some (.cells (rfCells f A n c).toArray 89 (0, 0))) (hS : f.S.length = 6144) : W.cell? ⟨g, 6146, none⟩ = some (.slice A n c) :=
  Z4 h (by rw [List.getElem?_toArray]; exact rf_get f A n c hS 2)
theorem YQ (h : W.heap[g]? = some (.cells (rfCells f A n c).toArray 89 (0, 0))) (hS : f.S.length = 6144) : W.cell? ⟨g, 6147, none⟩ = some (.bool f.dead) :=
  Z4 h (by rw [List.getElem?_toArray]; exact rf_get f A n c hS 3)
theorem XX (h : W.heap[g]? = some (.cells (rfCells f A n c).toArray 89 (0, 0))) {i : Nat} (hi : i < f.S.length) : W.cell? ⟨g, i, none⟩ = some (.int .u8 ((f.S.getD i 0).toNat : Int)) := by
  refine Z4 h ?_
  rw [List.getElem?_toArray]
  unfold rfCells
  rw [List.getElem?_append_left (by rw [Ye]; exact hi), bv_get _ _ hi]
  simp [hi]
theorem rf_bytes (h : W.heap[g]? = some (.cells (rfCells f A n c).toArray 89 (0, 0))) (off k : Nat) (hk : off + k ≤ f.S.length) : Bs W (some ⟨g, off, none⟩) k ((f.S.drop off).take k) := by
  refine ⟨by simp [bv]; omega, fun _ => ⟨g, off, rfl, fun i u hu => ?_⟩⟩
  have hi : i < k := by
    have := (List.getElem?_eq_some_iff.1 hu).1
    simp [bv] at this
    omega
  have := XX h (i := off + i) (by omega)
  rw [this, ← hu, bv_get _ _ (by simp; omega)]
  simp
  rw [List.getElem?_eq_getElem (by omega)]
  rfl
theorem rf_setDone (hS : f.S.length = 6144) (v : Int) : (rfCells f A n c).toArray.setIfInBounds 6144 (.int .i64 v) = (rfCells { f with done := v } A n c).toArray := rf_set f A n c hS 0 _
theorem rf_setLeft (hS : f.S.length = 6144) (v : Int) : (rfCells f A n c).toArray.setIfInBounds 6145 (.int .i64 v) = (rfCells { f with left := v } A n c).toArray := rf_set f A n c hS 1 _
theorem rf_setMask (hS : f.S.length = 6144) (B : Option Addr) (m d : Nat) (l : List UInt8) : (rfCells f A n c).toArray.setIfInBounds 6146 (.slice B m d) = (rfCells { f with mask := l } B m d).toArray := rf_set f A n c hS 2 _
theorem rf_setDead (hS : f.S.length = 6144) (v : Bool) : (rfCells f A n c).toArray.setIfInBounds 6147 (.bool v) = (rfCells { f with dead := v } A n c).toArray := rf_set f A n c hS 3 _
theorem Xf (i : Nat) (hi : i < f.S.length) (x : UInt8) : (rfCells f A n c).toArray.setIfInBounds i (.int .u8 (x.toNat : Int)) = (rfCells { f with S := f.S.set i x } A n c).toArray := by
  unfold rfCells
  rw [List.setIfInBounds_toArray, List.set_append_left _ _ (by rw [Ye]; exact hi), bv_set']
end
theorem RF.weak {Q Q' : Nat → Prop} {W : World} {g : Nat} {f : FlashSt} (h : RF Q W g f) (hq : ∀ b, Q b → Q' b) : RF Q' W g f := by
  obtain ⟨A, n, c, hg, h1, h2, h3, hB, hn, hc, ha⟩ := h
  exact ⟨A, n, c, hg, h1, h2, h3, hB, hn, hc, fun a e => hq _ (ha a e)⟩
theorem RF.lt {Q : Nat → Prop} {W : World} {g : Nat} {f : FlashSt} (h : RF Q W g f) : g < W.heap.size := by
  obtain ⟨A, n, c, hg, _⟩ := h
  exact (Array.getElem?_eq_some_iff.1 hg).1
theorem RF.below {Q : Nat → Prop} {W W' : World} {g : Nat} {f : FlashSt} (h : RF Q W g f) (hb : Below W.heap.size W W') : RF Q W' g f := by
  obtain ⟨A, n, c, hg, h1, h2, h3, hB, hn, hc, ha⟩ := h
  exact ⟨A, n, c, by rw [hb.block g (Array.getElem?_eq_some_iff.1 hg).1]; exact hg, h1, h2, h3, hB.below hb, hn, hc, ha⟩
theorem RF.other {Q : Nat → Prop} {W W' : World} {g g2 : Nat} {f : FlashSt} (h : RF Q W g f) (hg2 : W.grownBy W' (some g2)) (hne : g ≠ g2) (hQ : ∀ b, Q b → b ≠ g2) : RF Q W' g f := by
  obtain ⟨A, n, c, hg, h1, h2, h3, hB, hn, hc, ha⟩ := h
  refine ⟨A, n, c, ?_, h1, h2, h3, hB.grownKeep hg2 (ha.away hQ), hn, hc, ha⟩
  rw [hg2.block g (Array.getElem?_eq_some_iff.1 hg).1 (fun h => hne (by injection h))]
  exact hg
/-! ### a blank memory is laid -/
def zerosThen : Nat → List Value → Bool
  | 0, [.int .i64 (.ofNat 0), .int .i64 (.ofNat 0), .slice none 0 0, .bool false] => true
  | n + 1, v :: r => zeroByte v && zerosThen n r
  | _, _ => false
theorem zerosThen_eq : ∀ (n : Nat) (l : List Value), zerosThen n l = true → l = List.replicate n (.int .u8 0) ++ [.int .i64 0, .int .i64 0, .slice none 0 0, .bool false]
  | 0, l, h => by
    unfold zerosThen at h
    split at h
    · rfl
    · exfalso; omega
    · cases h
  | n + 1, l, h => by
    unfold zerosThen at h
    split at h
    · exfalso; omega
    · rename_i m v r hm
      injection hm with hm
      subst hm
      simp only [Bool.and_eq_true] at h
      rw [List.replicate_succ, zeroByte_eq h.1, zerosThen_eq n r h.2]
      rfl
    · cases h
def refZeroB (n : Nat) : Value → Bool
  | .agg cs => zerosThen n cs.toList
  | _ => false
theorem refZeroB_eq {n : Nat} {v : Value} (h : refZeroB n v = true) : v = .agg (rfCells ⟨0, 0, [], false, List.replicate n 0⟩ none 0 0).toArray := by
  unfold refZeroB at h
  split at h
  · rename_i cs
    have := zerosThen_eq _ _ h
    congr 1
    apply Array.toList_inj.1
    rw [this]
    show _ = bv (List.replicate n 0) ++ _
    rw [bv_zeros]
  · cases h
set_option maxRecDepth 1000000 in
theorem refZero_ok : ((Try.prog.info? 89).bind (·.zero)).map (refZeroB 6144) = some true := by kernel_rfl
theorem run_zeroRef (w : World) : (zeroValue 89).run Try.prog w = .ok (.agg (rfCells ⟨0, 0, [], false, List.replicate 6144 0⟩ none 0 0).toArray) w := by
  have h := refZero_ok
  cases hi : Try.prog.info? 89 with
  | none => rw [hi] at h; cases h
  | some it =>
    rw [hi] at h
    cases hz : it.zero with
    | none => simp [hz] at h
    | some z =>
      simp only [Option.bind_some, hz, Option.map_some, Option.some.injEq] at h
      rw [← refZeroB_eq h]
      exact zero_run hi hz w
set_option maxRecDepth 100000 in
theorem Wi (Q : Nat → Prop) (g : Nat) (f : FlashSt) (w : World) (h : RF Q w g f) :
    Calls Try.prog 26 #[.pointer (some ⟨g, 0, none⟩)] w fun r w' => r = .returned (.tuple #[]) ∧ RF Q w' g (startF f) ∧ w.grownBy w' (some g) := by
  obtain ⟨A, n, c, hg, hS, hl0, hl1, hB, hn, hc, ha⟩ := h
  have c0 := rf_left hg hS
  have c2 := Wh hg hS
  have c3 := YQ hg hS
  have f0 : w.frozen? ⟨g, 6145, none⟩ = false := Z6 hg
  have f2 : w.frozen? ⟨g, 6146, none⟩ = false := Z6 hg
  have f3 : w.frozen? ⟨g, 6147, none⟩ = false := Z6 hg
  have h1 := ZB (i := 6147) (.bool false) hg
  rw [rf_setDead hS] at h1
  have h2 := ZB (i := 6145) (.int .i64 0) h1
  rw [rf_setLeft (f := { f with dead := false }) hS] at h2
  have h3 := ZB (i := 6146) (.slice none 0 0) h2
  rw [rf_setMask (f := { f with dead := false, left := 0 }) hS none 0 0 []] at h3
  have H3 := Lib.hid h3
  clear hg h1 h2 h3
  go_enter Try.func26, Try.ntmps26
  go_wp2_with fail
  go_end0
  exact ⟨rfl, ⟨none, 0, 0, H3.out, hS, Int.le_refl _, by show (0 : Int) ≤ _; omega, Bs.nil _ _, Nat.le_refl _, by omega, Wz Q⟩, Z0 (ZJ _ _ _ _) (Z0 (ZJ _ _ _ _) (ZJ _ _ _ _))⟩
set_option maxRecDepth 100000 in
theorem refRead_any (Q : Nat → Prop) (g : Nat) (f : FlashSt) (s : Int) (w : World) (h : RF Q w g f) :
    Calls Try.prog 49 #[.pointer (some ⟨g, 0, none⟩), .int .i64 s] w fun r w' => ∃ A n c, r = .returned (.slice A n c) ∧ Bs w' A n (readF f s) ∧ n ≤ c ∧ c ≤ 9223372036854775807 ∧ Below w.heap.size w w' := by
  obtain ⟨A, n, c, hg, hS, hl0, hl1, hB, hn, hc, ha⟩ := h
  by_cases hs : s < 0 ∨ 6 ≤ s
  · rw [show readF f s = [] by unfold readF; rw [if_pos hs]]
    clear hg
    by_cases h0 : s < 0
    · go_enter Try.func49, Try.ntmps49
      go_wp2_with fail
      go_ret
      exact ⟨_, _, _, rfl, Bs.nil _ _, Nat.le_refl _, by omega, Below.refl _ _⟩
    · have h6 : (6 : Int) ≤ s := by omega
      go_enter Try.func49, Try.ntmps49
      go_wp2_with fail
      go_ret
      exact ⟨_, _, _, rfl, Bs.nil _ _, Nat.le_refl _, by omega, Below.refl _ _⟩
  · obtain ⟨k, rfl⟩ : ∃ k : Nat, s = k := ⟨s.toNat, by omega⟩
    have hk : k < 6 := by omega
    have hk1 : (k : Int) < 6 := by omega
    have hk0 : (0 : Int) ≤ k := by omega
    have hb := rf_bytes hg (k * 1024) 1024 (by omega)
    rw [show readF f k = (f.S.drop (k * 1024)).take 1024 by unfold readF; rw [if_neg hs]; rfl]
    have hlen := hb.len
    generalize (f.S.drop (k * 1024)).take 1024 = R at hb hlen ⊢
    have HL := Lib.hid hlen
    clear hg hlen
    go_enter Try.func49, Try.ntmps49
    go_wp2_with (at_builtin; refine cloneB w rfl (.tmp 11) (.tmp 17) rfl _ rfl rfl _ _ _ R rfl hb (by omega) ?_; intro v2 w2 hown2 hb2; obtain ⟨A2, c2, rfl, q1, q2, q3, _⟩ := ZP hown2)
    go_ret
    exact ⟨_, _, _, rfl, q3, q1, by simpa [maxLen] using q2, hb2⟩
end Go.Proofs.Ytkncomkncfcecaa
set_option linter.unusedVariables false
set_option linter.unusedSimpArgs false
namespace Go.Proofs.Ytkncomkncfcecaa
open Go.RowKit
def blankB (k : Nat) : List UInt8 := List.replicate k 255 ++ List.replicate (6144 - k) 0
theorem Vh (k : Nat) (hk : k ≤ 6144) : (blankB k).length = 6144 := by unfold blankB; rw [List.length_append, List.length_replicate, List.length_replicate]; omega
theorem blankB_next (k : Nat) (hk : k < 6144) : (blankB k).set k 255 = blankB (k + 1) := by
  unfold blankB
  rw [List.set_append_right _ _ (by rw [List.length_replicate]; exact Nat.le_refl _), List.length_replicate, Nat.sub_self, show 6144 - k = (6144 - (k + 1)) + 1 by omega, List.replicate_succ (a := (0 : UInt8)), List.set_cons_zero, List.replicate_succ', List.append_assoc]
  rfl
set_option maxRecDepth 100000 in
set_option maxHeartbeats 1000000 in
theorem refNew_any (w : World) : Calls Try.prog 20 #[] w fun r w' => r = .returned (.pointer (some ⟨w.heap.size, 0, none⟩)) ∧ RF (fun _ => False) w' w.heap.size newF ∧ Below w.heap.size w w' := by
  have hbuild := run_zeroRef
  have h0 : List.replicate 6144 (0 : UInt8) = blankB 0 := by unfold blankB; rw [List.replicate_zero, List.nil_append]
  rw [h0] at hbuild
  have hfin : newF = ⟨0, 0, [], false, blankB 6144⟩ := by
    unfold newF blankB
    rw [Nat.sub_self, List.replicate_zero, List.append_nil]
  rw [hfin]
  clear hfin h0
  go_enter Try.func20, Try.ntmps20
  go_wp2_with fail
  go_loopw [2] (fun sv wr => ∃ (s : Nat), s ≤ 6 ∧ sv = .int .i64 s ∧ wr.heap[w.heap.size]? = some (.cells (rfCells ⟨0, 0, [], false, blankB (s * 1024)⟩ none 0 0).toArray 89 (0, 0)) ∧ Below w.heap.size w wr) (fun sv _ => 6 - (intOf sv).toNat)
  case atStart => exact ⟨0, by omega, rfl, heap_alloc_new w _, (Below.refl _ w).alloc (Nat.le_refl _) _⟩
  case round =>
    clear hbuild
    obtain ⟨s, hs, rfl, hg, hbr⟩ := hrel
    by_cases hlt : s < 6
    · have hs1 : (s : Int) < 6 := by omega
      have hs0 : (0 : Int) ≤ s := by omega
      go_wp2_with fail
      go_loopw [3] (fun iv wr => ∃ (i : Nat), i ≤ 1024 ∧ iv = .int .i64 i ∧ wr.heap[w.heap.size]? = some (.cells (rfCells ⟨0, 0, [], false, blankB (s * 1024 + i)⟩ none 0 0).toArray 89 (0, 0)) ∧ Below w.heap.size w wr) (fun iv _ => 1024 - (intOf iv).toNat)
      case atStart => exact ⟨0, by omega, rfl, hg, hbr⟩
      case round =>
        clear hg hbr
        obtain ⟨i, hi, rfl, hg, hbr⟩ := hrel
        by_cases hlt2 : i < 1024
        · have hi1 : (i : Int) < 1024 := by omega
          have hi0 : (0 : Int) ≤ i := by omega
          have hL := Vh (s * 1024 + i) (by omega)
          have c0 := XX hg (i := s * 1024 + i) (by show _ < (blankB (s * 1024 + i)).length; rw [hL]; omega)
          have f0 : wr.frozen? ⟨w.heap.size, s * 1024 + i, none⟩ = false := Z6 hg
          have hg2 := ZB (i := s * 1024 + i) (.int .u8 ((255 : UInt8).toNat : Int)) hg
          rw [Xf _ (by show _ < (blankB (s * 1024 + i)).length; rw [hL]; omega)] at hg2
          dsimp only at hg2
          rw [blankB_next _ (by omega)] at hg2
          have HG2 := Lib.hid hg2
          clear hg hg2 hL
          go_wp2_with fail
          go_roundw
          case rel => exact ⟨i + 1, by omega, by go_num, HG2.out, hbr.setCell (p := ⟨w.heap.size, s * 1024 + i, none⟩) (Nat.le_refl _) _⟩
          case measure => simp [intOf]; omega
        · obtain rfl : i = 1024 := by omega
          rw [show s * 1024 + 1024 = (s + 1) * 1024 by omega] at hg
          have HG := Lib.hid hg
          clear hg
          go_wp2_with fail
          go_roundw
          case rel => exact ⟨s + 1, by omega, by go_num, HG.out, hbr⟩
          case measure => simp [intOf]; omega
    · obtain rfl : s = 6 := by omega
      rw [show 6 * 1024 = 6144 by omega] at hg
      have HG := Lib.hid hg
      clear hg
      go_wp2_with fail
      go_ret
      exact ⟨rfl, ⟨none, 0, 0, HG.out, Vh 6144 (Nat.le_refl _), Int.le_refl _, by show (0 : Int) ≤ _; omega, Bs.nil _ _, Nat.le_refl _, by omega, Wz _⟩, hbr⟩
set_option maxRecDepth 100000 in
theorem WQ (Q : Nat → Prop) (g : Nat) (hQ : ∀ b, Q b → b ≠ g) (f : FlashSt) (x : Int) (B : Option Addr) (m d : Nat) (l : List UInt8) (w : World) (h : RF Q w g f) (hQ2 : ∀ b, w.heap.size ≤ b → Q b) (hx : -9223372036854775808 ≤ x ∧ x ≤ 9223372036854775807) (hB : Bs w B m l) (hm : m ≤ 1099511627776) :
    Calls Try.prog 24 #[.pointer (some ⟨g, 0, none⟩), .int .i64 x, .slice B m d] w fun r w' => r = .returned (.tuple #[]) ∧ RF Q w' g (stopF f x l) ∧ w.grownBy w' (some g) := by
  obtain ⟨A, n, c, hg0, hS, hl0, hl1, hB0, hn, hc, ha⟩ := h
  have HG0 := Lib.hid hg0
  have hglt := (Array.getElem?_eq_some_iff.1 hg0).1
  clear hg0
  go_enter Try.func24, Try.ntmps24
  have key : ∀ (w1 : World) (M : Option Addr) (cm : Nat), Below w.heap.size w w1 →
      Hid (((w1.setCell ⟨g, 6145, none⟩ (.int .i64 (max x 0))).setCell ⟨g, 6146, none⟩ (.slice M m cm)).heap[g]? = some (.cells (rfCells (stopF f x l) M m cm).toArray 89 (0, 0))) ∧ w1.cell? ⟨g, 6145, none⟩ = some (.int .i64 f.left) ∧ w1.cell? ⟨g, 6146, none⟩ = some (.slice A n c) ∧
      w1.frozen? ⟨g, 6145, none⟩ = false ∧ w1.frozen? ⟨g, 6146, none⟩ = false := by
    intro w1 M cm hb
    have hg : w1.heap[g]? = some (.cells (rfCells f A n c).toArray 89 (0, 0)) := by rw [hb.block g hglt]; exact HG0.out
    have h1 := ZB (i := 6145) (.int .i64 (max x 0)) hg
    rw [rf_setLeft hS] at h1
    have h2 := ZB (i := 6146) (.slice M m cm) h1
    rw [rf_setMask (f := { f with left := max x 0 }) hS M m cm l] at h2
    exact ⟨h2, rf_left hg hS, Wh hg hS, Z6 hg, Z6 hg⟩
  have hfin : ∀ (w1 : World) (M : Option Addr) (cm : Nat) (V : World), Below w.heap.size w w1 → w1.ownsRow w.heap.size 5 1 (.slice M m cm) m (bv l) → V = (w1.setCell ⟨g, 6145, none⟩ (.int .i64 (max x 0))).setCell ⟨g, 6146, none⟩ (.slice M m cm) → RF Q V g (stopF f x l) ∧ w.grownBy V (some g) := by
    intro w1 M cm V hb hown hV
    subst hV
    obtain ⟨A2, c2, e, q1, q2, q3, _⟩ := ZP hown
    injection e with e1 _ e3
    subst e1; subst e3
    have hin : InQ (fun b => w.heap.size ≤ b) M := by
      intro a e
      rcases hown.2 with ⟨hv, _⟩ | ⟨g', cap, cur, hv, hb', _⟩
      · injection hv with hv _ _; rw [hv] at e; cases e
      · injection hv with hv _ _; rw [hv] at e; injection e with e; subst e; exact hb'
    have hgr := Z0 (ZJ w1 g 6145 (.int .i64 (max x 0))) (ZJ _ g 6146 (.slice M m cm))
    refine ⟨⟨M, m, cm, (key w1 M cm hb).1.out, hS, by show 0 ≤ max x 0; omega, by show max x 0 ≤ _; omega, ?_, q1, by simpa [maxLen] using q2, fun a e => hQ2 _ (hin a e)⟩, Z0 (Z8 hb _) hgr⟩
    exact Bs.grownKeep q3 hgr (fun a e => Nat.ne_of_gt (Nat.lt_of_lt_of_le hglt (hin a e)))
  by_cases h0 : 0 ≤ x
  · have hmx : max x 0 = x := by omega
    rw [hmx] at key hfin
    clear hmx
    go_wp2_with (at_builtin; refine cloneB w rfl (.tmp 10) (.tmp 11) rfl _ rfl rfl _ _ _ l rfl hB (by omega) ?_; intro v2 w2 hown2 hb2; obtain ⟨A2, c2, rfl, q1, q2, q3, _⟩ := ZP hown2; obtain ⟨k1, k2, k3, k4, k5⟩ := key w2 A2 c2 hb2)
    go_end0
    exact ⟨rfl, hfin w2 A2 c2 _ hb2 hown2 rfl⟩
  · have hmx : max x 0 = 0 := by omega
    rw [hmx] at key hfin
    go_wp2_with (at_builtin; refine cloneB w rfl (.tmp 10) (.tmp 11) rfl _ rfl rfl _ _ _ l rfl hB (by omega) ?_; intro v2 w2 hown2 hb2; obtain ⟨A2, c2, rfl, q1, q2, q3, _⟩ := ZP hown2; obtain ⟨k1, k2, k3, k4, k5⟩ := key w2 A2 c2 hb2)
    go_end0
    exact ⟨rfl, hfin w2 A2 c2 _ hb2 hown2 rfl⟩
end Go.Proofs.Ytkncomkncfcecaa
