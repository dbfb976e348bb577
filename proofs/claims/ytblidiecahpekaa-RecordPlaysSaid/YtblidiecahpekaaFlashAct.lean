/- A row of acts as memory; Few. -/
import Derived.Test.YtblidiecahpekaaFlashSame
set_option linter.unusedVariables false
set_option linter.unusedSimpArgs false
namespace Go.Proofs.Ytblidiecahpekaa
open Go.RowKit

structure ActV where
  kind : Int
  s : Int
  p : Int
  n : Int
  b : List UInt8
/-- one act at ⟨g, o⟩: five cells -/
def ActAt (w : World) (g o : Nat) (a : ActV) : Prop :=
  w.cell? ⟨g, o, none⟩ = some (.int .i64 a.kind) ∧ w.cell? ⟨g, o + 1, none⟩ = some (.int .i64 a.s) ∧ w.cell? ⟨g, o + 2, none⟩ = some (.int .i64 a.p) ∧ w.cell? ⟨g, o + 3, none⟩ = some (.int .i64 a.n) ∧
    ∃ B m c, w.cell? ⟨g, o + 4, none⟩ = some (.slice B m c) ∧ Bs w B m a.b ∧ m ≤ c ∧ c ≤ 9223372036854775807
/-- the slice of n acts at A -/
def Acts (w : World) (A : Option Addr) (n : Nat) (l : List ActV) : Prop :=
  l.length = n ∧ (0 < n → ∃ g o, A = some ⟨g, o, none⟩ ∧ ∀ i a, l[i]? = some a → ActAt w g (o + i * 5) a)
theorem ActAt.keep {w w' : World} {g o : Nat} {a : ActV} (h : ActAt w g o a) (hk : Keeps w w') : ActAt w' g o a := by
  obtain ⟨h1, h2, h3, h4, B, m, c, h5, h6, h7⟩ := h
  exact ⟨hk _ _ h1, hk _ _ h2, hk _ _ h3, hk _ _ h4, B, m, c, hk _ _ h5, h6.keep hk, h7⟩
theorem Acts.keep {w w' : World} {A : Option Addr} {n : Nat} {l : List ActV} (h : Acts w A n l) (hk : Keeps w w') : Acts w' A n l :=
  ⟨h.1, fun hn => by
    obtain ⟨g, o, e, hc⟩ := h.2 hn
    exact ⟨g, o, e, fun i a ha => (hc i a ha).keep hk⟩⟩
theorem Acts.next {w : World} {A : Option Addr} {n k : Nat} {l : List ActV} (h : Acts w A n l) (hk : k < n) :
    ∃ g o a, A = some ⟨g, o, none⟩ ∧ ActAt w g (o + k * 5) a ∧ Hid (l.take (k + 1) = l.take k ++ [a]) ∧ Hid (l[k]? = some a) := by
  obtain ⟨g, o, e, hc⟩ := h.2 (by omega)
  have hl : k < l.length := by rw [h.1]; exact hk
  exact ⟨g, o, l[k], e, hc k _ (List.getElem?_eq_getElem hl), take_next hl, List.getElem?_eq_getElem hl⟩
def fewA (l : List ActV) : Bool := l.all fun a => decide (a.b.length ≤ 40)

set_option maxRecDepth 100000 in
set_option maxHeartbeats 1000000 in
theorem few_any (A : Option Addr) (n c : Nat) (l : List ActV) (w : World) (hA : Acts w A n l) (hn : n ≤ c) (hc : c ≤ 9223372036854775807) :
    Calls Try.prog 28 #[.slice A n c] w fun e w' => e = .returned (.bool (fewA l && decide (n ≤ 80))) ∧ w = w' := by
  have hl := Lib.hid hA.1
  go_enter Try.func28, Try.ntmps28
  go_wp2_with fail
  go_loop [2, 3] (fun r i => ∃ (k : Nat), k ≤ n ∧ i = .int .i64 k ∧ r = .bool false ∧ Hid (fewA (l.take k) = true)) (fun _ i => n - (intOf i).toNat)
  case atStart => exact ⟨0, Nat.zero_le _, rfl, rfl, rfl⟩
  case round =>
    obtain ⟨k, hk, rfl, rfl, hf⟩ := hrel
    by_cases hlt : k < n
    · have hk1 : (k : Int) < n := by omega
      have hk0 : (0 : Int) ≤ k := by omega
      obtain ⟨g, o, a, rfl, hat, ht, hx⟩ := hA.next hlt
      obtain ⟨_, _, _, _, B, m, d, c4, hB, hm, hd⟩ := hat
      have hbl := Lib.hid hB.len
      by_cases h40 : 40 < m
      · have h40' : (40 : Int) < m := by omega
        have hff : fewA l = false := by
          unfold fewA
          rw [List.all_eq_false]
          exact ⟨a, List.mem_of_getElem? hx.out, by simp; rw [hbl.out]; exact h40⟩
        have HFF := Lib.hid hff
        clear hff
        go_wp2_with fail
        go_ret
        rw [HFF.out, Bool.false_and]
        exact ⟨rfl, rfl⟩
      · have h40' : ¬ (40 : Int) < m := by omega
        have hf' : Hid (fewA (l.take (k + 1)) = true) := by
          show fewA (l.take (k + 1)) = true
          have := hf.out
          unfold fewA at this ⊢
          rw [ht.out, List.all_append, this]
          simp
          rw [hbl.out]; omega
        go_wp2_with fail
        go_round
        case rel => exact ⟨k + 1, by omega, by go_num, rfl, hf'⟩
        case measure => simp [intOf]; omega
    · obtain rfl : n = k := by omega
      rw [List.take_of_length_le (by rw [hl.out]; exact Nat.le_refl _)] at hf
      by_cases h80 : n ≤ 80
      · have h80' : (n : Int) ≤ 80 := by omega
        go_wp2_with fail
        go_ret
        rw [hf.out]
        exact ⟨rfl, rfl⟩
      · have h80' : ¬ (n : Int) ≤ 80 := by omega
        go_wp2_with fail
        go_ret
        exact ⟨rfl, rfl⟩
end Go.Proofs.Ytblidiecahpekaa
