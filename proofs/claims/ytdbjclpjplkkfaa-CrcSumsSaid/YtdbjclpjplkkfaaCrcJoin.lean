/- few and join of the law's package, slices.Clone, slices.Grow, slices.Concat: what each returns. -/
import Derived.Test.YtdbjclpjplkkfaaChecked
import Derived.Test.YtdbjclpjplkkfaaCrcPlain
import Derived.Test.YtdbjclpjplkkfaaConcat
namespace Go.Proofs.Ytdbjclpjplkkfaa
open Go.RowKit



/-- no part is too long, and they are not too many -/
def fewB (ls : List (List UInt8)) : Bool := ls.all (fun l => decide (l.length ≤ 200)) && decide (ls.length ≤ 12)

set_option maxRecDepth 100000 in
theorem few_any (A : Option Addr) (n c : Nat) (ls : List (List UInt8)) (w : World) (hA : Ps w A n ls) (hn : n ≤ 140737488355328) :
    Calls Try.prog 10 #[.slice A n c] w fun e w' => e = .returned (.bool (fewB ls)) ∧ w = w' := by
  go_enter Try.func10, Try.ntmps10
  go_wp2
  go_loop [2, 3] (fun r i => ∃ (k : Nat), k ≤ n ∧ i = .int .i64 k ∧ r = .bool false ∧ Hid ((ls.take k).all (fun l => decide (l.length ≤ 200)) = true)) (fun _ i => n - (intOf i).toNat)
  case atStart => exact ⟨0, Nat.zero_le _, rfl, rfl, rfl⟩
  case round =>
    obtain ⟨k, hk, rfl, rfl, hc0⟩ := hrel
    by_cases hlt : k < n
    · obtain ⟨pb, po, B, m, d, l, rfl, hcell, hB, hm, hd, hs, hsk⟩ := hA.next hlt
      go_wp2
      · go_ret
        have h : (200 : Int) < m := by assumption
        refine ⟨ret_bool ?_, rfl⟩
        have hl := hB.len
        have : (ls.all fun l => decide (l.length ≤ 200)) = false := by
          rw [List.all_eq_false]
          exact ⟨l, List.mem_of_getElem? hsk.out, by simp; omega⟩
        simp [fewB, this]
      · go_round
        case rel =>
          refine ⟨k + 1, by omega, by go_num, rfl, ?_⟩
          show _ = _
          have hl := hB.len
          rw [hs.out, List.all_append, hc0.out]
          simp; omega
        case measure => simp [intOf]; omega
    · obtain rfl : k = n := by omega
      go_wp2
      go_ret
      refine ⟨ret_bool ?_, rfl⟩
      have := hA.len
      rw [hA.all] at hc0
      unfold fewB
      rw [hc0.out, this]; simp; omega

set_option maxRecDepth 100000 in
theorem join_any (A : Option Addr) (n c : Nat) (ls : List (List UInt8)) (w : World) (hA : Ps w A n ls) (hf : fewB ls = true) :
    Calls Try.prog 11 #[.slice A n c] w fun e w' => ∃ v, e = .returned v ∧ w'.ownsRow w.heap.size 5 1 v ls.flatten.length (bv ls.flatten) ∧ Below w.heap.size w w' := by
  obtain ⟨i0, hi0, hz0, hz1, hz2⟩ := info_parts byteInfo
  have hn : n ≤ 12 := by rw [← hA.len]; simp [fewB] at hf; exact hf.2
  have hall : ∀ k, (ls.take k).flatten.length ≤ 200 * k := by
    intro k
    have hf' : ∀ l ∈ ls, l.length ≤ 200 := by simp [fewB] at hf; exact hf.1
    clear hA hf hn
    induction ls generalizing k with
    | nil => simp
    | cons l ls ih =>
      cases k with
      | zero => simp
      | succ k =>
        have h1 := ih k (fun x hx => hf' x (by simp [hx]))
        have h2 := hf' l (by simp)
        simp only [List.take_succ_cons, List.flatten_cons, List.length_append]
        omega
  go_enter Try.func11, Try.ntmps11
  go_wp2
  go_loopw [3, 4] (fun v i wr => ∃ (k : Nat), k ≤ n ∧ i = .int .i64 k ∧ wr.ownsRow w.heap.size 5 1 v (ls.take k).flatten.length (bv (ls.take k).flatten) ∧ Below w.heap.size w wr) (fun _ i _ => n - (intOf i).toNat)
  case atStart => exact ⟨0, Nat.zero_le _, rfl, World.ownsRow_nil _ _ _ _, Below.refl _ _⟩
  case round =>
    obtain ⟨k, hk, rfl, hown, hbel⟩ := hrel
    have hAr := hA.keep (.of_below hbel)
    have hx := hall k
    generalize hL : (ls.take k).flatten = L at hown hx
    have HL := Lib.hid hL; clear hL
    generalize hN : L.length = N at hown hx
    have HN := Lib.hid hN; clear hN
    by_cases hlt : k < n
    · obtain ⟨pb, po, B, m, d, l, rfl, hcell, hB, hm, hd, hs, hsk⟩ := hAr.next hlt
      have hm200 : m ≤ 200 := by
        rw [← hB.len]; simp [fewB] at hf; exact hf.1 l (List.mem_of_getElem? hsk.out)
      go_wp2_with (at_builtin; refine wpList_append_V _ rfl (.tmp 11) (.tmp 15) 25 rfl w.heap.size 5 i0 (.int .u8 0) 1 Try.underlying25 hi0 hz0 hz1 hz2 rfl _ _ _ rfl hown B m d (bv l) rfl hB (bv_one l) (by omega) (by simp only [maxLen]; omega) hbel.size ?_; intro v1 w1 hown1 hg1 hat1)
      go_roundw
      case rel =>
        refine ⟨k + 1, by omega, by go_num, ?_, below_append hbel hg1 hown hbel.size⟩
        rw [hs.out, List.flatten_append, HL.out, List.length_append, HN.out, bv_append]
        simp only [List.flatten_cons, List.flatten_nil, List.append_nil]
        rw [hB.len]
        exact hown1
      case measure => simp [intOf]; omega
    · obtain rfl : k = n := by omega
      go_wp2
      go_ret
      refine ⟨_, rfl, ?_, hbel⟩
      rw [hA.all] at HL
      rw [HL.out, HN.out]
      exact hown
end Go.Proofs.Ytdbjclpjplkkfaa
