/- CrcLong: the walk. -/
import Derived.Test.YtdbjclpjplkkfaaChecked
import Derived.Test.YtdbjclpjplkkfaaCrcKnown
import Derived.Test.YtdbjclpjplkkfaaConcat
import Derived.Test.YtdbjclpjplkkfaaSeal
import Derived.Test.YtdbjclpjplkkfaaLinesWalk
namespace Go.Proofs.Ytdbjclpjplkkfaa
open Go.RowKit

theorem sealed_at0 (l : List UInt8) : (sealed l)[0]? = some (u8n l.length) := rfl
theorem sealed_at1 (l : List UInt8) : (sealed l)[1]? = some (u8n (l.length / 256)) := rfl
theorem sealed_at (l : List UInt8) (i : Nat) : (sealed l)[6 + i]? = l[i]? := by
  unfold sealed
  rw [List.getElem?_append_right (by rw [length_sealHead]; omega), length_sealHead, Nat.add_sub_cancel_left]

theorem long0 {w : World} {base g c n : Nat} {l : List UInt8} (h : w.ownsRow base 5 1 (.slice (some ⟨g, 0, none⟩) (n + 6) c) (n + 6) (bv (sealed l))) (hl : l.length = n) : w.cell? ⟨g, 0, none⟩ = some (.int .u8 ((n : Int) % 256)) := by
  rw [own_cell h (sealed_at0 l), u8n_toNat, hl]; simp
theorem long1 {w : World} {base g c n : Nat} {l : List UInt8} (h : w.ownsRow base 5 1 (.slice (some ⟨g, 0, none⟩) (n + 6) c) (n + 6) (bv (sealed l))) (hl : l.length = n) (hn : n ≤ 65535) : w.cell? ⟨g, 1, none⟩ = some (.int .u8 ((n : Int) / 256)) := by
  rw [own_cell h (sealed_at1 l), u8n_toNat, hl, Nat.mod_eq_of_lt (by omega)]; simp
theorem long5 {w : World} {base g c n : Nat} {l : List UInt8} {u : UInt8} (h : w.ownsRow base 5 1 (.slice (some ⟨g, 0, none⟩) (n + 6) c) (n + 6) (bv (sealed l))) (hl : l[n - 1]? = some u) (hn : 0 < n) : w.cell? ⟨g, n + 5, none⟩ = some (.int .u8 (u.toNat : Int)) := by
  have := sealed_at l (n - 1)
  rw [hl, show 6 + (n - 1) = n + 5 by omega] at this
  exact own_cell h this

set_option maxRecDepth 100000 in
set_option maxHeartbeats 1000000 in
theorem crcLong_top (x : Int) (y : Int) (u : UInt8) (w : World) (_ : -9223372036854775808 ≤ x ∧ x ≤ 9223372036854775807) (hu : y = (u.toNat : Int)) :
    Calls Try.prog 6 #[.int .i64 x, .int .u8 y] w fun e w' => e = .returned (.bool true) ∧ Below w.heap.size w w' := by
  subst hu
  have hk := within_lt x 5 (by omega)
  obtain ⟨n, hn⟩ : ∃ n, n = 65533 + within x 5 := ⟨_, rfl⟩
  have hmk := makeBytes n (by omega)
  have hn1 : 65533 ≤ n := by omega
  have hn2 : n ≤ 65537 := by omega
  have hwn : (65533 : Int) + (within x 5 : Int) = (n : Int) := by omega
  clear hn hk
  go_enter Try.func6, Try.ntmps6
  go_upto_region 5 with (first
    | (go_at_call 9; refine Calls.mono (known_any _) ?_; rintro e w1 ⟨rfl, hb1⟩)
    | (go_at_call 12; refine Calls.mono (within_any x 5 _ _ rfl (by omega) (by omega)) ?_; rintro e _ ⟨rfl, rfl⟩))
  have i0 : (0 : Int) ≤ (n : Int) - 1 := by omega
  have i1 : (n : Int) - 1 < n := by omega
  have hcell : ((bv (List.replicate n 0)).toArray)[n - 1]? = some (.int .u8 0) := bv_at (x := 0) (by rw [List.getElem?_replicate, if_pos (by omega)])
  go_upto_region 6 with fail
  rw [bv_set']
  generalize hl : (List.replicate n (0 : UInt8)).set (n - 1) u = l
  have hll : l.length = n := by rw [← hl, List.length_set, List.length_replicate]
  have hlast : l[n - 1]? = some u := by
    rw [← hl, List.getElem?_set]
    simp; omega
  clear hl hmk hwn hcell
  have bl : Bs (w1.alloc (.cells (bv l).toArray 5)) (some ⟨w1.heap.size, 0, none⟩) n l := Bs.lit _ rfl l hll.symm rfl
  have hb2 := hb1.alloc hb1.size (.cells (bv l).toArray 5)
  generalize w1.alloc (.cells (bv l).toArray 5) = w2 at bl hb2
  by_cases hbig : 65535 < n
  · go_wp2_with (go_at_call 15; refine Calls.mono (seal_none _ _ _ _ hbig (by omega)) ?_; rintro e _ ⟨rfl, rfl⟩)
    go_ret
    exact ⟨rfl, hb2⟩
  · go_wp2_with (go_at_call 15; refine Calls.mono (seal_any _ _ _ l _ bl (by omega) (by omega) (by omega)) ?_; rintro e w3 ⟨v3, rfl, hown3, hb3⟩; obtain ⟨g, d, rfl, hg1, hg2, hd1, hd2⟩ := own_form hown3 (by omega); have c0 := long0 hown3 hll; have c1 := long1 hown3 hll (by omega); have c5 := long5 hown3 hlast (by omega); clear hown3 hll hlast)
    go_ret
    exact ⟨rfl, hb2.trans (hb3.mono hb2.size)⟩
end Go.Proofs.Ytdbjclpjplkkfaa
