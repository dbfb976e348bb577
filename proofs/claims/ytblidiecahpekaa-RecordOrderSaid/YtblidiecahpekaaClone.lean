/- slices.Clone at bytes. -/
import Derived.Test.YtblidiecahpekaaKnApp
import Derived.Lib.AppendZerosOnto
import Derived.Lib.SliceRun
set_option linter.unusedVariables false
set_option linter.unusedSimpArgs false
namespace Go.Proofs.Ytblidiecahpekaa
open Go.RowKit



theorem clone_any (A : Option Addr) (n c : Nat) (l : List UInt8) (w : World) (hA : Bs w A n l) (hn : n ≤ 140737488355328) :
    Calls Try.prog 53 #[.slice A n c] w fun e w' => ∃ v, e = .returned v ∧ w'.ownsRow w.heap.size 5 1 v n (bv l) ∧ Below w.heap.size w w' := by
  obtain ⟨i0, hi0, hz0, hz1, hz2⟩ := info_parts byteInfo
  have hnil := fun W => Lib.run_eql_slice_nil (P := Try.prog) W 32 5 A n c 0 0 Try.underlying32
  rcases A with _ | ad
  · have h0 : n = 0 := by
      rcases Nat.eq_zero_or_pos n with h | h
      · exact h
      · obtain ⟨_, _, h, _⟩ := hA.2 h; cases h
    subst h0
    have hl : l = [] := List.eq_nil_of_length_eq_zero hA.len
    subst hl
    clear hA
    go_enter Try.func53, Try.ntmps53
    go_wp2
    go_ret
    exact ⟨_, rfl, World.ownsRow_nil _ _ _ _, Below.refl _ _⟩
  · go_enter Try.func53, Try.ntmps53
    go_wp2_with (at_builtin; refine wpList_append_V _ rfl (.tmp 5) (.tmp 6) 32 rfl w.heap.size 5 i0 (.int .u8 0) 1 Try.underlying32 hi0 hz0 hz1 hz2 rfl (.slice (some ⟨w.heap.size, 0, none⟩) 0 0) 0 [] rfl (World.ownsRow_made w #[] 0 (Nat.le_refl _) (by simp [maxLen]) rfl) (some ad) n c (bv l) rfl (hA.alloc _) (bv_one l) (by omega) (by simp only [maxLen]; omega) (by simp) ?_; intro v1 w1 hown1 hg1 hat1)
    go_ret
    have hb := (Below.refl w.heap.size w).alloc (Nat.le_refl _) (.cells #[] 5)
    rw [Nat.zero_add, List.nil_append] at hown1
    exact ⟨_, rfl, hown1, hb.grown hg1 (by simp) (by simp [Value.ownBlock])⟩
end Go.Proofs.Ytblidiecahpekaa
