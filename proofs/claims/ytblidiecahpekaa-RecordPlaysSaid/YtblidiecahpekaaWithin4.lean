/- A cut between two pieces of code: what stands behind the first, whatever way it took. No program in sight. within of the law's package. -/
import Derived.Test.YtblidiecahpekaaKn
import Derived.Test.YtblidiecahpekaaChecked
import Derived.Test.YtblidiecahpekaaWithin5
set_option linter.unusedVariables false
set_option linter.unusedSimpArgs false
namespace Go.Proofs.Ytblidiecahpekaa
open Go.RowKit
section
variable {P : Program} {Q : Exit → Act → World → Prop} {n : Nat} {L : Slots} {w : World}
def MidK (I : Slots → World → Prop) (n : Nat) (a : Act) (w : World) : Prop := ∃ L, I L w ∧ Kn n L a
theorem kw_cut {x y : Code} (I : Slots → World → Prop) (hx : KW P x (Exit.then (MidK I n) Q) n L w) (h : ∀ L w, I L w → KW P y Q n L w) : KW P (.seq x y) Q n L w := ⟨fun a k => wp_seq (Code.wp_mono (fun e a2 w2 hq => by
  cases e with
  | normal =>
    obtain ⟨L2, hI, k2⟩ := hq
    exact (h L2 w2 hI).h a2 k2
  | _ => exact hq) (hx.h a k))⟩
/-- the same where the first piece stands already alone -/
theorem kw_cutq {x y : Code} (I : Slots → World → Prop) (hx : KW P x (Exit.then (MidK I n) Q) n L w) (h : ∀ L w, I L w → KW P y Q n L w) : KW P x (Exit.then (y.wp P Q) Q) n L w := ⟨fun a k => Code.wp_mono (fun e a2 w2 hq => by
  cases e with
  | normal =>
    obtain ⟨L2, hI, k2⟩ := hq
    exact (h L2 w2 hI).h a2 k2
  | _ => exact hq) (hx.h a k)⟩
theorem kq_cut {I : Slots → World → Prop} (ts : List Nat) (hI : I (nrm L ts) w) : KQ (Exit.then (MidK I n) Q) .normal n L w := ⟨fun a k => ⟨_, hI, k.less ts⟩⟩
end
end Go.Proofs.Ytblidiecahpekaa
set_option linter.unusedVariables false
set_option linter.unusedSimpArgs false
namespace Go.Proofs.Ytblidiecahpekaa
open Go.RowKit

theorem within4_any (x : Int) (n : Nat) (N : Int) (w : World) (hN : N = n) (h0 : 0 < n) (hn : n ≤ 4294967296) :
    Calls Try.prog 44 #[.int .i64 x, .int .i64 N] w fun e w' => e = .returned (.int .i64 (within x n : Int)) ∧ w = w' := by
  subst hN
  have h0' : (0 : Int) < n := by omega
  have h1 : x.tmod n < n := Int.tmod_lt_of_pos x h0'
  have h2 : -(n : Int) < x.tmod n := by
    have := Int.tmod_eq_emod (a := x) (b := n)
    have hc := Int.emod_nonneg x (Int.ne_of_gt h0')
    split at this <;> omega
  have hm := Int.emod_nonneg x (Int.ne_of_gt h0')
  have hW : ((within x n : Nat) : Int) = x % n := by unfold within; omega
  clear hm
  rw [hW]
  clear hW
  go_enter Try.func44, Try.ntmps44
  go_wp2
  · go_ret
    exact ⟨ret_int (emod_neg_ x n (by assumption) h0'), rfl⟩
  · go_ret
    exact ⟨ret_int (emod_pos_ x n (by omega) h0'), rfl⟩
end Go.Proofs.Ytblidiecahpekaa
