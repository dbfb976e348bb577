/- crc.Seal and the reference's Seal: what each returns. -/
import Derived.Test.YtcpifcdndhhmgaaChecked
import Derived.Test.YtcpifcdndhhmgaaCrcSum
import Derived.Test.YtcpifcdndhhmgaaAppendK
import Derived.Test.YtcpifcdndhhmgaaSealPlain
set_option linter.unusedVariables false
set_option linter.unusedSimpArgs false
namespace Go.Proofs.Ytcpifcdndhhmgaa
open Go.RowKit

theorem seal_any (A : Option Addr) (n c : Nat) (l : List UInt8) (w : World) (hA : Bs w A n l) (hn : n ≤ 65535) (hc : n ≤ c) (hc2 : c ≤ 9223372036854775807) :
    Calls Try.prog 59 #[.slice A n c] w fun e w' => ∃ v, e = .returned v ∧ w'.ownsRow w.heap.size 5 1 v (n + 6) (bv (sealed l)) ∧ Below w.heap.size w w' := by
  go_enter Try.func59, Try.ntmps59
  go_wp2_with (go_at_call 90; refine (crcSum_any _ _ _ [l] _ (Ps.lit1 _ rfl hA hc hc2) (by omega)).mono ?_; rintro e w1 ⟨rfl, rfl⟩)
  refine (concat_any _ _ _ [sealHead l, l] _ ?hP (by omega) ?hs).mono ?_
  case hP =>
    refine Ps.lit2 _ (by simp) (Bs.lit _ (by simp) (sealHead l) rfl ?_) (by omega) (by omega) ((hA.alloc _).alloc _) hc hc2
    have hl := hA.len
    have hh := (crc l).isLt
    simp only [bv, sealHead, List.map_cons, List.map_nil, u8n_toNat, hl]
    rw [Nat.mod_eq_of_lt (a := n / 256) (by omega), Nat.mod_eq_of_lt (a := (crc l).toNat / 16777216) (by omega)]
    simp
  case hs => have hl := hA.len; simp [length_sealHead]; omega
  rintro e w2 ⟨v2, rfl, hown, hb⟩
  go_wp2
  go_ret
  refine ⟨_, rfl, ?_, ?_⟩
  · have hl := hA.len
    have e : [sealHead l, l].flatten = sealed l := by simp [sealed]
    rw [e, length_sealed, hl] at hown
    exact ownsRow_base hown (by simp; omega)
  · exact below_then ((((Below.refl _ w).alloc (Nat.le_refl _) _).alloc (by simp) _).alloc (by simp; omega) _) hb (by simp; omega)

end Go.Proofs.Ytcpifcdndhhmgaa
