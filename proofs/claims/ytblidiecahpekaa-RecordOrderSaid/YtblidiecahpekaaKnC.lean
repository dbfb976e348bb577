/- Rows of bytes made in blocks of one's own; bounds of quotients. A cut between two pieces of code: what stands behind the first, whatever way it took. No program in sight. -/
import Derived.Test.YtblidiecahpekaaLay
import Derived.Test.YtblidiecahpekaaKnApp
import Derived.Test.YtblidiecahpekaaSealPlain
import Derived.Test.YtblidiecahpekaaKnOps
import Derived.Test.YtblidiecahpekaaKn
set_option linter.unusedVariables false
set_option linter.unusedSimpArgs false
namespace Go.Proofs.Ytblidiecahpekaa
open Go.RowKit
theorem u8wrapN (i : Nat) (hi : i < 256) : IntKind.u8.wrap (i : Int) = ((u8n i).toNat : Int) := by
  rw [u8n_toNat]
  show (i : Int) % 256 = _
  omega
theorem tmod_bds (z n : Int) (h0 : 0 < n) : -n < z.tmod n ∧ z.tmod n < n := by
  have h1 : z.tmod n < n := Int.tmod_lt_of_pos z h0
  have := Int.tmod_eq_emod (a := z) (b := n)
  have hc := Int.emod_nonneg z (Int.ne_of_gt h0)
  refine ⟨?_, h1⟩
  split at this <;> omega
theorem tdiv_bds (z : Int) (n : Nat) (hz : -9223372036854775808 ≤ z ∧ z ≤ 9223372036854775807) (h : 2 ≤ n) : -9223372036854775808 ≤ z.tdiv n ∧ z.tdiv n ≤ 9223372036854775807 := by
  have h1 := Int.natAbs_tdiv z (n : Int)
  have h2 : (z.tdiv n).natAbs = z.natAbs / n := h1
  have h3 : z.natAbs / n ≤ z.natAbs / 2 := Nat.div_le_div_left h (by omega)
  omega
theorem kl_makeL {Q : Exit → Act → World → Prop} {n : Nat} {L : Slots} {w0 w : World} {V : Vars} {ops : Array Oper} {rest : List Oper} {o : Oper} {d y k : Nat} (hL : Lay w0 w V) (hd : o.dst = some d) (hg : o.guard = none) (ho : o.op = .makeSlice 32 (.tmp y) (.tmp y)) (hy : lk L y = some (.int .i64 (k : Int))) (hk : k ≤ 140737488355328) (hn : Nat.blt d n = true)
    (h : ∀ g w', g = w.heap.size → Below w.heap.size w w' → Lay w0 w' ((g, (bv (List.replicate k 0)).toArray, 5) :: V) → KL Try.prog ops Q rest n ((d, .slice (some ⟨g, 0, none⟩) k k) :: L) w') : KL Try.prog ops Q (o :: rest) n L w :=
  kl_step hd hg (by simp [ho, okop, okx, hy, hn]) fun K hK => by
    have he : ev L (.tmp y) = .int .i64 (k : Int) := by simp [ev, hy]
    have hr : (execOp (ev L) o).run Try.prog w = .ok (.value (.slice (some ⟨w.heap.size, 0, none⟩) k k)) (w.alloc (.cells (bv (List.replicate k 0)).toArray 5)) := by
      simp [execOp, ho, he, makeBytes k hk, Sem.run_bind, Result.andThen]
    rw [hr]
    exact hK _ _ (h _ _ rfl ((Below.refl _ _).alloc (Nat.le_refl _) _) (hL.alloc _ _))
theorem Lay.bs {w0 w : World} {V : Vars} (h : Lay w0 w V) (i : Nat) {g : Nat} {l : List UInt8} {t : TypeId} (hi : V[i]? = some (g, (bv l).toArray, t)) {n : Nat} (hn : l.length = n) : Bs w (some ⟨g, 0, none⟩) n l := by
  have := Vs.lit (h.at_ i hi) (n := n) (by simp [bv, hn])
  simpa [Bs] using this
end Go.Proofs.Ytblidiecahpekaa
set_option linter.unusedVariables false
set_option linter.unusedSimpArgs false
namespace Go.Proofs.Ytblidiecahpekaa
open Go.RowKit
section
variable {P : Program} {Q : Exit → Act → World → Prop} {n : Nat} {L : Slots} {w : World}
def MidK (I : Slots → World → Prop) (n : Nat) (a : Act) (w : World) : Prop := ∃ L, I L w ∧ Kn n L a
theorem kw_cut {x y : Code} (I : Slots → World → Prop) (hx : KW P x (Exit.then (MidK I n) Q) n L w) (h : ∀ L w, I L w → KW P y Q n L w) : KW P (.seq x y) Q n L w := ⟨fun a k => wp_seq (Code.wp_mono (fun e a2 w2 hq => by
  cases e with
  | normal =>
    obtain ⟨L2, hI, k2⟩ := hq
    exact (h L2 w2 hI).h a2 k2
  | _ => exact hq) (hx.h a k))⟩
/-- the same where the first piece stands already alone -/
theorem kw_cutq {x y : Code} (I : Slots → World → Prop) (hx : KW P x (Exit.then (MidK I n) Q) n L w) (h : ∀ L w, I L w → KW P y Q n L w) : KW P x (Exit.then (y.wp P Q) Q) n L w := ⟨fun a k => Code.wp_mono (fun e a2 w2 hq => by
  cases e with
  | normal =>
    obtain ⟨L2, hI, k2⟩ := hq
    exact (h L2 w2 hI).h a2 k2
  | _ => exact hq) (hx.h a k)⟩
theorem kq_cut {I : Slots → World → Prop} (ts : List Nat) (hI : I (nrm L ts) w) : KQ (Exit.then (MidK I n) Q) .normal n L w := ⟨fun a k => ⟨_, hI, k.less ts⟩⟩
end
end Go.Proofs.Ytblidiecahpekaa
