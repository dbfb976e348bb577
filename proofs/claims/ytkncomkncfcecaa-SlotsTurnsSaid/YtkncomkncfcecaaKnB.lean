/- A region that draws its order: an operation that stores. No program in sight. The document's sum written out: a region of four stores. The document's sum: memory on its way; pieces of its code. The document's sum: sixteen words of a piece. The document's sum: the other words of a piece. The document's sum: the rounds of a piece. The document's sum: the rounds are added. The document's sum: the pieces, one behind the other. The document's sum: written out. The document's sum: its contract. The sparse walk's laws for a variable of one cell: boxed, laid; and for a function value made. No program  -/
import Derived.Test.YtkncomkncfcecaaRegionL
import Derived.Test.YtkncomkncfcecaaShaSum
import Derived.Test.YtkncomkncfcecaaKnOps
import Derived.Test.YtkncomkncfcecaaKn
import Derived.RangeFuncBox
set_option linter.unusedVariables false
set_option linter.unusedSimpArgs false
namespace Go.Proofs.Ytkncomkncfcecaa
open Go.RowKit
section
variable {P : Program} {ops : List Oper} {Q : Exit → Act → World → Prop} {a : Act} {Ss : List SPred} {R : (Nat → Bool) → World → Prop}
end
end Go.Proofs.Ytkncomkncfcecaa
set_option linter.unusedVariables false
set_option linter.unusedSimpArgs false
namespace Go.Proofs.Ytkncomkncfcecaa
open Go.RowKit

def sI (b : Bool) (i : Nat) (x : UInt8) (l : List UInt8) : List UInt8 := if b = true then l.set i x else l
def outL (k : Nat) (F : List W32) (x0 x1 x2 x3 : UInt8) (L : Nat → Bool) : List UInt8 :=
  sI (L 37) (4 * k + 3) x3 (sI (L 35) (4 * k + 2) x2 (sI (L 33) (4 * k + 1) x1 (sI (L 31) (4 * k) x0 (outB F (4 * k) ++ List.replicate (32 - 4 * k) 0))))
/-- memory while some of the four are stored -/
def OutR (B : World) (g2 g4 g7 k : Nat) (F : List W32) (x0 x1 x2 x3 : UInt8) (L : Nat → Bool) (W : World) : Prop :=
  Below B.heap.size B W ∧ B.heap.size ≤ g7 ∧ g2 ≠ g7 ∧ g4 ≠ g7 ∧ k < 8 ∧ W.heap[g2]? = some (.cells (bv z32).toArray 29 (0, 0)) ∧ W.heap[g4]? = some (.cells (wv F).toArray 83 (0, 0)) ∧
    W.heap[g7]? = some (.cells (bv (outL k F x0 x1 x2 x3 L)).toArray 29 (0, 0))
section
variable {B : World} {g2 g4 g7 k : Nat} {F : List W32} {x0 x1 x2 x3 : UInt8}
end
def outSs (g4 g7 k : Nat) (X : W32) (x0 x1 x2 x3 : UInt8) : List SPred :=
  [IsL (.int .i64 (k : Int)), IsL (.int .i64 (4 * (k : Int))), IsL (.int .i64 (k : Int)), IsL (.int .i64 (4 * (k : Int))), IsL (.int .i64 (4 * (k : Int) + 1)), IsL (.int .i64 (k : Int)), IsL (.int .i64 (4 * (k : Int))), IsL (.int .i64 (4 * (k : Int) + 2)), IsL (.int .i64 (k : Int)), IsL (.int .i64 (4 * (k : Int))), IsL (.int .i64 (4 * (k : Int) + 3)), IsL (.int .i64 (k : Int)), IsL (.pointer (some ⟨g4, k, none⟩)), IsL (.int .u32 (X.toNat : Int)), IsL (.int .u32 ((X.toNat : Int) / 16777216)), IsL (.int .u8 (x0.toNat : Int)), IsL (.int .i64 (k : Int)), IsL (.pointer (some ⟨g4, k, none⟩)), IsL (.int .u32 (X.toNat : Int)), IsL (.int .u32 ((X.toNat : Int) / 65536)), IsL (.int .u8 (x1.toNat : Int)), IsL (.int .i64 (k : Int)), IsL (.pointer (some ⟨g4, k, none⟩)), IsL (.int .u32 (X.toNat : Int)), IsL (.int .u32 ((X.toNat : Int) / 256)), IsL (.int .u8 (x2.toNat : Int)), IsL (.int .i64 (k : Int)), IsL (.pointer (some ⟨g4, k, none⟩)), IsL (.int .u32 (X.toNat : Int)), IsL (.int .u8 (x3.toNat : Int)), IsL (.pointer (some ⟨g7, 4 * k, none⟩)), fun _ _ _ => True, IsL (.pointer (some ⟨g7, 4 * k + 1, none⟩)), fun _ _ _ => True, IsL (.pointer (some ⟨g7, 4 * k + 2, none⟩)), fun _ _ _ => True, IsL (.pointer (some ⟨g7, 4 * k + 3, none⟩)), fun _ _ _ => True]
end Go.Proofs.Ytkncomkncfcecaa
set_option linter.unusedVariables false
set_option linter.unusedSimpArgs false
namespace Go.Proofs.Ytkncomkncfcecaa
open Go.RowKit

/-- memory on its way: the text's pieces P at b, the sum's words S, the words W of the piece -/
structure Sh (w : World) (b o q : Nat) (P : List UInt8) (g2 g3 g4 g8 : Nat) (S W : List W32) (wr : World) : Prop where
  B : Bs wr (some ⟨b, o, none⟩) q P
  below : Below w.heap.size w wr
  h2 : wr.heap[g2]? = some (.cells (bv z32).toArray 29 (0, 0))
  h3 : wr.heap[g3]? = some (.cells (wv ks).toArray 81 (0, 0))
  h4 : wr.heap[g4]? = some (.cells (wv S).toArray 83 (0, 0))
  h8 : wr.heap[g8]? = some (.cells (wv W).toArray 81 (0, 0))
structure Ap (w : World) (b g2 g3 g4 g8 : Nat) : Prop where
  n23 : g2 ≠ g3
  n24 : g2 ≠ g4
  n28 : g2 ≠ g8
  n34 : g3 ≠ g4
  n38 : g3 ≠ g8
  n48 : g4 ≠ g8
  b2 : b ≠ g2
  b3 : b ≠ g3
  b4 : b ≠ g4
  b8 : b ≠ g8
  w2 : w.heap.size ≤ g2
  w4 : w.heap.size ≤ g4
  w8 : w.heap.size ≤ g8
section
variable {w wr W' : World} {b o q : Nat} {P : List UInt8} {g2 g3 g4 g8 : Nat} {S W : List W32}
theorem lt_of_at {w : World} {g : Nat} {x : Obj} (h : w.heap[g]? = some x) : g < w.heap.size := (Array.getElem?_eq_some_iff.1 h).1
theorem Sh.next (h : Sh w b o q P g2 g3 g4 g8 S W wr) (hb : Below wr.heap.size wr W') : Sh w b o q P g2 g3 g4 g8 S W W' where
  B := h.B.keep (.of_below hb)
  below := below_then h.below hb h.below.size
  h2 := by rw [hb.block _ (lt_of_at h.h2)]; exact h.h2
  h3 := by rw [hb.block _ (lt_of_at h.h3)]; exact h.h3
  h4 := by rw [hb.block _ (lt_of_at h.h4)]; exact h.h4
  h8 := by rw [hb.block _ (lt_of_at h.h8)]; exact h.h8
structure A15 (w : World) (b g2 g3 g4 g8 g15 : Nat) : Prop where
  n2 : g2 ≠ g15
  n3 : g3 ≠ g15
  n4 : g4 ≠ g15
  n8 : g8 ≠ g15
  nb : b ≠ g15
  w15 : w.heap.size ≤ g15
end
end Go.Proofs.Ytkncomkncfcecaa
set_option linter.unusedVariables false
set_option linter.unusedSimpArgs false
namespace Go.Proofs.Ytkncomkncfcecaa
open Go.RowKit
attribute [local go_sem] ev_tmp ev_const ev_func ev_global lk_hit lk_miss uponK_value uponK_skip look_tmp look_const look_global look_func
end Go.Proofs.Ytkncomkncfcecaa
set_option linter.unusedVariables false
set_option linter.unusedSimpArgs false
namespace Go.Proofs.Ytkncomkncfcecaa
open Go.RowKit
attribute [local go_sem] ev_tmp ev_const ev_func ev_global lk_hit lk_miss uponK_value uponK_skip look_tmp look_const look_global look_func
end Go.Proofs.Ytkncomkncfcecaa
set_option linter.unusedVariables false
set_option linter.unusedSimpArgs false
namespace Go.Proofs.Ytkncomkncfcecaa
open Go.RowKit
attribute [local go_sem] ev_tmp ev_const ev_func ev_global lk_hit lk_miss uponK_value uponK_skip look_tmp look_const look_global look_func
end Go.Proofs.Ytkncomkncfcecaa
set_option linter.unusedVariables false
set_option linter.unusedSimpArgs false
namespace Go.Proofs.Ytkncomkncfcecaa
open Go.RowKit
attribute [local go_sem] ev_tmp ev_const ev_func ev_global lk_hit lk_miss uponK_value uponK_skip look_tmp look_const look_global look_func
end Go.Proofs.Ytkncomkncfcecaa
set_option linter.unusedVariables false
set_option linter.unusedSimpArgs false
namespace Go.Proofs.Ytkncomkncfcecaa
open Go.RowKit
attribute [local go_sem] ev_tmp ev_const ev_func ev_global lk_hit lk_miss uponK_value uponK_skip look_tmp look_const look_global look_func
end Go.Proofs.Ytkncomkncfcecaa
set_option linter.unusedVariables false
set_option linter.unusedSimpArgs false
namespace Go.Proofs.Ytkncomkncfcecaa
open Go.RowKit
attribute [local go_sem] ev_tmp ev_const ev_func ev_global lk_hit lk_miss uponK_value uponK_skip look_tmp look_const look_global look_func
end Go.Proofs.Ytkncomkncfcecaa
set_option linter.unusedVariables false
set_option linter.unusedSimpArgs false
namespace Go.Proofs.Ytkncomkncfcecaa
open Go.RowKit
attribute [local go_sem] ev_tmp ev_const ev_func ev_global lk_hit lk_miss uponK_value uponK_skip look_tmp look_const look_global look_func
end Go.Proofs.Ytkncomkncfcecaa
set_option linter.unusedVariables false
set_option linter.unusedSimpArgs false
namespace Go.Proofs.Ytkncomkncfcecaa
open Go.RowKit
section
variable {P : Program} {Q : Exit → Act → World → Prop} {n : Nat} {L : Slots} {w : World} {ops : Array Oper} {rest : List Oper} {o : Oper}
theorem kl_box1 {d y : Nat} {t : TypeId} {v : Value} (hd : o.dst = some d) (hg : o.guard = none) (ho : o.op = .box t (.tmp y)) (hy : lk L y = some v) (hv : v.cells = #[v]) (hn : Nat.blt d n = true)
    (h : ∀ g w', Hid (g = w.heap.size) → Hid (w'.heap.size = w.heap.size + 1) → Below w.heap.size w w' → Boxed w' g t v → KL P ops Q rest n ((d, .pointer (some ⟨g, 0, none⟩)) :: L) w') : KL P ops Q (o :: rest) n L w :=
  kl_step hd hg (by simp [ho, okop, okx, hy, hn]) fun K hK => by
    have he : ev L (.tmp y) = v := by simp [ev, hy]
    have hr : (execOp (ev L) o).run P w = .ok (.value (.pointer (some ⟨w.heap.size, 0, none⟩))) (w.alloc (.cells #[v] t)) := by
      simp [execOp, ho, he, Instr.box, Sem.run_bind, Sem.run_pure, newVar, newRow, hv]
    rw [hr]
    exact hK _ _ (h _ _ (by show _ = _; rfl) (by show _ = _; simp) ((Below.refl _ _).alloc (Nat.le_refl _) _) (Boxed.new w t v))
theorem kl_alloc1 {d : Nat} {t : TypeId} {v : Value} (hd : o.dst = some d) (hg : o.guard = none) (ho : o.op = .alloc t) (hz : (P.info? t).bind (·.zero) = some v) (hv : v.cells = #[v]) (hn : Nat.blt d n = true)
    (h : ∀ g w', Hid (g = w.heap.size) → Hid (w'.heap.size = w.heap.size + 1) → Below w.heap.size w w' → Boxed w' g t v → KL P ops Q rest n ((d, .pointer (some ⟨g, 0, none⟩)) :: L) w') : KL P ops Q (o :: rest) n L w := ⟨fun a k => by
  refine wpList_plain hg fun K hK => ?_
  obtain ⟨it, hi, hz'⟩ : ∃ it, P.info? t = some it ∧ it.zero = some v := by
    cases hi : P.info? t with
    | none => simp [hi] at hz
    | some it => exact ⟨it, rfl, by simpa [hi] using hz⟩
  have hr : (execOp a.eval o).run P w = .ok (.value (.pointer (some ⟨w.heap.size, 0, none⟩))) (w.alloc (.cells #[v] t)) := by
    have h0 : (zeroValue t).run P w = .ok v w := by
      simp [zeroValue, typeInfo, Sem.run_bind, hi, hz', go_sem]
    simp [execOp, ho, Instr.alloc, Sem.run_bind, Sem.run_pure, newVar, newRow, hv, h0]
  unfold Oper.wp
  rw [hr]
  exact hK _ _ (kl_back k hd hn (h _ _ (by show _ = _; rfl) (by show _ = _; simp) ((Below.refl _ _).alloc (Nat.le_refl _) _) (Boxed.new w t v)))⟩
theorem kl_makeFunc {d : Nat} {f : Fn} {xs : Array Operand} (hd : o.dst = some d) (hg : o.guard = none) (ho : o.op = .makeFunc f #[] xs) (hk : (xs.toList.all (okx L) && Nat.blt d n) = true) (hr : (execOp (ev L) o).run P w = .ok (.value (.func f #[] (xs.map (ev L)))) w)
    (h : KL P ops Q rest n ((d, .func f #[] (xs.map (ev L))) :: L) w) : KL P ops Q (o :: rest) n L w :=
  kl_run hd hg (by simp only [Bool.and_eq_true] at hk; simp [ho, okop, hk]) hr h
end
end Go.Proofs.Ytkncomkncfcecaa
