/- A reader on its way, and variables in blocks of their own. -/
import Derived.Test.YtcpifcdndhhmgaaRetP
import Derived.Test.YtcpifcdndhhmgaaRefReader
import Derived.Test.YtcpifcdndhhmgaaLay
import Derived.Test.YtcpifcdndhhmgaaKnF
import Derived.Laws.CopyRow
set_option linter.unusedVariables false
set_option linter.unusedSimpArgs false
namespace Go.Proofs.Ytcpifcdndhhmgaa
open Go.RowKit
theorem LayV.grown {w w' : World} {B g : Nat} (hg : w.grownBy w' (some g)) : ∀ {V : Vars}, LayV w B V → (∀ p ∈ V, p.1 ≠ g) → LayV w' B V
  | [], _, _ => trivial
  | (b, cs, t) :: V, h, hne => ⟨h.1, by
      have hb : b ≠ g := hne (b, cs, t) (by simp)
      rw [hg.block b (Array.getElem?_eq_some_iff.1 h.2.1).1 (fun e => hb (by injection e))]; exact h.2.1, h.2.2.1, LayV.grown hg h.2.2.2 fun p hp => hne p (by simp [hp])⟩
/-- a reader's state: the code's, the document's -/
def RSt : Bool → World → Nat → List UInt8 → Int → Prop
  | true, W, g, l, e => CRP (fun b => b < g) W g l e
  | false, W, g, l, e => RR W g g l e
theorem RSt.below {k : Bool} {W W' : World} {g : Nat} {l : List UInt8} {e : Int} (h : RSt k W g l e) (hb : Below W.heap.size W W') : RSt k W' g l e := by
  cases k
  · exact RR.below h hb
  · exact CRP.below h hb
theorem RSt.other {k : Bool} {W W' : World} {g g2 : Nat} {l : List UInt8} {e : Int} (h : RSt k W g l e) (hg : W.grownBy W' (some g2)) (hlt : g < g2) : RSt k W' g l e := by
  cases k
  · exact RR.other h hg (by omega) (Nat.le_of_lt hlt)
  · exact CRP.other h hg (by omega) (fun b hb => by omega)
theorem RSt.lt {k : Bool} {W : World} {g : Nat} {l : List UInt8} {e : Int} (h : RSt k W g l e) : g < W.heap.size := by
  cases k
  · obtain ⟨A, N, c, p, L, hg, _⟩ := h
    exact (Array.getElem?_eq_some_iff.1 hg).1
  · obtain ⟨A, n, c, hg, _⟩ := h
    exact (Array.getElem?_eq_some_iff.1 hg).1
structure Rd (k : Bool) (w0 W : World) (V : Vars) (g : Nat) (l : List UInt8) (e : Int) : Prop where
  grown : w0.grownBy W (some g)
  vars : LayV W w0.heap.size V
  rd : RSt k W g l e
  apart : ∀ p ∈ V, p.1 ≠ g
section
variable {k : Bool} {w0 W W' : World} {V : Vars} {g : Nat} {l l' : List UInt8} {e e' : Int}
theorem grown_row (W : World) (b : Nat) (cs : Array Value) : W.grownBy (W.setRow b cs) (some b) :=
  ⟨rfl, rfl, rfl, by simp [World.setRow], fun i _ hne => by rw [setRow_other _ _ _ _ (fun h => hne (by rw [h]))]⟩
theorem Rd.start (h : RSt k W g l e) : Rd k W W [] g l e := ⟨grown_refl _ _, trivial, h, fun p hp => by cases hp⟩
theorem Rd.of_lay (hL : Lay w0 W V) (h : RSt k W g l e) (ha : ∀ p ∈ V, p.1 ≠ g) : Rd k w0 W V g l e := ⟨⟨hL.below.os, hL.below.tape, hL.below.output, hL.below.size, fun i hi _ => hL.below.block i hi⟩, hL.vars, h, ha⟩
theorem Rd.lay (h : Rd k w0 W V g l e) (hB : w0.heap.size ≤ g) : Lay w0 W V := ⟨⟨h.grown.os, h.grown.tape, h.grown.output, h.grown.size, fun i hi => h.grown.block i hi (fun hh => by injection hh with hh; omega)⟩, h.vars⟩
theorem Rd.step (h : Rd k w0 W V g l e) (hg : W.grownBy W' (some g)) (hr : RSt k W' g l' e') : Rd k w0 W' V g l' e' := ⟨grown_trans h.grown hg, h.vars.grown hg h.apart, hr, h.apart⟩
theorem Rd.next (h : Rd k w0 W V g l e) (hb : Below W.heap.size W W') : Rd k w0 W' V g l e := h.step (grown_below hb _) (h.rd.below hb)
theorem Rd.drew (h : Rd k w0 W V g l e) : Rd k w0 W.drew V g l e := h.next (Below.refl _ _).drew
theorem Rd.alloc (h : Rd k w0 W V g l e) (cs : Array Value) (t : TypeId) : Rd k w0 (W.alloc (.cells cs t)) ((W.heap.size, cs, t) :: V) g l e := by
  have hb : Below W.heap.size W (W.alloc (.cells cs t)) := (Below.refl _ _).alloc (Nat.le_refl _) _
  have hn := h.next hb
  refine ⟨hn.grown, ⟨h.grown.size, heap_alloc_new _ _, h.vars.lt, hn.vars⟩, hn.rd, fun p hp => ?_⟩
  rcases List.mem_cons.1 hp with rfl | hp
  · exact Nat.ne_of_gt h.rd.lt
  · exact h.apart p hp
theorem Rd.at_ (h : Rd k w0 W V g l e) (i : Nat) {b : Nat} {cs : Array Value} {t : TypeId} (hi : V[i]? = some (b, cs, t)) : W.heap[b]? = some (.cells cs t (0, 0)) := (h.vars.get i hi).2
theorem Rd.get (h : Rd k w0 W V g l e) (i : Nat) {b : Nat} {cs : List Value} {t : TypeId} (hi : V[i]? = some (b, cs.toArray, t)) {j : Nat} {u : Value} (hu : cs[j]? = some u) : W.cell? ⟨b, j, none⟩ = some u := cell_of_block (h.at_ i hi) (by rw [List.getElem?_toArray]; exact hu)
theorem Rd.free (h : Rd k w0 W V g l e) (i : Nat) {b : Nat} {cs : Array Value} {t : TypeId} (hi : V[i]? = some (b, cs, t)) (j : Nat) : W.frozen? ⟨b, j, none⟩ = false := free_of_block (h.at_ i hi)
theorem Rd.row (h : Rd k w0 W V g l e) (i : Nat) {b : Nat} {cs : Array Value} {t : TypeId} (hi : V[i]? = some (b, cs, t)) (hgt : g < b) (cs' : Array Value) : Rd k w0 (W.setRow b cs') (V.set i (b, cs', t)) g l e := by
  have hge := (h.vars.get i hi).1
  have hg2 := grown_row W b cs'
  refine ⟨⟨h.grown.os, h.grown.tape, h.grown.output, Nat.le_trans h.grown.size hg2.size, fun j hj hne => ?_⟩, h.vars.put i hi (setRow_block (h.at_ i hi)) (fun k x hk hx => by rw [setRow_other _ _ _ _ hk]; exact hx), h.rd.other hg2 hgt, fun p hp => ?_⟩
  · rw [setRow_other _ _ _ _ (by omega)]; exact h.grown.block j hj hne
  · rcases List.mem_or_eq_of_mem_set hp with hp | rfl
    · exact h.apart p hp
    · exact Nat.ne_of_gt hgt
theorem Rd.cell (h : Rd k w0 W V g l e) (i : Nat) {b : Nat} {cs : List Value} {t : TypeId} (hi : V[i]? = some (b, cs.toArray, t)) (hgt : g < b) (j : Nat) (u : Value) : Rd k w0 (W.setCell ⟨b, j, none⟩ u) (V.set i (b, (cs.set j u).toArray, t)) g l e := by
  have := h.row i hi hgt (cs.set j u).toArray
  rw [setCell_eq_setRow W b j _ t (0, 0) u (h.at_ i hi), List.setIfInBounds_toArray]
  exact this
end
section
variable {P : Program} {Q : Exit → Act → World → Prop} {N : Nat} {L : Slots} {k : Bool} {w0 w : World} {V : Vars} {g : Nat} {l : List UInt8} {er : Int} {ops : Array Oper} {rest : List Oper} {o o' : Oper}
end
/-! ### what the readers' functions do -/
section
variable {w0 W : World} {V : Vars} {g : Nat} {l : List UInt8} {e : Int}
theorem hlt (g : Nat) : ∀ b, (fun b => b < g) b → b ≠ g := fun _ h => Nat.ne_of_lt h
theorem rdInt (h : Rd true w0 W V g l e) : Calls Try.prog 81 #[.pointer (some ⟨g, 0, none⟩)] W fun r W' => r = .returned (.int .i64 (tkN (taken l e 8))) ∧ Rd true w0 W' V g (taken l e 8).2.1 (taken l e 8).2.2 :=
  Calls.mono (readInt_Q _ g (hlt g) l e W h.rd) fun _ _ ⟨h1, h2, h3⟩ => ⟨h1, h.step h3 h2⟩
theorem rdByte (h : Rd true w0 W V g l e) : Calls Try.prog 82 #[.pointer (some ⟨g, 0, none⟩)] W fun r W' => r = .returned (.int .i64 (((taken l e 1).1.headD 0).toNat : Int)) ∧ Rd true w0 W' V g (taken l e 1).2.1 (taken l e 1).2.2 :=
  Calls.mono (readByte_Q _ g (hlt g) l e W h.rd) fun _ _ ⟨h1, h2, h3⟩ => ⟨by rw [h1, leN_head _ (taken_len l e 1)], h.step h3 h2⟩
theorem rdText (h : Rd true w0 W V g l e) : Calls Try.prog 84 #[.pointer (some ⟨g, 0, none⟩)] W fun r W' => r = .returned (.string ⟨(textOf l e).1.toArray⟩) ∧ Rd true w0 W' V g (textOf l e).2.1 (textOf l e).2.2 :=
  Calls.mono (readText_Q _ g (hlt g) l e W h.rd) fun _ _ ⟨h1, h2, h3⟩ => ⟨h1, h.step h3 h2⟩
theorem rdFail (f : Int) (h : Rd true w0 W V g l e) : Calls Try.prog 83 #[.pointer (some ⟨g, 0, none⟩), .int .i64 f] W fun r W' => r = .returned (.tuple #[]) ∧ Rd true w0 W' V g l (if e = 0 then f else e) :=
  Calls.mono (fail_Q _ g (hlt g) l e f W h.rd) fun _ _ ⟨h1, h2, h3⟩ => ⟨h1, h.step h3 h2⟩
theorem rdEnd (h : Rd true w0 W V g l e) : Calls Try.prog 85 #[.pointer (some ⟨g, 0, none⟩)] W fun r W' => r = .returned (.int .i64 (ended l e)) ∧ Rd true w0 W' V g l e ∧ Below W.heap.size W W' :=
  Calls.mono (end_Q _ g (hlt g) l e W h.rd) fun _ _ ⟨h1, h2⟩ => ⟨h1, by subst h2; exact ⟨h, Below.refl _ _⟩⟩
theorem rdNew (A : Option Addr) (n c : Nat) (l : List UInt8) (hL : Lay w0 W V) (hA : Bs W A n l) (hn : n ≤ 140737488355328) :
    Calls Try.prog 80 #[.slice A n c] W fun r W' => ∃ g, r = .returned (.pointer (some ⟨g, 0, none⟩)) ∧ W.heap.size ≤ g ∧ Rd true w0 W' V g l 0 :=
  Calls.mono (new_Q A n c l W hA hn) fun _ _ ⟨g, h1, h2, h3, h4, h5⟩ => ⟨g, h1, h2, Rd.of_lay (hL.next h5) h4 fun p hp => by have := hL.vars.lt p hp; omega⟩
theorem rrInt (h : Rd false w0 W V g l e) : Calls Try.prog 97 #[.pointer (some ⟨g, 0, none⟩)] W fun r W' => r = .returned (.int .i64 (tkN (taken l e 8))) ∧ Rd false w0 W' V g (taken l e 8).2.1 (taken l e 8).2.2 :=
  Calls.mono (refInt_read g g l e W h.rd) fun _ _ ⟨h1, h2, h3⟩ => ⟨h1, h.step h3 h2⟩
theorem rrByte (h : Rd false w0 W V g l e) : Calls Try.prog 98 #[.pointer (some ⟨g, 0, none⟩)] W fun r W' => r = .returned (.int .i64 (((taken l e 1).1.headD 0).toNat : Int)) ∧ Rd false w0 W' V g (taken l e 1).2.1 (taken l e 1).2.2 :=
  Calls.mono (refByte_read g g l e W h.rd) fun _ _ ⟨h1, h2, h3⟩ => ⟨by rw [h1, leN_head _ (taken_len l e 1)], h.step h3 h2⟩
theorem rrText (h : Rd false w0 W V g l e) : Calls Try.prog 100 #[.pointer (some ⟨g, 0, none⟩)] W fun r W' => r = .returned (.string ⟨(textOf l e).1.toArray⟩) ∧ Rd false w0 W' V g (textOf l e).2.1 (textOf l e).2.2 :=
  Calls.mono (refText_read g g l e W h.rd) fun _ _ ⟨h1, h2, h3⟩ => ⟨h1, h.step h3 h2⟩
theorem rrFail (f : Int) (h : Rd false w0 W V g l e) : Calls Try.prog 99 #[.pointer (some ⟨g, 0, none⟩), .int .i64 f] W fun r W' => r = .returned (.tuple #[]) ∧ Rd false w0 W' V g l (if e = 0 then f else e) :=
  Calls.mono (refFail_read g g l e f W h.rd) fun _ _ ⟨h1, h2, h3⟩ => ⟨h1, h.step h3 h2⟩
theorem rrEnd (h : Rd false w0 W V g l e) : Calls Try.prog 101 #[.pointer (some ⟨g, 0, none⟩)] W fun r W' => r = .returned (.int .i64 (ended l e)) ∧ Rd false w0 W' V g l e ∧ Below W.heap.size W W' :=
  Calls.mono (refEnd_read g g l e W h.rd) fun _ _ ⟨h1, h2⟩ => ⟨h1, h.next h2, h2⟩
theorem rrNew (A : Option Addr) (n c : Nat) (l : List UInt8) (hL : Lay w0 W V) (hA : Bs W A n l) (hn : n ≤ 1099511627776) (hc : n ≤ c) (hc2 : c ≤ 9223372036854775807) :
    Calls Try.prog 96 #[.slice A n c] W fun r W' => ∃ g, r = .returned (.pointer (some ⟨g, 0, none⟩)) ∧ W.heap.size ≤ g ∧ Rd false w0 W' V g l 0 :=
  Calls.mono (refNew_read W.heap.size A n c l W hA hn hc hc2 (Nat.le_refl _) hA.inQ) fun _ _ ⟨g, h1, h2, h3, h4, h5⟩ => ⟨g, h1, by omega, Rd.of_lay (hL.next h5) (by
      obtain ⟨A, N, c, p, L, q1, q2, q3, q4, q5, q6, q7, q8, q9⟩ := h4
      exact ⟨A, N, c, p, L, q1, q2, q3, q4, q5, q6, q7, Nat.le_refl _, fun hN a ha => Nat.lt_of_lt_of_le (q9 hN a ha) q8⟩) fun p hp => by have := hL.vars.lt p hp; omega⟩
/-- the document's reader's error is a field -/
theorem Rd.err (h : Rd false w0 W V g l e) : W.cell? ⟨g, 2, none⟩ = some (.int .i64 e) := by
  obtain ⟨A, N, c, p, L, hg, _⟩ := h.rd
  exact cell_of_block hg rfl
end
end Go.Proofs.Ytcpifcdndhhmgaa
