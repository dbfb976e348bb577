/- The sparse walk's laws for a variable of one cell: boxed, laid; and for a function value made. No program in sight. The sparse walk's law for a range over a function, and for what stands behind it. No program in sight. -/
import Derived.Test.YtcpifcdndhhmgaaKn
import Derived.RangeFuncBox
import Derived.Test.YtcpifcdndhhmgaaKnY
set_option linter.unusedVariables false
set_option linter.unusedSimpArgs false
namespace Go.Proofs.Ytcpifcdndhhmgaa
open Go.RowKit
section
variable {P : Program} {Q : Exit → Act → World → Prop} {n : Nat} {L : Slots} {w : World} {ops : Array Oper} {rest : List Oper} {o : Oper}
theorem kl_box1 {d y : Nat} {t : TypeId} {v : Value} (hd : o.dst = some d) (hg : o.guard = none) (ho : o.op = .box t (.tmp y)) (hy : lk L y = some v) (hv : v.cells = #[v]) (hn : Nat.blt d n = true)
    (h : ∀ g w', Hid (g = w.heap.size) → Hid (w'.heap.size = w.heap.size + 1) → Below w.heap.size w w' → Boxed w' g t v → KL P ops Q rest n ((d, .pointer (some ⟨g, 0, none⟩)) :: L) w') : KL P ops Q (o :: rest) n L w :=
  kl_step hd hg (by simp [ho, okop, okx, hy, hn]) fun K hK => by
    have he : ev L (.tmp y) = v := by simp [ev, hy]
    have hr : (execOp (ev L) o).run P w = .ok (.value (.pointer (some ⟨w.heap.size, 0, none⟩))) (w.alloc (.cells #[v] t)) := by
      simp [execOp, ho, he, Instr.box, Sem.run_bind, Sem.run_pure, newVar, newRow, hv]
    rw [hr]
    exact hK _ _ (h _ _ (by show _ = _; rfl) (by show _ = _; simp) ((Below.refl _ _).alloc (Nat.le_refl _) _) (Boxed.new w t v))
theorem kl_alloc1 {d : Nat} {t : TypeId} {v : Value} (hd : o.dst = some d) (hg : o.guard = none) (ho : o.op = .alloc t) (hz : (P.info? t).bind (·.zero) = some v) (hv : v.cells = #[v]) (hn : Nat.blt d n = true)
    (h : ∀ g w', Hid (g = w.heap.size) → Hid (w'.heap.size = w.heap.size + 1) → Below w.heap.size w w' → Boxed w' g t v → KL P ops Q rest n ((d, .pointer (some ⟨g, 0, none⟩)) :: L) w') : KL P ops Q (o :: rest) n L w := ⟨fun a k => by
  refine wpList_plain hg fun K hK => ?_
  obtain ⟨it, hi, hz'⟩ : ∃ it, P.info? t = some it ∧ it.zero = some v := by
    cases hi : P.info? t with
    | none => simp [hi] at hz
    | some it => exact ⟨it, rfl, by simpa [hi] using hz⟩
  have hr : (execOp a.eval o).run P w = .ok (.value (.pointer (some ⟨w.heap.size, 0, none⟩))) (w.alloc (.cells #[v] t)) := by
    have h0 : (zeroValue t).run P w = .ok v w := by
      simp [zeroValue, typeInfo, Sem.run_bind, hi, hz', go_sem]
    simp [execOp, ho, Instr.alloc, Sem.run_bind, Sem.run_pure, newVar, newRow, hv, h0]
  unfold Oper.wp
  rw [hr]
  exact hK _ _ (kl_back k hd hn (h _ _ (by show _ = _; rfl) (by show _ = _; simp) ((Below.refl _ _).alloc (Nat.le_refl _) _) (Boxed.new w t v)))⟩
theorem kl_makeFunc {d : Nat} {f : Fn} {xs : Array Operand} (hd : o.dst = some d) (hg : o.guard = none) (ho : o.op = .makeFunc f #[] xs) (hk : (xs.toList.all (okx L) && Nat.blt d n) = true) (hr : (execOp (ev L) o).run P w = .ok (.value (.func f #[] (xs.map (ev L)))) w)
    (h : KL P ops Q rest n ((d, .func f #[] (xs.map (ev L))) :: L) w) : KL P ops Q (o :: rest) n L w :=
  kl_run hd hg (by simp only [Bool.and_eq_true] at hk; simp [ho, okop, hk]) hr h
end
end Go.Proofs.Ytcpifcdndhhmgaa
set_option linter.unusedVariables false
set_option linter.unusedSimpArgs false
namespace Go.Proofs.Ytcpifcdndhhmgaa
open Go.RowKit
section
variable {P : Program} {Q : Exit → Act → World → Prop} {n : Nat} {L : Slots} {w : World}
def markD (D : Nat) : List Deferred := [{ target := .collected D, args := #[] }]
theorem kw_range {α : Type} {t p gf : Nat} {lb : Array Value} {assign body : Code} (Lx : α → Slots) (ht : lk L t = some (.func (.func gf) #[] lb)) (eg : ∀ args w, (callFunc gf args).run P w = .ok (.enter gf args) w)
    {enc : α → Value} {Kp : World → World → Prop} {S Sp : List α → Prop} {N : Nat} (hseq : SeqStopsK Fence.wide 2 P gf lb (fun x => #[enc x]) Kp S Sp N w)
    (hKt : ∀ {A B C : World}, Kp A B → Kp B C → Kp A C) (hKb : ∀ (W : World) (l : Nat) (o o' : Obj), w.heap.size ≤ l → W.heap[l]? = some o → o.isCells = false → o.isWalk = false → Kp W (W.putObj l o')) (hKr : ∀ W, Kp W W) (hp : Nat.blt p n = true)
    (I : List α → World → Prop) (Ix : Code → List α → World → Prop) (hI : OwnFrom w.heap.size I) (hIx : ∀ c, OwnFrom w.heap.size (Ix c)) (h0 : I [] w)
    (hassign : ∀ (l : Nat) (x : α) (W : World) (K : Act → World → Prop), (∀ a', Kn n (Lx x) a' → K a' W) → KR P l 1 assign (Exit.then K (fun _ _ _ => False)) n ((p, enc x) :: L) W)
    (hbody : ∀ (l : Nat) (pre : List α) (x : α) (W : World), w.heap.size ≤ l → I pre W → pre.length < N → KR P l 1 body (ownPostG w.heap.size Kp I Ix (pre ++ [x]) W) n (Lx x) W)
    (hdone : ∀ (D : Nat) (xs : List α) (W : World), w.heap.size ≤ D → S xs → I xs W → W.heap[D]? = some (.deferred (some [])) → ∀ a, Kn n L a → Q .normal { a with defers := markD D } W)
    (hstop : ∀ (D : Nat) (c : Code) (pre : List α) (W : World), w.heap.size ≤ D → Sp pre → Ix c pre W → W.heap[D]? = some (.deferred (some [])) → ∀ a, Kn n L a → c.wp P Q { a with defers := markD D } W) :
    KW P (.rangeFunc (.tmp t) #[p] assign body) Q n L w := ⟨fun a k => by
  refine wpIn_wide.1 (wpIn_rangeFunc_ownH (F := Fence.wide) (n := 3) rfl (by omega) (k.ev ht) trivial eg hseq (fun h k => hKt h k) hKb (Below.refl _ _) (fun _ => rfl) I Ix hI hIx h0 (fun x a' _ => Kn n (Lx x) a') (fun _ _ _ _ _ _ hs _ _ => hs) ?_ ?_ ?_ ?_)
  · intro l pre x W K hi hK
    refine (hassign l x W K fun a' ka => hK a' W (KeepsFrom.refl _ _) (hKr W) hi ka).h _ ?_
    have hk := k.put p (enc x) hp
    have e : ({ tmps := ((#[p] : Array Tmp).zip #[enc x]).foldl (fun t (p, v) => t.setIfInBounds p v) a.tmps, defers := [] } : Act) = a.put (some p) (enc x) := by
      have := k.def_
      obtain ⟨ts, ds⟩ := a
      simp only at this
      subst this
      simp [Act.put]
    rw [e]; exact hk
  · intro l pre x a' W hl _ hi ka hlen
    exact (hbody l pre x W hl hi hlen).h a' ka
  · intro D xs W hD hS hi hd
    rw [k.def_]
    exact hdone D xs W hD hS hi hd a k
  · intro D c pre W hD hS hi hd
    rw [k.def_]
    exact wpIn_wide.2 (hstop D c pre W hD hS hi hd a k)⟩
/-- code behind such a loop -/
structure KD (P : Program) (ds : List Deferred) (c : Code) (Q : Exit → Act → World → Prop) (n : Nat) (L : Slots) (w : World) : Prop where
  h : ∀ a, Kn n L a → c.wp P Q { a with defers := ds } w
theorem kd_seq {ds : List Deferred} {x y : Code} (h : KD P ds x (Exit.then (y.wp P Q) Q) n L w) : KD P ds (.seq x y) Q n L w := ⟨fun a k => wp_seq (h.h a k)⟩
theorem kd_ret {ds : List Deferred} (h : ∀ a, Kn n L a → Q .ret { a with defers := ds } w) : KD P ds .ret Q n L w := ⟨fun a k => wp_ret (h a k)⟩
/-- a region of one operation that gives nothing -/
theorem kd_run0 {ds : List Deferred} {id : Nat} {o : Oper} {y : Code} {w' : World} (hd : o.dst = none) (hg : o.guard = none) (hk : okop L o.op = true) (hr : (execOp (ev L) o).run P w = .ok .skip w') (h : KD P ds y Q n L w') :
    KD P ds (.region id [o].toArray false) (Exit.then (y.wp P Q) Q) n L w := ⟨fun a k => by
  refine wp_region_lit (wpList_plain hg fun K hK => ?_)
  unfold Oper.wp
  rw [show ({ a with defers := ds } : Act).eval = a.eval from rfl, k.exec hk, hr]
  refine hK _ _ ?_
  rw [hd]
  exact h.h a k⟩
theorem boxed_below {W W' : World} {B : Nat} {t : TypeId} {v : Value} (h : Boxed W B t v) (hb : Below W.heap.size W W') : Boxed W' B t v := (hb.block B h.lt).trans h
theorem boxed_own {W W' : World} {row : Option Nat} {B : Nat} {t : TypeId} {v : Value} (h : Boxed W B t v) (hg : W.grownBy W' row) (hr : ∀ r, row = some r → ∃ o : Obj, W.heap[r]? = some o ∧ o.isCells = false) : Boxed W' B t v :=
  h.kept hg fun e => by
    obtain ⟨o, ho, hc⟩ := hr B e.symm
    rw [show W.heap[B]? = _ from h] at ho; cases ho; cases hc
theorem bs_own {W W' : World} {row : Option Nat} {A : Option Addr} {m : Nat} {l : List UInt8} (h : Bs W A m l) (hg : W.grownBy W' row) (hr : ∀ r, row = some r → ∃ o : Obj, W.heap[r]? = some o ∧ o.isCells = false) : Bs W' A m l :=
  ⟨h.1, fun hn => by
    obtain ⟨b, o, e, hc⟩ := h.2 hn
    exact ⟨b, o, e, fun i u hu => cell_kept (hc i u hu) hg hr⟩⟩
theorem grown_own {w W W' : World} {row r0 : Option Nat} {B : Nat} (h : w.grownBy W r0) (hg : W.grownBy W' row) (hB : w.heap.size ≤ B) (hr : ∀ r, row = some r → B ≤ r) : w.grownBy W' r0 :=
  ⟨hg.os.trans h.os, hg.tape.trans h.tape, hg.output.trans h.output, Nat.le_trans h.size hg.size, fun k hk hne => (hg.block k (Nat.lt_of_lt_of_le hk h.size) (fun e => by have := hr k e.symm; omega)).trans (h.block k hk hne)⟩
end
end Go.Proofs.Ytcpifcdndhhmgaa
