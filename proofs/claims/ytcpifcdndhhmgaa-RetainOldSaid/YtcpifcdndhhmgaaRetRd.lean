/- A cut between two pieces of code: what stands behind the first, whatever way it took. No program in sight. A reader beside a row of one's own; a call of a method's value. -/
import Derived.Test.YtcpifcdndhhmgaaKn
import Derived.Test.YtcpifcdndhhmgaaRetMem
import Derived.Test.YtcpifcdndhhmgaaKnV
set_option linter.unusedVariables false
set_option linter.unusedSimpArgs false
namespace Go.Proofs.Ytcpifcdndhhmgaa
open Go.RowKit
section
variable {P : Program} {Q : Exit → Act → World → Prop} {n : Nat} {L : Slots} {w : World}
def MidK (I : Slots → World → Prop) (n : Nat) (a : Act) (w : World) : Prop := ∃ L, I L w ∧ Kn n L a
/-- the same where the first piece stands already alone -/
theorem kw_cutq {x y : Code} (I : Slots → World → Prop) (hx : KW P x (Exit.then (MidK I n) Q) n L w) (h : ∀ L w, I L w → KW P y Q n L w) : KW P x (Exit.then (y.wp P Q) Q) n L w := ⟨fun a k => Code.wp_mono (fun e a2 w2 hq => by
  cases e with
  | normal =>
    obtain ⟨L2, hI, k2⟩ := hq
    exact (h L2 w2 hI).h a2 k2
  | _ => exact hq) (hx.h a k)⟩
theorem kq_cut {I : Slots → World → Prop} (ts : List Nat) (hI : I (nrm L ts) w) : KQ (Exit.then (MidK I n) Q) .normal n L w := ⟨fun a k => ⟨_, hI, k.less ts⟩⟩
end
end Go.Proofs.Ytcpifcdndhhmgaa
set_option linter.unusedVariables false
set_option linter.unusedSimpArgs false
namespace Go.Proofs.Ytcpifcdndhhmgaa
open Go.RowKit
theorem tkN_i64 (t : List UInt8 × List UInt8 × Int) : I64 (tkN t) := by unfold I64 tkN wrap64; omega
/-- a reader at g, a row of one's own behind it -/
structure RdK (k : Bool) (w0 W : World) (g B : Nat) (l : List UInt8) (e : Int) (v : Value) (n : Nat) (ks : List KepS) : Prop where
  rd : RSt k W g l e
  own : W.ownsRow B 29 3 v n (flatK ks)
  gB : g < B
  BW : B ≤ W.heap.size
  ge : w0.heap.size ≤ g
  bel : Below w0.heap.size w0 W
section
variable {k : Bool} {w0 W W' : World} {g B n : Nat} {l l' : List UInt8} {e e' : Int} {v v' : Value} {ks : List KepS}
theorem RdK.ne (h : RdK k w0 W g B l e v n ks) : v.ownBlock = none ∨ v.ownBlock ≠ some g := by
  cases hv : v.ownBlock with
  | none => exact .inl rfl
  | some b => have := (h.own.lt b hv).1; have := h.gB; exact .inr (fun hh => by injection hh with hh; omega)
theorem RdK.read (h : RdK k w0 W g B l e v n ks) (hR : Rd k W W' [] g l' e') : RdK k w0 W' g B l' e' v n ks :=
  ⟨hR.rd, h.own.kept hR.grown h.ne, h.gB, Nat.le_trans h.BW hR.grown.size, h.ge, below_grown h.bel hR.grown h.bel.size h.ge⟩
theorem RdK.below (h : RdK k w0 W g B l e v n ks) (hb : Below W.heap.size W W') : RdK k w0 W' g B l e v n ks :=
  ⟨h.rd.below hb, own_below h.own hb, h.gB, Nat.le_trans h.BW hb.size, h.ge, below_then h.bel hb h.bel.size⟩
theorem RdK.other {b : Nat} (h : RdK k w0 W g B l e v n ks) (hg : W.grownBy W' (some b)) (hb : g < b) (hv : v.ownBlock ≠ some b) : RdK k w0 W' g B l e v n ks :=
  ⟨h.rd.other hg hb, h.own.kept hg (.inr hv), h.gB, Nat.le_trans h.BW hg.size, h.ge, below_grown h.bel hg h.bel.size (by have := h.ge; omega)⟩
theorem grownNone {a b : World} (h : a.grownBy b none) (r : Option Nat) : a.grownBy b r := ⟨h.os, h.tape, h.output, h.size, fun i hi _ => h.block i hi (by simp)⟩
theorem RdK.app (h : RdK k w0 W g B l e v n ks) {m : Nat} {qs : List KepS} (ho : W'.ownsRow B 29 3 v' m (flatK qs)) (hg : W.grownBy W' v.ownBlock) : RdK k w0 W' g B l e v' m qs := by
  cases hv : v.ownBlock with
  | none =>
    rw [hv] at hg
    exact ⟨h.rd.other (grownNone hg (some B)) h.gB, ho, h.gB, Nat.le_trans h.BW hg.size, h.ge, below_grown h.bel (grownNone hg (some B)) h.bel.size (by have := h.ge; have := h.gB; omega)⟩
  | some b =>
    rw [hv] at hg
    have hb := (h.own.lt b hv).1
    have := h.gB
    have := h.ge
    exact ⟨h.rd.other hg (by omega), ho, h.gB, Nat.le_trans h.BW hg.size, h.ge, below_grown h.bel hg h.bel.size (by omega)⟩
theorem RdK.fresh (h : RdK k w0 W g B l e v n ks) : v.ownBlock ≠ some W.heap.size := fun hh => by have := (h.own.lt _ hh).2; omega
end
section
variable {P : Program} {Q : Exit → Act → World → Prop} {n : Nat} {L : Slots} {w : World} {ops : Array Oper} {rest : List Oper} {o : Oper}
/-- a call of a method's value: what it is bound to comes first -/
theorem kl_callp {d t : Nat} {f : FuncId} {fn : Func} {c : Code} {xs : List Operand} {ts : Array TypeId} {pa : Array Value} (hd : o.dst = some d) (hg : o.guard = none) (ho : o.op = .call { callee := .value (.tmp t), args := xs.toArray, argTypes := ts })
    (ht : lk L t = some (.func (.func f) pa #[])) (hf : P.funcs[f]? = some fn) (hb : fn.body = some c) (hn : (fn.name == "runtime.NumGoroutine") = false) (hk : (xs.all (okx L) && Nat.blt d n) = true)
    (h : Calls P f (pa ++ (xs.map (ev L)).toArray) w fun e w' => ∃ v, e = .returned v ∧ KL P ops Q rest n ((d, v) :: L) w') : KL P ops Q (o :: rest) n L w := by
  have hk' := hk
  simp only [Bool.and_eq_true] at hk'
  have hv : ev L (.tmp t) = .func (.func f) pa #[] := by simp [ev, ht]
  refine kl_step hd hg ?_ fun K hK => ?_
  · simp only [ho, okop, Bool.and_eq_true]
    exact ⟨⟨hk'.1, by simp [okx, ht]⟩, hk'.2⟩
  · have he : execOp (ev L) o = callFunc f (pa ++ xs.toArray.map (ev L) ++ #[]) := by
      obtain ⟨dst, op, type, pos, after, guard⟩ := o
      subst ho
      simp only [execOp, resolve, hv]
      rfl
    rw [he, run_callFunc hf hb hn]
    simp only [Array.append_empty, List.map_toArray]
    refine Calls.mono h ?_
    rintro e w'' ⟨v, rfl, hv⟩
    exact ⟨v, rfl, hK _ _ hv⟩
end
theorem kq_ret3 {P : Program} {n : Nat} {L : Slots} {w : World} {fn : Func} {R : Ending → World → Prop} {t u x : Tmp} {v v' v2 : Value} (hr : fn.results = #[.tmp t, .tmp u, .tmp x]) (hv : lk L t = some v) (hv' : lk L u = some v') (hv2 : lk L x = some v2) (hR : R (.returned (.tuple #[v, v', v2])) w) : KQ (bodyPost P fn R) .ret n L w := ⟨fun a k =>
  bodyPost_ret (v := .tuple #[v, v', v2]) (by
    have h1 := k.all t v hv
    have h2 := k.all u v' hv'
    have h3 := k.all x v2 hv2
    rw [Array.getD_eq_getD_getElem?] at h1 h2 h3
    simp [results, hr, h1, h2, h3]) k.def_ hR⟩
def ParseKP (b : List UInt8) (w : World) (e : Ending) (w' : World) : Prop :=
  ∃ A n c, e = .returned (.tuple #[.int .i64 (parseK b).1, .slice A n c, .int .i64 (parseK b).2.2]) ∧ KeS w' A n (parseK b).2.1 ∧ TyK w' A ∧ n ≤ c ∧ c ≤ 9223372036854775807 ∧ Below w.heap.size w w'
theorem bodyK_many (seq : Int) (n : Nat) (l : List UInt8) (e : Int) (h : 24 < n) : bodyK seq n l e = finK seq (kepN 0 ([], l, if e = 0 then 4 else e)).1 (ended (kepN 0 ([], l, if e = 0 then 4 else e)).2.1 (kepN 0 ([], l, if e = 0 then 4 else e)).2.2) := by
  unfold bodyK; rw [if_pos h]; rfl
theorem bodyK_few (seq : Int) (n : Nat) (l : List UInt8) (e : Int) (h : ¬ 24 < n) : bodyK seq n l e = finK seq (kepN n ([], l, e)).1 (ended (kepN n ([], l, e)).2.1 (kepN n ([], l, e)).2.2) := by
  unfold bodyK; rw [if_neg h]
theorem badK_lo (seq : Int) (ks : List KepS) (h : seq < 1) : badK seq ks = true := by simp [badK, h]
theorem badK_hi (seq : Int) (ks : List KepS) (h : 1073741824 < seq) : badK seq ks = true := by simp [badK, h]
theorem badK_may (seq : Int) (ks : List KepS) (h1 : ¬ seq < 1) (h2 : ¬ 1073741824 < seq) : badK seq ks = ks.any fun k => !mayK k := by simp [badK, h1, h2]
end Go.Proofs.Ytcpifcdndhhmgaa
