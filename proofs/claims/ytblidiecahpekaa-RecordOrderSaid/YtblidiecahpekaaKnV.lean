/- The sparse walk's laws for a call of a function value, and for copy. -/
import Derived.Test.YtblidiecahpekaaKnOps
import Derived.Test.YtblidiecahpekaaFlashMem
set_option linter.unusedVariables false
set_option linter.unusedSimpArgs false
namespace Go.Proofs.Ytblidiecahpekaa
open Go.RowKit
section
variable {P : Program} {Q : Exit → Act → World → Prop} {n : Nat} {L : Slots} {w : World} {ops : Array Oper} {rest : List Oper} {o : Oper}
theorem kl_callv {d t : Nat} {f : FuncId} {fn : Func} {c : Code} {xs : List Operand} {ts : Array TypeId} {lb : Array Value} (hd : o.dst = some d) (hg : o.guard = none) (ho : o.op = .call { callee := .value (.tmp t), args := xs.toArray, argTypes := ts })
    (ht : lk L t = some (.func (.func f) #[] lb)) (hf : P.funcs[f]? = some fn) (hb : fn.body = some c) (hn : (fn.name == "runtime.NumGoroutine") = false) (hk : (xs.all (okx L) && Nat.blt d n) = true)
    (h : Calls P f ((xs.map (ev L)).toArray ++ lb) w fun e w' => ∃ v, e = .returned v ∧ KL P ops Q rest n ((d, v) :: L) w') : KL P ops Q (o :: rest) n L w := by
  have hk' := hk
  simp only [Bool.and_eq_true] at hk'
  have hv : ev L (.tmp t) = .func (.func f) #[] lb := by simp [ev, ht]
  refine kl_step hd hg ?_ fun K hK => ?_
  · simp only [ho, okop, Bool.and_eq_true]
    exact ⟨⟨hk'.1, by simp [okx, ht]⟩, hk'.2⟩
  · have he : execOp (ev L) o = callFunc f (#[] ++ xs.toArray.map (ev L) ++ lb) := by
      obtain ⟨dst, op, type, pos, after, guard⟩ := o
      subst ho
      simp only [execOp, resolve, hv]
      rfl
    rw [he, run_callFunc hf hb hn]
    simp only [Array.empty_append, List.map_toArray]
    refine Calls.mono h ?_
    rintro e w'' ⟨v, rfl, hv⟩
    exact ⟨v, rfl, hK _ _ hv⟩
end
section
variable {Q : Exit → Act → World → Prop} {n : Nat} {L : Slots} {w : World} {ops : Array Oper} {rest : List Oper} {o : Oper}
/-- copy of bytes into bytes of the call's own -/
theorem kl_copy {d x y : Nat} (hd : o.dst = some d) (hg : o.guard = none) (ho : o.op = .call { callee := .builtin .copy, args := #[.tmp x, .tmp y], argTypes := #[32, 32] })
    (g off dLen dCap : Nat) (A : Option Addr) (m c : Nat) (k : List UInt8) (hx : lk L x = some (.slice (some ⟨g, off, none⟩) dLen dCap)) (hy : lk L y = some (.slice A m c)) (hA : Bs w A m k)
    (cur : List Value) (t : TypeId) (hcur : w.heap[g]? = some (.cells cur.toArray t (0, 0))) (hfit : off + min m dLen ≤ cur.length) (B : Nat) (w0 : World) (hb : Below B w0 w) (hBg : B ≤ g) (hn : Nat.blt d n = true)
    (h : ∀ w', Hid (w'.heap[g]? = some (.cells (splice cur off (bv (k.take (min m dLen)))).toArray t (0, 0))) → Below B w0 w' → KL Try.prog ops Q rest n ((d, .int .i64 (min m dLen : Nat)) :: L) w') : KL Try.prog ops Q (o :: rest) n L w :=
  ⟨fun a ka => copyB hg (.tmp x) (.tmp y) ho g off dLen dCap A m c k (ka.ev hx) (ka.ev hy) hA cur t hcur hfit B w0 hb hBg fun w' h1 h2 => kl_back ka hd hn (h w' h1 h2)⟩
end
end Go.Proofs.Ytblidiecahpekaa
