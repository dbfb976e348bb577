/- The document's flash memory: Erase, Program. The document's flash memory: Program. Records: the document's Append. A range over a function in the sparse walk: the body's round, the function's end. No program in sight. -/
import Derived.Test.YtcpifcdndhhmgaaRefChange
import Derived.Test.YtcpifcdndhhmgaaFlashProg
import Derived.Test.YtcpifcdndhhmgaaPsT
import Derived.Test.YtcpifcdndhhmgaaKn
import Derived.RangeFuncNested
import Derived.RangeFuncBound
import Derived.RangeFuncCalls
import Derived.RangeFuncLeaves
set_option linter.unusedVariables false
set_option linter.unusedSimpArgs false
namespace Go.Proofs.Ytcpifcdndhhmgaa
open Go.RowKit

end Go.Proofs.Ytcpifcdndhhmgaa
set_option linter.unusedVariables false
set_option linter.unusedSimpArgs false
namespace Go.Proofs.Ytcpifcdndhhmgaa
open Go.RowKit

def lenOf : Value → Nat
  | .slice _ n _ => n
  | _ => 0
end Go.Proofs.Ytcpifcdndhhmgaa
set_option linter.unusedVariables false
set_option linter.unusedSimpArgs false
namespace Go.Proofs.Ytcpifcdndhhmgaa
open Go.RowKit
attribute [local go_sem] ev_tmp ev_const ev_func ev_global lk_hit lk_miss uponK_value uponK_skip look_tmp look_const look_global look_func valP_value
def AppP (Q : Nat → Prop) (F : (Nat → Prop) → World → Nat → FlashSt → Prop) (g : Nat) (f : FlashSt) (s : Int) (b : List UInt8) (w : World) (e : Ending) (w' : World) : Prop := e = .returned (.int .i64 (appendP f s b).1) ∧ F Q w' g (appendP f s b).2 ∧ w.grownBy w' (some g)
theorem mid_piece (X : List UInt8) (q e : Nat) (hq : q ≤ X.length) (he : e = min (q + 16) X.length) : (X.take e).drop q = (X.drop q).take 16 := by
  rw [List.drop_take]
  subst he
  apply List.ext_getElem?
  intro j
  rw [List.getElem?_take, List.getElem?_take, List.getElem?_drop]
  by_cases h1 : j < 16
  · rw [if_pos h1]
    by_cases h2 : q + j < X.length
    · rw [if_pos (by omega)]
    · rw [List.getElem?_eq_none (by omega), ite_self]
  · rw [if_neg h1, if_neg (by omega)]
end Go.Proofs.Ytcpifcdndhhmgaa
set_option linter.unusedVariables false
set_option linter.unusedSimpArgs false
namespace Go.Proofs.Ytcpifcdndhhmgaa
open Go.RowKit
section
variable {P : Program} {Q : Exit → Act → World → Prop} {r m n : Nat} {L : Slots} {w : World}
theorem uponIn_of {o : Oper} {a : Act} {next : Act → World → Prop} {x : Result Next} (h : o.upon P a next Q x) : o.uponIn (Fence.wide.inRound r) m P a next Q x := by
  cases x with
  | ok x w' =>
    cases x
    case enter f args => exact ⟨fun h => by simp [Fence.wide] at h, CallsIn.inRound r (callsIn_wide.2 h)⟩
    case row row args => exact ⟨fun h => by simp [Fence.wide] at h, fun c cs _ => let ⟨v, w', q, s⟩ := h c cs; ⟨v, w', q, stepsIn_wide.2 s⟩⟩
    all_goals first | exact h | exact h.elim
  | halt x w' => cases x <;> exact h
def noDefB (o : Oper) : Bool := match o.op with | .defer _ => false | _ => true
theorem noDef_of {o : Oper} (h : noDefB o = true) : ∀ c, o.op ≠ .defer c := fun c e => by simp [noDefB, e] at h
theorem list_in {ops : Array Oper} (hQ : ¬ LetsOut Q) : ∀ (l : List Oper) (a : Act) (w : World), l.all noDefB = true → wpList P ops Q l a w → wpListIn (Fence.wide.inRound r) m P ops Q l a w
  | [], _, _, _, h => h
  | o :: l, a, w, hl, h => by
    simp only [List.all_cons, Bool.and_eq_true] at hl
    unfold wpList at h
    unfold wpListIn
    by_cases hw : Region.wanted o (yielded ops a.tmps) = true
    · rw [if_pos hw] at h ⊢
      have h := h.resolve_right fun h => hQ h.2
      refine ⟨fun _ _ => trivial, ?_⟩
      rw [Fence.inRound_round, Oper.semAt_some _ _ _ (noDef_of hl.1)]
      exact uponIn_of (Oper.wp_mono (fun a w h => list_in hQ l a w hl.2 h) h)
    · rw [if_neg hw] at h ⊢
      exact ⟨fun _ _ => trivial, list_in hQ l _ w hl.2 h⟩
/-- code in a round, over what is known -/
structure KR (P : Program) (r m : Nat) (c : Code) (Q : Exit → Act → World → Prop) (n : Nat) (L : Slots) (w : World) : Prop where
  h : ∀ a, Kn n L a → c.wpIn (Fence.wide.inRound r) m P Q a w
theorem kr_seq {x y : Code} (h : KR P r m x (Exit.then (y.wpIn (Fence.wide.inRound r) m P Q) Q) n L w) : KR P r m (.seq x y) Q n L w := ⟨fun a k => wpIn_seq (h.h a k)⟩
theorem kr_skip (h : KQ Q .normal n L w) : KR P r m .skip Q n L w := ⟨fun a k => wpIn_skip (h.h a k)⟩
theorem kr_ret (h : KQ Q .ret n L w) : KR P r m .ret Q n L w := ⟨fun a k => wpIn_ret (h.h a k)⟩
theorem kr_ift {t : Tmp} {x y : Code} (hc : lk L t = some (.bool true)) (h : KR P r m x Q n L w) : KR P r m (.cond (.tmp t) x y) Q n L w := ⟨fun a k => wpIn_cond_true (k.all t _ hc) (h.h a k)⟩
theorem kr_iff {t : Tmp} {x y : Code} (hc : lk L t = some (.bool false)) (h : KR P r m y Q n L w) : KR P r m (.cond (.tmp t) x y) Q n L w := ⟨fun a k => wpIn_cond_false (k.all t _ hc) (h.h a k)⟩
theorem kr_block {id : Nat} {c : Code} (h : KR P r m c (Exit.inBlock id Q) n L w) : KR P r m (.block id c) Q n L w := ⟨fun a k => wpIn_block (h.h a k)⟩
theorem kr_region {id : Nat} {l : List Oper} (hQ : ¬ LetsOut Q) (hd : l.all noDefB = true) (h : KL P l.toArray Q l n L w) : KR P r m (.region id l.toArray false) Q n L w := ⟨fun a k => wpIn_region_lit (list_in hQ l a w hd (h.h a k))⟩
theorem kq_thenR {y : Code} (h : KR P r m y Q n L w) : KQ (Exit.then (y.wpIn (Fence.wide.inRound r) m P Q) Q) .normal n L w := ⟨fun a k => h.h a k⟩
theorem outs_then {N : Act → World → Prop} (h : ¬ LetsOut Q) : ¬ LetsOut (Exit.then N Q) := fun ⟨a, w, hx⟩ => h ⟨a, w, hx⟩
theorem outs_block {id : Nat} (h : ¬ LetsOut Q) : ¬ LetsOut (Exit.inBlock id Q) := fun ⟨a, w, hx⟩ => h ⟨a, w, hx⟩
theorem outs_own {α : Type} {B : Nat} {Kp : World → World → Prop} {I : List α → World → Prop} {Ix : Code → List α → World → Prop} {xs : List α} {W : World} : ¬ LetsOut (ownPostG B Kp I Ix xs W) := fun ⟨_, _, hx⟩ => hx
end
/-! ### a function that holds such a loop -/
section
variable {P : Program} {n : Nat} {L : Slots} {w : World}
theorem calls_kwm {f : FuncId} {fn : Func} {c : Code} {args : List Value} {R : Ending → World → Prop} (hf : P.funcs[f]? = some fn) (hb : fn.body = some c) {n : Nat} (hn : fn.ntmps = n) (hle : Nat.ble args.length n = true)
    (L : Slots) (hL : L = (List.range args.length).zip args) (h : KW P c (bodyPostM Fence.wide 3 P fn R) n L w) : Calls P f args.toArray w R := by
  have hle' := Nat.le_of_ble_eq_true hle
  refine callsIn_wide.1 (callsIn_of_wp_marks (n := 3) hf hb trivial (wpIn_wide.2 (h.h _ ?_)))
  have := kn_enter args (n - args.length) L hL
  rw [show args.length + (n - args.length) = n by omega] at this
  rw [hn]
  simpa using this
/-- the function's end ahead of any such loop -/
theorem kqm_retv {fn : Func} {R : Ending → World → Prop} {v : Value} (hr : ∀ a, Kn n L a → (results fn a.tmps).run P w = .ok v w) (hR : R (.returned v) w) : KQ (bodyPostM Fence.wide 3 P fn R) .ret n L w := ⟨fun a k => by
  show LeavesInM Fence.wide 3 P fn a.tmps R a.defers .returning w
  rw [k.def_]
  exact ⟨_, hr a k, hR⟩⟩
/-- .. and behind it -/
theorem leaves_mark {fn : Func} {R : Ending → World → Prop} {tmps : Array Value} {D : Nat} {v : Value} (hD : w.heap[D]? = some (.deferred (some []))) (hr : (results fn tmps).run P (w.putObj D (.deferred none)) = .ok v (w.putObj D (.deferred none))) (hR : R (.returned v) (w.putObj D (.deferred none))) :
    LeavesInM Fence.wide 3 P fn tmps R [{ target := .collected D, args := #[] }] .returning w :=
  ⟨by simp, .inl ⟨D, _, rfl, run_takeDeferred hD, ⟨_, hr, hR⟩⟩⟩
end
end Go.Proofs.Ytcpifcdndhhmgaa
