/- An iterator's own code in the sparse walk: a function that calls the round it was handed. No program in sight. The sparse walk's law for a range over a function, and for what stands behind it. No program in sight. -/
import Derived.Test.YtcpifcdndhhmgaaKnI
import Derived.RangeFuncStops
import Derived.LoopIn
import Derived.BigFrameIn
import Derived.Test.YtcpifcdndhhmgaaTakSmall
set_option linter.unusedVariables false
set_option linter.unusedSimpArgs false
namespace Go.Proofs.Ytcpifcdndhhmgaa
open Go.RowKit
section
variable {P : Program} {Q : Exit → Act → World → Prop} {m n : Nat} {L : Slots} {w : World}
theorem uponW_of {o : Oper} {a : Act} {next : Act → World → Prop} {x : Result Next} (h : o.upon P a next Q x) : o.uponIn Fence.wide m P a next Q x := by
  cases x with
  | ok x w' =>
    cases x
    case enter f args => exact ⟨fun h => by simp [Fence.wide] at h, callsIn_wide.2 h⟩
    case row row args => exact ⟨fun h => by simp [Fence.wide] at h, fun c cs _ => let ⟨v, w', q, s⟩ := h c cs; ⟨v, w', q, stepsIn_wide.2 s⟩⟩
    all_goals first | exact h | exact h.elim
  | halt x w' => cases x <;> exact h
/-- what an operation, or what stands for it, comes to, goes over -/
theorem list_inW {ops : Array Oper} (hQ : ¬ LetsOut Q) : ∀ (l : List Oper) (a : Act) (w : World), wpList P ops Q l a w → wpListIn Fence.wide m P ops Q l a w
  | [], _, _, h => h
  | o :: l, a, w, h => by
    unfold wpList at h
    unfold wpListIn
    by_cases hw : Region.wanted o (yielded ops a.tmps) = true
    · rw [if_pos hw] at h ⊢
      have h := h.resolve_right fun h => hQ h.2
      refine ⟨fun _ _ => trivial, ?_⟩
      exact uponW_of (Oper.wp_mono (fun a w h => list_inW hQ l a w h) h)
    · rw [if_neg hw] at h ⊢
      exact ⟨fun _ _ => trivial, list_inW hQ l _ w h⟩
/-- the list's head alone walked plain -/
theorem list_headW {ops : Array Oper} (hQ : ¬ LetsOut Q) (l2 : List Oper) : ∀ (l : List Oper) (a : Act) (w : World), wpList P ops (Exit.then (fun a w => wpListIn Fence.wide m P ops Q l2 a w) Q) l a w → wpListIn Fence.wide m P ops Q (l ++ l2) a w
  | [], _, _, h => h
  | o :: l, a, w, h => by
    have hQ' : ¬ LetsOut (Exit.then (fun a w => wpListIn Fence.wide m P ops Q l2 a w) Q) := outs_then hQ
    unfold wpList at h
    rw [List.cons_append]
    unfold wpListIn
    by_cases hw : Region.wanted o (yielded ops a.tmps) = true
    · rw [if_pos hw] at h ⊢
      have h := h.resolve_right fun h => hQ' h.2
      refine ⟨fun _ _ => trivial, ?_⟩
      have h2 : o.upon P a (wpListIn Fence.wide m P ops Q (l ++ l2)) (Exit.then (fun a w => wpListIn Fence.wide m P ops Q l2 a w) Q) ((execOp a.eval o).run P w) := Oper.wp_mono (fun a w h => list_headW hQ l2 l a w h) h
      have h3 := uponW_of (m := m) h2
      show o.uponIn Fence.wide m P a _ Q ((execOp a.eval o).run P w)
      revert h3
      cases (execOp a.eval o).run P w with
      | ok x w' =>
        cases x
        case enter f args =>
          refine fun h3 => ⟨h3.1, h3.2.mono ?_⟩
          rintro (_ | _ | _) w2 h4 <;> first | exact h4 | exact (hQ' h4).elim
        all_goals exact fun h3 => h3
      | halt x w' => cases x <;> exact fun h3 => h3
    · rw [if_neg hw] at h ⊢
      exact ⟨fun _ _ => trivial, list_headW hQ l2 l _ w h⟩
/-- code, in the wide fence, over what is known -/
structure KC (P : Program) (m : Nat) (c : Code) (Q : Exit → Act → World → Prop) (n : Nat) (L : Slots) (w : World) : Prop where
  h : ∀ a, Kn n L a → c.wpIn Fence.wide m P Q a w
theorem kc_plain {c : Code} (h : KW P c Q n L w) : KC P m c Q n L w := ⟨fun a k => wpIn_wide.2 (h.h a k)⟩
theorem kc_seq {x y : Code} (h : KC P m x (Exit.then (y.wpIn Fence.wide m P Q) Q) n L w) : KC P m (.seq x y) Q n L w := ⟨fun a k => wpIn_seq (h.h a k)⟩
theorem kq_thenC {y : Code} (h : KC P m y Q n L w) : KQ (Exit.then (y.wpIn Fence.wide m P Q) Q) .normal n L w := ⟨fun a k => h.h a k⟩
theorem kc_skip (h : KQ Q .normal n L w) : KC P m .skip Q n L w := ⟨fun a k => wpIn_skip (h.h a k)⟩
theorem kc_ret (h : KQ Q .ret n L w) : KC P m .ret Q n L w := ⟨fun a k => wpIn_ret (h.h a k)⟩
theorem kc_exit {id : Nat} (h : KQ Q (.exit id) n L w) : KC P m (.exit id) Q n L w := ⟨fun a k => wpIn_exit (h.h a k)⟩
theorem kc_ift {t : Tmp} {x y : Code} (hc : lk L t = some (.bool true)) (h : KC P m x Q n L w) : KC P m (.cond (.tmp t) x y) Q n L w := ⟨fun a k => wpIn_cond_true (k.all t _ hc) (h.h a k)⟩
theorem kc_iff {t : Tmp} {x y : Code} (hc : lk L t = some (.bool false)) (h : KC P m y Q n L w) : KC P m (.cond (.tmp t) x y) Q n L w := ⟨fun a k => wpIn_cond_false (k.all t _ hc) (h.h a k)⟩
theorem kc_block {id : Nat} {c : Code} (h : KC P m c (Exit.inBlock id Q) n L w) : KC P m (.block id c) Q n L w := ⟨fun a k => wpIn_block (h.h a k)⟩
theorem kc_less {c : Code} (ts : List Nat) (h : KC P m c Q n (nrm L ts) w) : KC P m c Q n L w := ⟨fun a k => h.h a (k.less ts)⟩
theorem kc_loop {c : Code} (I : Nat → Slots → World → Prop) {m' : Nat} (h0 : I m' L w) (round : ∀ m' L' w', I m' L' w' → KC P m c (Again Q I n m') n L' w') : KC P m (.loop c) Q n L w := ⟨fun a k => by
  classical
  have hex : ∀ (a : Act) (w : World), (∃ m L', I m L' w ∧ Kn n L' a) → ∃ m, (∃ L', I m L' w ∧ Kn n L' a) ∧ ∀ m', (∃ L', I m' L' w ∧ Kn n L' a) → m ≤ m' := by
    intro a w h
    obtain ⟨m, hm⟩ := h
    induction m using Nat.strongRecOn with
    | _ m ih =>
      by_cases hl : ∃ m', m' < m ∧ ∃ L', I m' L' w ∧ Kn n L' a
      · obtain ⟨m', h1, h2⟩ := hl
        exact ih m' h1 h2
      · exact ⟨m, hm, fun m' h' => Nat.le_of_not_lt fun hlt => hl ⟨m', hlt, h'⟩⟩
  let mu : Act → World → Nat := fun a w => if h : ∃ m L', I m L' w ∧ Kn n L' a then Classical.choose (hex a w h) else 0
  refine wpIn_loop (fun a w => ∃ m L', I m L' w ∧ Kn n L' a) mu ⟨m', L, h0, k⟩ fun a w' hI => ?_
  have hmu : mu a w' = Classical.choose (hex a w' hI) := dif_pos hI
  obtain ⟨⟨L1, hI1, k1⟩, hmin⟩ := Classical.choose_spec (hex a w' hI)
  rw [hmu]
  refine wpIn_mono ((round _ L1 w' hI1).h a k1) (fun e a2 w2 hq => ?_)
  cases e with
  | normal =>
    obtain ⟨m2, L2, hlt, hI2, k2⟩ := hq
    have h2 : ∃ m L', I m L' w2 ∧ Kn n L' a2 := ⟨m2, L2, hI2, k2⟩
    refine ⟨h2, ?_⟩
    have : mu a2 w2 = Classical.choose (hex a2 w2 h2) := dif_pos h2
    rw [this]
    exact Nat.lt_of_le_of_lt ((Classical.choose_spec (hex a2 w2 h2)).2 m2 ⟨L2, hI2, k2⟩) hlt
  | _ => exact hq⟩
/-- a region that holds a call of the round: what stands before it walked plain -/
theorem kc_regionY {id : Nat} {l : List Oper} (k : Nat) (hQ : ¬ LetsOut Q) (h : KL P l.toArray (Exit.then (fun a w => wpListIn Fence.wide m P l.toArray Q (l.drop k) a w) Q) (l.take k) n L w) : KC P m (.region id l.toArray false) Q n L w := ⟨fun a ka => by
  refine wpIn_region_lit ?_
  have := list_headW (m := m) hQ (l.drop k) (l.take k) a w (h.h a ka)
  rwa [List.take_append_drop] at this⟩
/-- the call of the round, and what stands behind it -/
theorem kq_yield {l l2 : List Oper} {y : Oper} {k lp d t x : Nat} {v : Value} {ts : Array TypeId} (hl : l.drop k = y :: l2) (hQ : ¬ LetsOut Q) (hd : y.dst = some d) (hg : y.guard = none) (ho : y.op = .call { callee := .value (.tmp t), args := #[.tmp x], argTypes := ts })
    (ht : lk L t = some (.func (.yield lp) #[] #[])) (hx : lk L x = some v) (hn : Nat.blt d n = true)
    (h : YieldAt Fence.wide (m - 1) P lp #[v] w fun e w' => ∃ b, e = .returned (.bool b) ∧ KL P l.toArray Q l2 n ((d, .bool b) :: L) w') : KQ (Exit.then (fun a w => wpListIn Fence.wide m P l.toArray Q (l.drop k) a w) Q) .normal n L w := ⟨fun a ka => by
  show wpListIn Fence.wide m P l.toArray Q (l.drop k) a w
  rw [hl]
  refine BigFrame.wpListIn_want (by simp [Region.wanted, hg]) fun K hK => ⟨fun _ _ => trivial, ?_⟩
  obtain ⟨fn, tmps, assign, body, hy, hR⟩ := h
  have he : (execOp a.eval y).run P w = .ok (.round lp fn tmps assign body) w := by
    have h1 : a.eval (.tmp t) = .func (.yield lp) #[] #[] := ka.ev ht
    have h2 : a.eval (.tmp x) = v := ka.ev hx
    obtain ⟨dst, op, type, pos, after, guard⟩ := y
    subst ho
    simp only [execOp, resolve, h1, List.map_toArray, List.map_cons, List.map_nil, h2]
    simpa [Deferred.ofValue, invoke, go_sem] using hy
  show y.uponIn Fence.wide m P a K Q ((execOp a.eval y).run P w)
  rw [he]
  refine ⟨fun h => by simp [Fence.wide] at h, hR.mono ?_⟩
  rintro e w' ⟨b, rfl, hb⟩
  exact hK _ _ (list_inW hQ _ _ _ (kl_back ka hd hn hb))⟩
/-- the iterator's contract from its code -/
theorem calls_kc {f : FuncId} {fn : Func} {c : Code} {args : List Value} {R : Ending → World → Prop} (hf : P.funcs[f]? = some fn) (hb : fn.body = some c) {n : Nat} (hn : fn.ntmps = n) (hle : Nat.ble args.length n = true)
    (L : Slots) (hL : L = (List.range args.length).zip args) (h : KC P m c (bodyPost P fn R) n L w) : CallsIn Fence.wide m P f args.toArray w R := by
  have hle' := Nat.le_of_ble_eq_true hle
  refine callsIn_of_wp hf hb trivial (h.h _ ?_)
  have := kn_enter args (n - args.length) L hL
  rw [show args.length + (n - args.length) = n by omega] at this
  rw [hn]
  simpa using this
end
end Go.Proofs.Ytcpifcdndhhmgaa
set_option linter.unusedVariables false
set_option linter.unusedSimpArgs false
namespace Go.Proofs.Ytcpifcdndhhmgaa
open Go.RowKit
section
variable {P : Program} {Q : Exit → Act → World → Prop} {n : Nat} {L : Slots} {w : World}
def markD (D : Nat) : List Deferred := [{ target := .collected D, args := #[] }]
theorem kw_range {α : Type} {t p gf : Nat} {lb : Array Value} {assign body : Code} (Lx : α → Slots) (ht : lk L t = some (.func (.func gf) #[] lb)) (eg : ∀ args w, (callFunc gf args).run P w = .ok (.enter gf args) w)
    {enc : α → Value} {Kp : World → World → Prop} {S Sp : List α → Prop} {N : Nat} (hseq : SeqStopsK Fence.wide 2 P gf lb (fun x => #[enc x]) Kp S Sp N w)
    (hKt : ∀ {A B C : World}, Kp A B → Kp B C → Kp A C) (hKb : ∀ (W : World) (l : Nat) (o o' : Obj), w.heap.size ≤ l → W.heap[l]? = some o → o.isCells = false → o.isWalk = false → Kp W (W.putObj l o')) (hKr : ∀ W, Kp W W) (hp : Nat.blt p n = true)
    (I : List α → World → Prop) (Ix : Code → List α → World → Prop) (hI : OwnFrom w.heap.size I) (hIx : ∀ c, OwnFrom w.heap.size (Ix c)) (h0 : I [] w)
    (hassign : ∀ (l : Nat) (x : α) (W : World) (K : Act → World → Prop), (∀ a', Kn n (Lx x) a' → K a' W) → KR P l 1 assign (Exit.then K (fun _ _ _ => False)) n ((p, enc x) :: L) W)
    (hbody : ∀ (l : Nat) (pre : List α) (x : α) (W : World), w.heap.size ≤ l → I pre W → pre.length < N → KR P l 1 body (ownPostG w.heap.size Kp I Ix (pre ++ [x]) W) n (Lx x) W)
    (hdone : ∀ (D : Nat) (xs : List α) (W : World), w.heap.size ≤ D → S xs → I xs W → W.heap[D]? = some (.deferred (some [])) → ∀ a, Kn n L a → Q .normal { a with defers := markD D } W)
    (hstop : ∀ (D : Nat) (c : Code) (pre : List α) (W : World), w.heap.size ≤ D → Sp pre → Ix c pre W → W.heap[D]? = some (.deferred (some [])) → ∀ a, Kn n L a → c.wp P Q { a with defers := markD D } W) :
    KW P (.rangeFunc (.tmp t) #[p] assign body) Q n L w := ⟨fun a k => by
  refine wpIn_wide.1 (wpIn_rangeFunc_ownH (F := Fence.wide) (n := 3) rfl (by omega) (k.ev ht) trivial eg hseq (fun h k => hKt h k) hKb (Below.refl _ _) (fun _ => rfl) I Ix hI hIx h0 (fun x a' _ => Kn n (Lx x) a') (fun _ _ _ _ _ _ hs _ _ => hs) ?_ ?_ ?_ ?_)
  · intro l pre x W K hi hK
    refine (hassign l x W K fun a' ka => hK a' W (KeepsFrom.refl _ _) (hKr W) hi ka).h _ ?_
    have hk := k.put p (enc x) hp
    have e : ({ tmps := ((#[p] : Array Tmp).zip #[enc x]).foldl (fun t (p, v) => t.setIfInBounds p v) a.tmps, defers := [] } : Act) = a.put (some p) (enc x) := by
      have := k.def_
      obtain ⟨ts, ds⟩ := a
      simp only at this
      subst this
      simp [Act.put]
    rw [e]; exact hk
  · intro l pre x a' W hl _ hi ka hlen
    exact (hbody l pre x W hl hi hlen).h a' ka
  · intro D xs W hD hS hi hd
    rw [k.def_]
    exact hdone D xs W hD hS hi hd a k
  · intro D c pre W hD hS hi hd
    rw [k.def_]
    exact wpIn_wide.2 (hstop D c pre W hD hS hi hd a k)⟩
/-- code behind such a loop -/
structure KD (P : Program) (ds : List Deferred) (c : Code) (Q : Exit → Act → World → Prop) (n : Nat) (L : Slots) (w : World) : Prop where
  h : ∀ a, Kn n L a → c.wp P Q { a with defers := ds } w
theorem kd_seq {ds : List Deferred} {x y : Code} (h : KD P ds x (Exit.then (y.wp P Q) Q) n L w) : KD P ds (.seq x y) Q n L w := ⟨fun a k => wp_seq (h.h a k)⟩
theorem kd_ret {ds : List Deferred} (h : ∀ a, Kn n L a → Q .ret { a with defers := ds } w) : KD P ds .ret Q n L w := ⟨fun a k => wp_ret (h a k)⟩
/-- a region of one operation that gives nothing -/
theorem kd_run0 {ds : List Deferred} {id : Nat} {o : Oper} {y : Code} {w' : World} (hd : o.dst = none) (hg : o.guard = none) (hk : okop L o.op = true) (hr : (execOp (ev L) o).run P w = .ok .skip w') (h : KD P ds y Q n L w') :
    KD P ds (.region id [o].toArray false) (Exit.then (y.wp P Q) Q) n L w := ⟨fun a k => by
  refine wp_region_lit (wpList_plain hg fun K hK => ?_)
  unfold Oper.wp
  rw [show ({ a with defers := ds } : Act).eval = a.eval from rfl, k.exec hk, hr]
  refine hK _ _ ?_
  rw [hd]
  exact h.h a k⟩
theorem boxed_below {W W' : World} {B : Nat} {t : TypeId} {v : Value} (h : Boxed W B t v) (hb : Below W.heap.size W W') : Boxed W' B t v := (hb.block B h.lt).trans h
theorem boxed_own {W W' : World} {row : Option Nat} {B : Nat} {t : TypeId} {v : Value} (h : Boxed W B t v) (hg : W.grownBy W' row) (hr : ∀ r, row = some r → ∃ o : Obj, W.heap[r]? = some o ∧ o.isCells = false) : Boxed W' B t v :=
  h.kept hg fun e => by
    obtain ⟨o, ho, hc⟩ := hr B e.symm
    rw [show W.heap[B]? = _ from h] at ho; cases ho; cases hc
theorem bs_own {W W' : World} {row : Option Nat} {A : Option Addr} {m : Nat} {l : List UInt8} (h : Bs W A m l) (hg : W.grownBy W' row) (hr : ∀ r, row = some r → ∃ o : Obj, W.heap[r]? = some o ∧ o.isCells = false) : Bs W' A m l :=
  ⟨h.1, fun hn => by
    obtain ⟨b, o, e, hc⟩ := h.2 hn
    exact ⟨b, o, e, fun i u hu => cell_kept (hc i u hu) hg hr⟩⟩
theorem grown_own {w W W' : World} {row r0 : Option Nat} {B : Nat} (h : w.grownBy W r0) (hg : W.grownBy W' row) (hB : w.heap.size ≤ B) (hr : ∀ r, row = some r → B ≤ r) : w.grownBy W' r0 :=
  ⟨hg.os.trans h.os, hg.tape.trans h.tape, hg.output.trans h.output, Nat.le_trans h.size hg.size, fun k hk hne => (hg.block k (Nat.lt_of_lt_of_le hk h.size) (fun e => by have := hr k e.symm; omega)).trans (h.block k hk hne)⟩
end
end Go.Proofs.Ytcpifcdndhhmgaa
