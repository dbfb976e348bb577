/- Code behind a range over a function: the sparse walk with a frame's deferred calls kept aside. No program in sight. -/
import Derived.Test.YtcpifcdndhhmgaaKnJ
import Derived.Test.YtcpifcdndhhmgaaKnF
import Derived.Test.YtcpifcdndhhmgaaRetRd
set_option linter.unusedVariables false
set_option linter.unusedSimpArgs false
namespace Go.Proofs.Ytcpifcdndhhmgaa
open Go.RowKit
section
variable {P : Program} {Q : Exit → Act → World → Prop} {ds : List Deferred} {n : Nat} {L : Slots} {w : World}
def appD (ds : List Deferred) (a : Act) : Act := { a with defers := a.defers ++ ds }
def DQ (ds : List Deferred) (Q : Exit → Act → World → Prop) : Exit → Act → World → Prop := fun e a w => Q e (appD ds a) w
theorem lets_dq {Q' : Exit → Act → World → Prop} (hq : ∀ e a w, Q e a w → Q' e (appD ds a) w) (h : LetsOut Q) : LetsOut Q' := by obtain ⟨a, w, h⟩ := h; exact ⟨_, w, hq _ _ _ h⟩
theorem eval_appD (a : Act) : (appD ds a).eval = a.eval := by funext x; cases x <;> rfl
theorem put_appD (a : Act) (d : Option Tmp) (v : Value) : (appD ds a).put d v = appD ds (a.put d v) := by cases d <;> rfl
theorem list_ds {ops : Array Oper} {Q' : Exit → Act → World → Prop} (hq : ∀ e a w, Q e a w → Q' e (appD ds a) w) : ∀ (l : List Oper) (a : Act) (w : World), wpList P ops Q l a w → wpList P ops Q' l (appD ds a) w
  | [], _, _, h => hq _ _ _ h
  | o :: l, a, w, h => by
    unfold wpList at h ⊢
    rw [show (appD ds a).tmps = a.tmps from rfl]
    split at h
    · next hw =>
      rw [if_pos hw]
      rcases h with h | ⟨h1, h2⟩
      · refine .inl ?_
        unfold Oper.wp at h ⊢
        rw [eval_appD]
        generalize (execOp a.eval o).run P w = r at h
        cases r with
        | halt x w' => cases x <;> first | exact hq _ _ _ h | exact h.elim
        | ok x w' =>
          cases x
          case value v => show wpList _ _ _ _ _ _; rw [put_appD]; exact list_ds hq l _ _ h
          case skip => show wpList _ _ _ _ _ _; rw [put_appD]; exact list_ds hq l _ _ h
          case defer d =>
            show wpList _ _ _ _ (Act.put { a with defers := d :: (a.defers ++ ds) } o.dst undef) _
            have := list_ds hq l _ _ h
            rw [← put_appD] at this
            exact this
          case enter f args =>
            refine Calls.mono h fun e w'' he => ?_
            cases e with
            | returned v => show wpList _ _ _ _ _ _; rw [put_appD]; exact list_ds hq l _ _ he
            | panicked ch => exact hq _ _ _ he
            | outgrown => exact lets_dq hq he
          case row row args =>
            refine Rows.mono h fun v w'' he => ?_
            show wpList _ _ _ _ _ _; rw [put_appD]; exact list_ds hq l _ _ he
          all_goals exact h.elim
      · refine .inr ⟨?_, lets_dq hq h2⟩
        unfold Oper.asks at h1 ⊢
        rw [eval_appD]; exact h1
    · next hw =>
      rw [if_neg hw, put_appD]
      exact list_ds hq l _ _ h
/-- code behind such a loop, walked as code ahead of it is -/
structure KDW (P : Program) (ds : List Deferred) (c : Code) (Q : Exit → Act → World → Prop) (n : Nat) (L : Slots) (w : World) : Prop where
  h : ∀ a, Kn n L a → c.wp P Q (appD ds a) w
structure KDQ (ds : List Deferred) (Q : Exit → Act → World → Prop) (e : Exit) (n : Nat) (L : Slots) (w : World) : Prop where
  h : ∀ a, Kn n L a → Q e (appD ds a) w
theorem kd_of {c : Code} (h : KDW P ds c Q n L w) : ∀ a, Kn n L a → c.wp P Q { a with defers := ds } w := fun a k => by
  have := h.h a k
  unfold appD at this
  rw [k.def_, List.nil_append] at this
  exact this
theorem kdw_seq {x y : Code} (h : KDW P ds x (Exit.then (y.wp P Q) Q) n L w) : KDW P ds (.seq x y) Q n L w := ⟨fun a k => wp_seq (h.h a k)⟩
theorem kdw_skip (h : KDQ ds Q .normal n L w) : KDW P ds .skip Q n L w := ⟨fun a k => wp_skip (h.h a k)⟩
theorem kdw_ret (h : KDQ ds Q .ret n L w) : KDW P ds .ret Q n L w := ⟨fun a k => wp_ret (h.h a k)⟩
theorem kdw_exit {id : Nat} (h : KDQ ds Q (.exit id) n L w) : KDW P ds (.exit id) Q n L w := ⟨fun a k => wp_exit (h.h a k)⟩
theorem kdw_block {id : Nat} {c : Code} (h : KDW P ds c (Exit.inBlock id Q) n L w) : KDW P ds (.block id c) Q n L w := ⟨fun a k => wp_block (h.h a k)⟩
theorem kdw_ift {t : Tmp} {x y : Code} (hc : lk L t = some (.bool true)) (h : KDW P ds x Q n L w) : KDW P ds (.cond (.tmp t) x y) Q n L w := ⟨fun a k => wp_cond_true (k.all t _ hc) (h.h a k)⟩
theorem kdw_iff {t : Tmp} {x y : Code} (hc : lk L t = some (.bool false)) (h : KDW P ds y Q n L w) : KDW P ds (.cond (.tmp t) x y) Q n L w := ⟨fun a k => wp_cond_false (k.all t _ hc) (h.h a k)⟩
theorem kdw_less {c : Code} (ts : List Nat) (h : KDW P ds c Q n (nrm L ts) w) : KDW P ds c Q n L w := ⟨fun a k => h.h a (k.less ts)⟩
theorem kdq_then {x : Code} (h : KDW P ds x Q n L w) : KDQ ds (Exit.then (x.wp P Q) Q) .normal n L w := ⟨fun a k => h.h a k⟩
theorem kdq_then_exit {N : Act → World → Prop} {id : Nat} (h : KDQ ds Q (.exit id) n L w) : KDQ ds (Exit.then N Q) (.exit id) n L w := ⟨fun a k => h.h a k⟩
theorem kdq_block {id : Nat} (h : KDQ ds Q .normal n L w) : KDQ ds (Exit.inBlock id Q) .normal n L w := ⟨fun a k => h.h a k⟩
theorem kdq_block_here {id id' : Nat} (hi : Nat.beq id' id = true) (h : KDQ ds Q .normal n L w) : KDQ ds (Exit.inBlock id Q) (.exit id') n L w := ⟨fun a k => by
  show if id' = id then Q .normal _ w else Q (.exit id') _ w
  rw [if_pos (Nat.eq_of_beq_eq_true hi)]; exact h.h a k⟩
/-- regions: the laws for rows of operations do -/
theorem kdw_region {id : Nat} {l : List Oper} (h : KL P l.toArray (DQ ds Q) l n L w) : KDW P ds (.region id l.toArray false) Q n L w := ⟨fun a k => wp_region_lit (list_ds (fun _ _ _ h => h) l a w (h.h a k))⟩
theorem kq_d {e : Exit} (h : KDQ ds Q e n L w) : KQ (DQ ds Q) e n L w := ⟨fun a k => h.h a k⟩
/-- a loop -/
def AgainD (ds : List Deferred) (Q : Exit → Act → World → Prop) (I : Nat → Slots → World → Prop) (n m : Nat) : Exit → Act → World → Prop :=
  Exit.then (fun a w' => ∃ m' L' b, m' < m ∧ I m' L' w' ∧ Kn n L' b ∧ a = appD ds b) Q
theorem kdw_loop {c : Code} (I : Nat → Slots → World → Prop) {m : Nat} (h0 : I m L w) (round : ∀ m L' w', I m L' w' → KDW P ds c (AgainD ds Q I n m) n L' w') : KDW P ds (.loop c) Q n L w := ⟨fun a k => by
  classical
  have hex : ∀ (a : Act) (w : World), (∃ m L' b, I m L' w ∧ Kn n L' b ∧ a = appD ds b) → ∃ m, (∃ L' b, I m L' w ∧ Kn n L' b ∧ a = appD ds b) ∧ ∀ m', (∃ L' b, I m' L' w ∧ Kn n L' b ∧ a = appD ds b) → m ≤ m' := by
    intro a w h
    obtain ⟨m, hm⟩ := h
    induction m using Nat.strongRecOn with
    | _ m ih =>
      by_cases hl : ∃ m', m' < m ∧ ∃ L' b, I m' L' w ∧ Kn n L' b ∧ a = appD ds b
      · obtain ⟨m', h1, h2⟩ := hl
        exact ih m' h1 h2
      · exact ⟨m, hm, fun m' h' => Nat.le_of_not_lt fun hlt => hl ⟨m', hlt, h'⟩⟩
  let mu : Act → World → Nat := fun a w => if h : ∃ m L' b, I m L' w ∧ Kn n L' b ∧ a = appD ds b then Classical.choose (hex a w h) else 0
  refine wp_loop (fun a w => ∃ m L' b, I m L' w ∧ Kn n L' b ∧ a = appD ds b) mu ⟨m, L, a, h0, k, rfl⟩ fun a w' hI => ?_
  have hmu : mu a w' = Classical.choose (hex a w' hI) := dif_pos hI
  obtain ⟨⟨L1, b1, hI1, k1, e1⟩, hmin⟩ := Classical.choose_spec (hex a w' hI)
  rw [hmu]
  have hr := (round _ L1 w' hI1).h b1 k1
  rw [← e1] at hr
  refine Code.wp_mono (fun e a2 w2 hq => ?_) hr
  cases e with
  | normal =>
    obtain ⟨m2, L2, b2, hlt, hI2, k2, e2⟩ := hq
    have h2 : ∃ m L' b, I m L' w2 ∧ Kn n L' b ∧ a2 = appD ds b := ⟨m2, L2, b2, hI2, k2, e2⟩
    refine ⟨h2, ?_⟩
    have : mu a2 w2 = Classical.choose (hex a2 w2 h2) := dif_pos h2
    rw [this]
    exact Nat.lt_of_le_of_lt ((Classical.choose_spec (hex a2 w2 h2)).2 m2 ⟨L2, b2, hI2, k2, e2⟩) hlt
  | _ => exact hq⟩
theorem kdq_again {I : Nat → Slots → World → Prop} {m : Nat} (m' : Nat) (ts : List Nat) (hlt : m' < m) (hI : I m' (nrm L ts) w) : KDQ ds (AgainD ds Q I n m) .normal n L w :=
  ⟨fun a k => ⟨m', _, a, hlt, hI, k.less ts, rfl⟩⟩
theorem kdq_again_exit {I : Nat → Slots → World → Prop} {m id : Nat} (h : KDQ ds Q (.exit id) n L w) : KDQ ds (AgainD ds Q I n m) (.exit id) n L w := ⟨fun a k => h.h a k⟩
/-- the function's end: one value out of a slot -/
theorem kdq_ret1 {fn : Func} {R : Ending → World → Prop} {D t : Nat} {v : Value} (hr : fn.results = #[.tmp t]) (ht : lk L t = some v) (hD : w.heap[D]? = some (.deferred (some []))) (hR : R (.returned v) (w.putObj D (.deferred none))) :
    KDQ (markD D) (bodyPostM Fence.wide 3 P fn R) .ret n L w := ⟨fun a k => by
  show LeavesInM Fence.wide 3 P fn a.tmps R (a.defers ++ markD D) .returning w
  rw [k.def_, List.nil_append]
  have ht' := k.all t v ht
  refine leaves_mark hD ?_ hR
  simp [results, hr, go_sem]
  simpa using ht'⟩
end
end Go.Proofs.Ytcpifcdndhhmgaa
