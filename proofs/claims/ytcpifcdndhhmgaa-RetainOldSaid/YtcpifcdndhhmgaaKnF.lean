/- Regions that draw their order, walked in their order: 'floaters' (their value is the same in every world that the region meets) may come at any time; all else comes in one order. No program in sight. -/
import Derived.Test.YtcpifcdndhhmgaaKn
import Derived.Deep.MidRow
set_option linter.unusedVariables false
set_option linter.unusedSimpArgs false
namespace Go.Proofs.Ytcpifcdndhhmgaa
open Go.RowKit
section
variable {P : Program} {ops : Array Oper} {R : World → Prop} {Q : Exit → Act → World → Prop}
def NoSel (o : Oper) : Prop := ∀ cs b, o.op ≠ .select cs b
def noSelB (o : Oper) : Bool := match o.op with | .select _ _ => false | _ => true
theorem noSel_of {o : Oper} (h : noSelB o = true) : NoSel o := fun cs b e => by simp [noSelB, e] at h
/-- a floater's value -/
def YieldsR (P : Program) (ops : Array Oper) (R : World → Prop) (o : Oper) (v : Value) (a : Act) : Prop :=
  (Region.wanted o (yielded ops a.tmps) = true ∧ ∀ W, R W → (execOp a.eval o).run P W = .ok (.value v) W) ∨ (Region.wanted o (yielded ops a.tmps) = false ∧ v = undef)
theorem YieldsR.of_same {o : Oper} {v : Value} {a a' : Act} (hy : YieldsR P ops R o v a) (he : execOp a'.eval o = execOp a.eval o) (hw : Region.wanted o (yielded ops a'.tmps) = Region.wanted o (yielded ops a.tmps)) : YieldsR P ops R o v a' := by
  unfold YieldsR at *
  rw [he, hw]
  exact hy
theorem YieldsR.put {o : Oper} {v u : Value} {a : Act} {d : Option Tmp} (hs : NoSel o) (h : ∀ e, d = some e → e ∉ o.looksAt ops) : YieldsR P ops R o v (a.put d u) ↔ YieldsR P ops R o v a :=
  ⟨fun y => y.of_same (execOp_put o hs a d u h).symm (wanted_put o a d u h).symm, fun y => y.of_same (execOp_put o hs a d u h) (wanted_put o a d u h)⟩
theorem YieldsR.uniq {o : Oper} {v u : Value} {a : Act} {W : World} (hW : R W) (h : YieldsR P ops R o v a) (k : YieldsR P ops R o u a) : v = u := by
  rcases h with ⟨h1, h2⟩ | ⟨h1, rfl⟩ <;> rcases k with ⟨k1, k2⟩ | ⟨k1, rfl⟩
  · have := (h2 W hW).symm.trans (k2 W hW)
    injection this with this
    injection this
  · rw [h1] at k1; cases k1
  · rw [h1] at k1; cases k1
  · rfl
/-- the walk: floaters' flags ahead -/
def FQ (R : World → Prop) (N : Act → World → Prop) : Exit → Act → World → Prop := fun e a w => e = .normal ∧ R w ∧ N a w
def wpF (P : Program) (ops : Array Oper) (R : World → Prop) (Q : Exit → Act → World → Prop) : List (Bool × Oper) → Act → World → Prop
  | [], a, w => Q .normal a w
  | (true, o) :: r, a, w => ∃ v, YieldsR P ops R o v a ∧ wpF P ops R Q r (a.put o.dst v) w
  | (false, o) :: r, a, w => wpList P ops (FQ R (wpF P ops R Q r)) [o] a w
theorem noLets (N : Act → World → Prop) : ¬ LetsOut (FQ R N) := fun ⟨_, _, h⟩ => by cases h.1
theorem one_iff {o : Oper} {a : Act} {w : World} {N : Act → World → Prop} :
    wpList P ops (FQ R N) [o] a w ↔ if Region.wanted o (yielded ops a.tmps) = true then o.wp P a w (fun a' w' => R w' ∧ N a' w') (fun _ _ _ => False) else R w ∧ N (a.put o.dst undef) w := by
  unfold wpList
  have key : ∀ a w, wpList P ops (FQ R N) [] a w ↔ R w ∧ N a w := fun a w => ⟨fun h => h.2, fun h => ⟨rfl, h⟩⟩
  have conv : ∀ a w, o.wp P a w (wpList P ops (FQ R N) []) (FQ R N) ↔ o.wp P a w (fun a' w' => R w' ∧ N a' w') (fun _ _ _ => False) := by
    intro a w
    unfold Oper.wp
    generalize (execOp a.eval o).run P w = r
    cases r with
    | ok n w' =>
      cases n <;> simp only [Oper.upon, key]
      constructor
      · intro h; exact Calls.mono h fun e w'' he => by cases e <;> first | exact he | (exact absurd he.1 (by simp)) | exact absurd he (noLets _)
      · intro h; exact Calls.mono h fun e w'' he => by cases e <;> first | exact he | exact he.elim | exact he.elim (fun _ ⟨_, h⟩ => h.elim)
    | halt x w' =>
      cases x <;> simp only [Oper.upon, FQ]
      simp
  split
  · rename_i hw
    rw [conv]
    constructor
    · rintro (h | h)
      · exact h
      · exact absurd h.2 (noLets _)
    · exact .inl
  · rename_i hw
    exact key _ _
theorem wp_some {o : Oper} {a : Act} {w : World} {K : Act → World → Prop} (h : o.wp P a w K (fun _ _ _ => False)) : ∃ a' w', K a' w' := by
  unfold Oper.wp at h
  generalize (execOp a.eval o).run P w = r at h
  cases r with
  | ok n w' =>
    cases n <;> simp only [Oper.upon] at h
    case value => exact ⟨_, _, h⟩
    case skip => exact ⟨_, _, h⟩
    case defer => exact ⟨_, _, h⟩
    case enter f args =>
      obtain ⟨e, w2, fr, he, _⟩ := h []
      cases e with
      | returned v => exact ⟨_, _, he⟩
      | panicked c => exact he.elim
      | outgrown => exact he.elim fun _ h => h.elim fun _ h => h.elim
    case row row args =>
      have := h default []
      obtain ⟨v, w2, hv, _⟩ := this
      exact ⟨_, _, hv⟩
  | halt x w' => cases x <;> simp only [Oper.upon] at h
theorem wp_form {o : Oper} {a : Act} {w : World} {K : Act → World → Prop} (h : o.wp P a w K (fun _ _ _ => False)) : o.wp P a w (fun a' w' => K a' w' ∧ ∃ u D, a' = ({ a with defers := D } : Act).put o.dst u) (fun _ _ _ => False) := by
  unfold Oper.wp at *
  generalize (execOp a.eval o).run P w = r at *
  cases r with
  | ok n w' =>
    cases n <;> simp only [Oper.upon] at h ⊢
    case value v => exact ⟨h, v, a.defers, rfl⟩
    case skip => exact ⟨h, undef, a.defers, rfl⟩
    case defer d => exact ⟨h, undef, d :: a.defers, rfl⟩
    case enter f args =>
      refine Calls.mono h fun e w'' he => ?_
      cases e with
      | returned v => exact ⟨he, v, a.defers, rfl⟩
      | panicked c => exact he
      | outgrown => exact he
    case row row args => exact Rows.mono h fun v w'' he => ⟨he, v, a.defers, rfl⟩
  | halt x w' => cases x <;> simp only [Oper.upon] at h
theorem wp_put {o : Oper} (hs : NoSel o) {d : Option Tmp} (h1 : ∀ e, d = some e → e ∉ o.looksAt ops) (h2 : ∀ e, o.dst = some e → d ≠ some e) {v : Value} {a : Act} {w : World} {K : Act → World → Prop} :
    o.wp P (a.put d v) w K (fun _ _ _ => False) ↔ o.wp P a w (fun a' w' => K (a'.put d v) w') (fun _ _ _ => False) := by
  unfold Oper.wp
  rw [execOp_put o hs a d v h1]
  generalize (execOp a.eval o).run P w = r
  have hc : ∀ (b : Act) u, (b.put o.dst u).put d v = (b.put d v).put o.dst u := fun b u => Act.put_comm b u v h2
  cases r with
  | ok n w' =>
    cases n <;> simp only [Oper.upon]
    case value u => rw [hc]
    case skip => rw [hc]
    case defer x =>
      rw [hc]
      cases d <;> exact Iff.rfl
    case enter f args =>
      constructor
      · intro h; exact Calls.mono h fun e w'' he => by
          cases e with
          | returned u => show K _ _; rw [hc]; exact he
          | panicked c => exact he
          | outgrown => exact he
      · intro h; exact Calls.mono h fun e w'' he => by
          cases e with
          | returned u => have he : K _ _ := he; rw [hc] at he; exact he
          | panicked c => exact he
          | outgrown => exact he
    case row row args =>
      constructor
      · intro h; exact Rows.mono h fun u w'' he => by show K _ _; rw [hc]; exact he
      · intro h; exact Rows.mono h fun u w'' he => by have he : K _ _ := he; rw [hc] at he; exact he
  | halt x w' => cases x <;> simp only [Oper.upon]
theorem yields_dd {o : Oper} {v u : Value} {a : Act} {d : Option Tmp} {D : List Deferred} (hs : NoSel o) (h : ∀ e, d = some e → e ∉ o.looksAt ops) : YieldsR P ops R o v (({ a with defers := D } : Act).put d u) ↔ YieldsR P ops R o v a :=
  (YieldsR.put hs h).trans ⟨fun y => y.of_same rfl rfl, fun y => y.of_same rfl rfl⟩
/-- a floater ahead -/
theorem float_out {oi : Oper} {post : List (Bool × Oper)} (hs : NoSel oi) : ∀ (pre : List (Bool × Oper)) (a : Act) (w : World), (∀ p ∈ pre, p.2.apart ops oi = true ∧ NoSel p.2) → R w →
    wpF P ops R Q (pre ++ (true, oi) :: post) a w → ∃ v, YieldsR P ops R oi v a ∧ wpF P ops R Q (pre ++ post) (a.put oi.dst v) w
  | [], a, w, _, _, h => h
  | (true, oj) :: pre, a, w, hp, hR, h => by
    obtain ⟨ha, hj⟩ := hp (true, oj) (by simp)
    obtain ⟨h1, h2, h3⟩ := Oper.apart_spec ha
    obtain ⟨u, hu, hr⟩ := h
    obtain ⟨v, hv, hr'⟩ := float_out hs pre _ w (fun p hp' => hp p (List.mem_cons_of_mem _ hp')) hR hr
    refine ⟨v, (YieldsR.put hs h1).1 hv, u, (YieldsR.put hj h3).2 hu, ?_⟩
    rw [← Act.put_comm a u v h2]
    exact hr'
  | (false, oj) :: pre, a, w, hp, hR, h => by
    obtain ⟨ha, hj⟩ := hp (false, oj) (by simp)
    obtain ⟨h1, h2, h3⟩ := Oper.apart_spec ha
    have ih := float_out (post := post) hs pre
    have hp' : ∀ p ∈ pre, p.2.apart ops oi = true ∧ NoSel p.2 := fun p hp' => hp p (List.mem_cons_of_mem _ hp')
    have h : wpList P ops (FQ R (wpF P ops R Q (pre ++ (true, oi) :: post))) [oj] a w := h
    rw [one_iff] at h
    by_cases hw : Region.wanted oj (yielded ops a.tmps) = true
    · rw [if_pos hw] at h
      have hf := wp_form h
      obtain ⟨a0, w0, ⟨hR0, hF0⟩, u0, D0, rfl⟩ := wp_some hf
      obtain ⟨v0, hv0, _⟩ := ih _ w0 hp' hR0 hF0
      replace hv0 := (yields_dd hs h1).1 hv0
      refine ⟨v0, hv0, ?_⟩
      show wpList P ops (FQ R (wpF P ops R Q (pre ++ post))) [oj] _ w
      rw [one_iff, wanted_put oj a oi.dst v0 h3, if_pos hw, wp_put hj h3 (fun e he => fun hd => h2 e he hd)]
      refine Oper.wp_mono ?_ hf
      rintro a' w' ⟨⟨hR', hF'⟩, u', D', rfl⟩
      obtain ⟨v', hv', hr'⟩ := ih _ w' hp' hR' hF'
      obtain rfl := YieldsR.uniq hR0 ((yields_dd hs h1).1 hv') hv0
      exact ⟨hR', hr'⟩
    · rw [if_neg hw] at h
      obtain ⟨v, hv, hr'⟩ := ih _ w hp' h.1 h.2
      refine ⟨v, (YieldsR.put hs h1).1 hv, ?_⟩
      show wpList P ops (FQ R (wpF P ops R Q (pre ++ post))) [oj] _ w
      rw [one_iff, wanted_put oj a oi.dst v h3, if_neg hw, ← Act.put_comm a undef v h2]
      exact ⟨h.1, hr'⟩
/-- what is no floater, ahead of floaters -/
theorem chain_out {oi : Oper} {post : List (Bool × Oper)} (hs : NoSel oi) : ∀ (pre : List (Bool × Oper)) (a : Act) (w : World), (∀ p ∈ pre, p.1 = true ∧ p.2.apart ops oi = true ∧ NoSel p.2) →
    wpF P ops R Q (pre ++ (false, oi) :: post) a w → wpList P ops (FQ R (wpF P ops R Q (pre ++ post))) [oi] a w
  | [], a, w, _, h => h
  | (false, oj) :: pre, a, w, hp, h => absurd (hp (false, oj) (by simp)).1 (by simp)
  | (true, oj) :: pre, a, w, hp, h => by
    obtain ⟨_, ha, hj⟩ := hp (true, oj) (by simp)
    obtain ⟨h1, h2, h3⟩ := Oper.apart_spec ha
    obtain ⟨u, hu, hr⟩ := h
    have hi := chain_out hs pre _ w (fun p hp' => hp p (List.mem_cons_of_mem _ hp')) hr
    rw [one_iff, wanted_put oi a oj.dst u h1] at hi
    rw [one_iff]
    by_cases hw : Region.wanted oi (yielded ops a.tmps) = true
    · rw [if_pos hw] at hi ⊢
      rw [wp_put hs h1 (fun e he => fun hd => h2 e hd he)] at hi
      refine Oper.wp_mono ?_ (wp_form hi)
      rintro a' w' ⟨⟨hR', hF'⟩, u', D', rfl⟩
      exact ⟨hR', u, (yields_dd hj h3).2 hu, hF'⟩
    · rw [if_neg hw] at hi ⊢
      refine ⟨hi.1, u, (YieldsR.put hj h3).2 hu, ?_⟩
      rw [← Act.put_comm a u undef h2]
      exact hi.2
/-! what an operation waits for, through others too: a number's bits -/
def mask1 (ms : List Nat) (o : Oper) : Nat := o.after.toList.foldr (fun e m => if Region.binds .any e then (1 <<< e.on) ||| (ms.getD e.on 0 ||| m) else m) 0
def masksFrom : List Nat → List Oper → List Nat
  | ms, [] => ms
  | ms, o :: r => masksFrom (ms ++ [mask1 ms o]) r
def MaskOk (l : List Oper) (listed : Nat → Prop) (ms : List Nat) (k : Nat) : Prop := ms.length = k ∧ ∀ i o, i < k → l[i]? = some o → (∀ j, bindsTo o j = true → listed j) → ∀ j, (ms.getD i 0).testBit j = true → listed j
theorem mask1_ok {l : List Oper} {listed : Nat → Prop} (hc : ∀ i o, l[i]? = some o → listed i → ∀ j, bindsTo o j = true → listed j) {ms : List Nat} {k : Nat} (h : MaskOk l listed ms k) {o : Oper} (ho : l[k]? = some o) (hp : ∀ j, bindsTo o j = true → listed j) :
    ∀ j, (mask1 ms o).testBit j = true → listed j := by
  have hp' : ∀ e ∈ o.after.toList, Region.binds .any e = true → listed e.on := fun e he hb => hp e.on (by
    simp only [bindsTo, Array.any_eq_true']
    exact ⟨e, by simpa using he, by simp [hb]⟩)
  unfold mask1
  generalize o.after.toList = es at hp'
  induction es with
  | nil => intro j hj; simp at hj
  | cons e es ih =>
    intro j hj
    simp only [List.foldr_cons] at hj
    have ih' := ih fun e' he' => hp' e' (List.mem_cons_of_mem _ he')
    by_cases hb : Region.binds .any e = true
    · rw [if_pos hb] at hj
      have hl := hp' e (by simp) hb
      simp only [Nat.testBit_or, Bool.or_eq_true] at hj
      rcases hj with hj | hj | hj
      · rw [Nat.shiftLeft_eq, Nat.one_mul, Nat.testBit_two_pow] at hj
        have : e.on = j := by simpa using hj
        rw [← this]; exact hl
      · rcases Nat.lt_or_ge e.on k with hk | hk
        · cases hle : l[e.on]? with
          | none =>
            exfalso
            have := List.getElem?_eq_none_iff.1 hle
            have := (List.getElem?_eq_some_iff.1 ho).1
            omega
          | some q => exact h.2 e.on q hk hle (hc e.on q hle hl) j hj
        · rw [List.getD_eq_getElem?_getD, List.getElem?_eq_none (by rw [h.1]; exact hk)] at hj
          simp at hj
      · exact ih' j hj
    · rw [if_neg hb] at hj
      exact ih' j hj
theorem masks_ok {l : List Oper} {listed : Nat → Prop} (hc : ∀ i o, l[i]? = some o → listed i → ∀ j, bindsTo o j = true → listed j) : ∀ (r : List Oper) (ms : List Nat) (k : Nat), MaskOk l listed ms k → l.drop k = r → k ≤ l.length → MaskOk l listed (masksFrom ms r) l.length := by
  intro r
  induction r with
  | nil =>
    intro ms k h hd hkl
    have hk : l.length ≤ k := by simpa using hd
    obtain rfl : k = l.length := by omega
    exact h
  | cons o r ih =>
    intro ms k h hd hkl
    have hk : k < l.length := by
      rcases Nat.lt_or_ge k l.length with h | h
      · exact h
      · rw [List.drop_of_length_le h] at hd; cases hd
    have ho : l[k]? = some o := by
      have := congrArg (fun x => x[0]?) hd
      simpa using this
    refine ih _ (k + 1) ⟨by simp [h.1], fun i q hi hq hp j hj => ?_⟩ (by rw [← List.drop_drop, hd]; rfl) (by omega)
    rcases Nat.lt_or_ge i k with hik | hik
    · refine h.2 i q hik hq hp j ?_
      rw [List.getD_eq_getElem?_getD, List.getElem?_append_left (by rw [h.1]; exact hik), ← List.getD_eq_getElem?_getD] at hj
      exact hj
    · obtain rfl : i = k := by omega
      obtain rfl : q = o := by rw [ho] at hq; injection hq with hq; exact hq.symm
      rw [List.getD_eq_getElem?_getD, List.getElem?_append_right (by rw [h.1]; exact Nat.le_refl _), h.1, Nat.sub_self] at hj
      exact mask1_ok hc h ho hp j (by simpa using hj)
/-- what is asked of a region: an operation waits for an earlier one, or the two have no slot in common and one of them is a floater -/
def floatOk (fls : List Bool) (l : List Oper) : Bool :=
  decide (fls.length = l.length) && edgesBack l && l.all noSelB && (List.range l.length).all fun i => (List.range i).all fun j =>
    ((masksFrom [] l).getD i 0).testBit j || ((fls.getD i false || fls.getD j false) && ((l[j]?).bind fun oj => (l[i]?).map fun oi => oj.apart l.toArray oi).getD false)
theorem getD_both' {l : List Oper} {listed : Array Bool} {i : Nat} (hs : listed.size = l.length) (hi : i < l.length) (h : listed.getD i true = false) : listed.getD i false = false := by
  have hi' : i < listed.size := by rw [hs]; exact hi
  simp [hi'] at h ⊢
  exact h
structure FJ (l : List Oper) (fls : List Bool) (listed : Array Bool) (rem : List (Nat × Bool × Oper)) : Prop where
  lsize : listed.size = l.length
  closed : ∀ i o, l[i]? = some o → listed.getD i false = true → ∀ j, bindsTo o j = true → listed.getD j false = true
  at_ : ∀ p ∈ rem, l[p.1]? = some p.2.2 ∧ fls.getD p.1 false = p.2.1
  mem : ∀ k, k < l.length → (listed.getD k false = false ↔ ∃ p ∈ rem, p.1 = k)
  ord : rem.Pairwise fun p q => p.1 < q.1
theorem wpAny_float {l : List Oper} {fls : List Bool} (hok : floatOk fls l = true) : ∀ (fuel : Nat) (listed : Array Bool) (rem : List (Nat × Bool × Oper)) (A : Act) (W : World), rem.length = fuel → FJ l fls listed rem → R W →
    wpF P l.toArray R Q (rem.map (·.2)) A W → wpAny P .any l.toArray Q fuel listed A W := by
  intro fuel
  simp only [floatOk, Bool.and_eq_true, decide_eq_true_eq] at hok
  obtain ⟨⟨⟨hlen, hback⟩, hsel⟩, hpair⟩ := hok
  have hns : ∀ (i : Nat) (o : Oper), l[i]? = some o → NoSel o := fun i o h => noSel_of (List.all_eq_true.1 hsel o (List.mem_of_getElem? h))
  induction fuel with
  | zero =>
    intro listed rem A W hl J hR h
    have hr : rem = [] := List.eq_nil_of_length_eq_zero hl
    subst hr
    have hall : ∀ k, k < l.length → listed.getD k false = true := fun k hk => by
      cases hb : listed.getD k false with
      | true => rfl
      | false => obtain ⟨p, hp, _⟩ := (J.mem k hk).1 hb; cases hp
    refine ⟨?_, h⟩
    apply List.filter_eq_nil_iff.2
    intro i hi
    simp at hi
    have := hall i hi
    have h2 : listed.getD i true = true := by
      have hi' : i < listed.size := by rw [J.lsize]; exact hi
      simp [hi'] at this ⊢
      exact this
    simp [h2]
  | succ fuel ih =>
    intro listed rem A W hl J hR h
    refine ⟨fun hr => ?_, fun i hi => ?_⟩
    · exfalso
      cases rem with
      | nil => cases hl
      | cons p rem =>
        have hp := (J.at_ p (by simp)).1
        have hlt := (List.getElem?_eq_some_iff.1 hp).1
        have h1 := live_ hback J.lsize hr p.1 hlt
        have h2 := (J.mem p.1 hlt).2 ⟨p, by simp, rfl⟩
        rw [h1] at h2; cases h2
    · obtain ⟨o, ho, hlt, hnl, hpre⟩ := ready_mem hi
      have hnl' := getD_both' J.lsize hlt hnl
      obtain ⟨p, hp, rfl⟩ := (J.mem i hlt).1 hnl'
      obtain ⟨pre, post, rfl⟩ := List.append_of_mem hp
      obtain ⟨i, f, o'⟩ := p
      obtain ⟨hat, hfl⟩ := J.at_ _ hp
      obtain rfl : o = o' := by simp only at ho hat; rw [ho] at hat; injection hat
      simp only at hfl hnl hnl' hlt ho hpre hi ⊢
      have hmk := (masks_ok (listed := fun j => listed.getD j false = true) (fun i o hi hl => J.closed i o hi hl) l [] 0 ⟨rfl, fun i o hi => absurd hi (by omega)⟩ rfl (Nat.zero_le _)).2 i o hlt ho hpre
      have hord := List.pairwise_append.1 J.ord
      have happ : ∀ q ∈ pre, (fls.getD i false = true ∨ q.2.1 = true) ∧ q.2.2.apart l.toArray o = true ∧ NoSel q.2.2 := fun q hq => by
        have hqi : q.1 < i := hord.2.2 q hq (i, f, o) (by simp)
        obtain ⟨hqa, hqf⟩ := J.at_ q (by simp [hq])
        have hql := (List.getElem?_eq_some_iff.1 hqa).1
        have h1 := List.all_eq_true.1 (List.all_eq_true.1 hpair i (List.mem_range.2 hlt)) q.1 (List.mem_range.2 hqi)
        rw [Bool.or_eq_true] at h1
        rcases h1 with h1 | h1
        · have : listed.getD q.1 false = true := hmk q.1 h1
          rw [(J.mem q.1 hql).2 ⟨q, by simp [hq], rfl⟩] at this
          cases this
        · rw [hqa, ho] at h1
          simp only [Option.bind_some, Option.map_some, Option.getD_some, Bool.and_eq_true, Bool.or_eq_true, hqf] at h1
          exact ⟨h1.1, h1.2, hns _ _ hqa⟩
      have hns' := hns i o ho
      have J' : FJ l fls (listed.setIfInBounds i true) (pre ++ post) := by
        have hne : ∀ q, q ∈ pre ++ post → q.1 ≠ i := fun q hq e => by
          rcases List.mem_append.1 hq with h | h
          · have : q.1 < i := hord.2.2 q h (i, f, o) (by simp); omega
          · have : i < q.1 := (List.pairwise_cons.1 hord.2.1).1 q h; omega
        refine ⟨by simp [J.lsize], fun k q hk hl' j hb => ?_, fun q hq => J.at_ q ?_, fun k hk => ?_, ?_⟩
        · by_cases hji : i = j
          · subst hji; exact getD_set_self _ _ (by rw [J.lsize]; exact hlt)
          · rw [Go.Proofs.Ytcpifcdndhhmgaa.getD_set_ne _ _ _ hji]
            by_cases hki : i = k
            · subst hki
              obtain rfl : o = q := by rw [ho] at hk; injection hk
              exact hpre j hb
            · rw [Go.Proofs.Ytcpifcdndhhmgaa.getD_set_ne _ _ _ hki] at hl'
              exact J.closed k q hk hl' j hb
        · rcases List.mem_append.1 hq with h | h
          · simp [h]
          · simp [h]
        · by_cases hki : i = k
          · subst hki
            rw [getD_set_self _ _ (by rw [J.lsize]; exact hlt)]
            constructor
            · intro h; cases h
            · rintro ⟨q, hq, e⟩; exact absurd e (hne q hq)
          · rw [Go.Proofs.Ytcpifcdndhhmgaa.getD_set_ne _ _ _ hki, J.mem k hk]
            constructor
            · rintro ⟨q, hq, rfl⟩
              refine ⟨q, ?_, rfl⟩
              rcases List.mem_append.1 hq with h | h
              · exact List.mem_append_left _ h
              · rcases List.mem_cons.1 h with rfl | h
                · exact absurd rfl hki
                · exact List.mem_append_right _ h
            · rintro ⟨q, hq, e⟩
              refine ⟨q, ?_, e⟩
              rcases List.mem_append.1 hq with h | h
              · simp [h]
              · simp [h]
        · exact List.pairwise_append.2 ⟨hord.1, (List.pairwise_cons.1 hord.2.1).2, fun a ha b hb => hord.2.2 a ha b (by simp [hb])⟩
      have hfu : (pre ++ post).length = fuel := by simp at hl ⊢; omega
      have h' : wpF P l.toArray R Q (pre.map (·.2) ++ (f, o) :: post.map (·.2)) A W := by simpa using h
      have hnext : ∀ A' W', R W' → wpF P l.toArray R Q (pre.map (·.2) ++ post.map (·.2)) A' W' → wpAny P .any l.toArray Q fuel (listed.setIfInBounds i true) A' W' := fun A' W' hR' hF => ih _ (pre ++ post) A' W' hfu J' hR' (by simpa using hF)
      have hli : l.toArray[i]? = some o := by simpa using ho
      cases f with
      | true =>
        obtain ⟨v, hv, hF⟩ := float_out hns' (pre.map (·.2)) A W (fun q hq => by obtain ⟨q', hq', rfl⟩ := List.mem_map.1 hq; exact (happ q' hq').2) hR h'
        have hn := hnext _ W hR hF
        refine wpOp_step hli fun K' hK' => ?_
        rcases hv with ⟨hw, hv⟩ | ⟨hw, rfl⟩
        · rw [if_pos hw]
          unfold Oper.wp
          rw [hv W hR]
          exact hK' _ _ hn
        · rw [if_neg (by rw [hw]; simp)]
          exact hK' _ _ hn
      | false =>
        have hC := chain_out hns' (pre.map (·.2)) A W (fun q hq => by
          obtain ⟨q', hq', rfl⟩ := List.mem_map.1 hq
          obtain ⟨h1, h2⟩ := happ q' hq'
          exact ⟨h1.resolve_left (by rw [hfl]; simp), h2⟩) h'
        rw [one_iff] at hC
        refine wpOp_step hli fun K' hK' => ?_
        by_cases hw : Region.wanted o (yielded l.toArray A.tmps) = true
        · rw [if_pos hw] at hC ⊢
          have hC := Oper.wp_mono (fun a' w' h => hK' _ _ (hnext a' w' h.1 h.2)) hC
          unfold Oper.wp at hC ⊢
          generalize (execOp A.eval o).run P W = r at hC ⊢
          cases r with
          | ok n w' =>
            cases n <;> simp only [Oper.upon] at hC ⊢ <;> try exact hC
            exact Calls.mono hC fun e w'' he => by
              cases e with
              | returned v => exact he
              | panicked c => exact he.elim
              | outgrown => exact he.elim fun _ h => h.elim fun _ h => h.elim
          | halt x w' => cases x <;> simp only [Oper.upon] at hC
        · rw [if_neg hw] at hC ⊢
          exact hK' _ _ (hnext _ _ hC.1 hC.2)
theorem rem_start (fls : List Bool) (l : List Oper) (hlen : fls.length = l.length) : FJ l fls (Array.replicate l.length false) ((List.range l.length).zip (fls.zip l)) := by
  have hg : ∀ p, p ∈ (List.range l.length).zip (fls.zip l) → ∃ i, i < l.length ∧ p.1 = i ∧ fls[i]? = some p.2.1 ∧ l[i]? = some p.2.2 := fun p hp => by
    obtain ⟨i, hi, rfl⟩ := List.mem_iff_getElem.1 hp
    have hi' : i < l.length := by simp at hi; omega
    refine ⟨i, hi', by simp, ?_, ?_⟩
    · simp [List.getElem?_eq_getElem (show i < fls.length by omega)]
    · simp [List.getElem?_eq_getElem hi']
  refine ⟨by simp, fun i o _ h => by simp [Array.getElem?_replicate] at h; split at h <;> simp at h, fun p hp => ?_, fun k hk => ?_, ?_⟩
  · obtain ⟨i, hi, rfl, h1, h2⟩ := hg p hp
    exact ⟨h2, by rw [List.getD_eq_getElem?_getD, h1]; rfl⟩
  · constructor
    · intro _
      refine ⟨(k, fls[k]'(by omega), l[k]), List.mem_iff_getElem.2 ⟨k, by simp; omega, by simp⟩, rfl⟩
    · intro _; simp [hk]
  · rw [List.pairwise_iff_getElem]
    intro i j hi hj hij
    simpa using hij
theorem wp_region_float {id : Nat} {l : List Oper} {a : Act} {w : World} (fls : List Bool) (hm : P.follows .mixedOrders = true) (hok : floatOk fls l = true) (hR : R w.drew) (h : wpF P l.toArray R Q (fls.zip l) a w.drew) : (Code.region id l.toArray true).wp P Q a w := by
  have hlen : fls.length = l.length := by
    have := hok
    simp only [floatOk, Bool.and_eq_true, decide_eq_true_eq] at this
    exact this.1.1.1
  refine wp_region_any hm ?_
  have hs : l.toArray.size = l.length := by simp
  rw [hs]
  refine wpAny_float hok l.length _ _ _ _ (by simp [hlen]) (rem_start fls l hlen) hR ?_
  rw [List.map_snd_zip (by simp [hlen])]
  exact h
end
/-! ### over what is known -/
structure KF (P : Program) (ops : Array Oper) (R : World → Prop) (Q : Exit → Act → World → Prop) (fls : List Bool) (l : List Oper) (n : Nat) (L : Slots) (w : World) : Prop where
  h : ∀ a, Kn n L a → wpF P ops R Q (fls.zip l) a w
section
variable {P : Program} {R : World → Prop} {Q : Exit → Act → World → Prop} {n : Nat} {L : Slots} {w : World}
theorem kw_region_f {id : Nat} {l : List Oper} (R : World → Prop) (fls : List Bool) (hm : P.follows .mixedOrders = true) (hok : floatOk fls l = true) (hR : R w.drew) (h : KF P l.toArray R Q fls l n L w.drew) : KW P (.region id l.toArray true) Q n L w :=
  ⟨fun a k => wp_region_float fls hm hok hR (h.h a k)⟩
variable {ops : Array Oper} {fls : List Bool} {rest : List Oper} {o : Oper}
theorem kf_nil (h : KQ Q .normal n L w) : KF P ops R Q [] [] n L w := ⟨fun a k => h.h a k⟩
/-- what is no floater: the laws for rows of operations do -/
theorem kf_ch (h : KL P ops (FQ R (wpF P ops R Q (fls.zip rest))) [o] n L w) : KF P ops R Q (false :: fls) (o :: rest) n L w := ⟨fun a k => h.h a k⟩
theorem kq_f (hR : R w) (h : KF P ops R Q fls rest n L w) : KQ (FQ R (wpF P ops R Q (fls.zip rest))) .normal n L w := ⟨fun a k => ⟨rfl, hR, h.h a k⟩⟩
/-- a value alone, the world as it was -/
def valP (N : Value → World → Prop) : Result Next → Prop
  | .ok (.value v) w' => N v w'
  | _ => False
theorem valP_value (N : Value → World → Prop) (v : Value) (w' : World) : valP N (.ok (.value v) w') = N v w' := rfl
/-- a floater -/
theorem kf_run {d : Nat} {v : Value} (hd : o.dst = some d) (hg : o.guard = none) (hk : (okop L o.op && Nat.blt d n) = true) (hr : ∀ W, R W → (execOp (ev L) o).run P W = .ok (.value v) W)
    (h : KF P ops R Q fls rest n ((d, v) :: L) w) : KF P ops R Q (true :: fls) (o :: rest) n L w := ⟨fun a k => by
  simp only [Bool.and_eq_true] at hk
  refine ⟨v, .inl ⟨by simp [Region.wanted, hg], fun W hW => ?_⟩, ?_⟩
  · rw [k.exec hk.1]; exact hr W hW
  · rw [hd]; exact h.h _ (k.put d v hk.2)⟩
theorem kf_val {d : Nat} (hd : o.dst = some d) (hg : o.guard = none) (hk : (okop L o.op && Nat.blt d n) = true)
    (h : ∃ v, (∀ W, R W → ∀ N : Value → World → Prop, N v W → valP N ((execOp (ev L) o).run P W)) ∧ KF P ops R Q fls rest n ((d, v) :: L) w) : KF P ops R Q (true :: fls) (o :: rest) n L w := by
  obtain ⟨v, h1, h2⟩ := h
  refine kf_run hd hg hk (fun W hW => ?_) h2
  have := h1 W hW (fun v' W' => v' = v ∧ W' = W) ⟨rfl, rfl⟩
  generalize (execOp (ev L) o).run P W = r at this ⊢
  cases r with
  | ok x w' => cases x <;> first | exact this.elim | (obtain ⟨rfl, rfl⟩ := this; rfl)
  | halt x w' => exact this.elim
theorem kf_move {d t : Nat} {v : Value} (hd : o.dst = some d) (hg : o.guard = none) (ho : o.op = .move (.tmp t) ∨ o.op = .assign (.tmp t)) (hv : lk L t = some v) (hn : Nat.blt d n = true)
    (h : KF P ops R Q fls rest n ((d, v) :: L) w) : KF P ops R Q (true :: fls) (o :: rest) n L w := by
  have hx : okx L (.tmp t) = true := by simp [okx, hv]
  have he : ev L (.tmp t) = v := by simp [ev, hv]
  refine kf_run hd hg ?_ (fun W _ => ?_) h
  · rcases ho with ho | ho <;> simp [ho, okop, hx, hn]
  · rcases ho with ho | ho <;> simp [execOp, ho, he, Sem.run_pure]
theorem kf_const {d : Nat} {v : Value} (hd : o.dst = some d) (hg : o.guard = none) (ho : o.op = .move (.const v) ∨ o.op = .assign (.const v)) (hn : Nat.blt d n = true)
    (h : KF P ops R Q fls rest n ((d, v) :: L) w) : KF P ops R Q (true :: fls) (o :: rest) n L w := by
  refine kf_run hd hg ?_ (fun W _ => ?_) h
  · rcases ho with ho | ho <;> simp [ho, okop, okx, hn]
  · rcases ho with ho | ho <;> simp [execOp, ho, Sem.run_pure, ev]
theorem kf_ung {jb : Nat × Bool} {f : Bool} (hg : o.guard = some jb) (hw : gdv ops L (some jb) = some true) (h : KF P ops R Q (f :: fls) (⟨o.dst, o.op, o.type, o.pos, o.after, none⟩ :: rest) n L w) : KF P ops R Q (f :: fls) (o :: rest) n L w := ⟨fun a k => by
  have h' := h.h a k
  have hwt : Region.wanted o (yielded ops a.tmps) = true := wanted_of k (by rw [hg]; exact hw)
  obtain ⟨dst, op, type, pos, after, guard⟩ := o
  cases f
  · show wpList P ops _ [_] a w
    have h' : wpList P ops (FQ R (wpF P ops R Q (fls.zip rest))) [⟨dst, op, type, pos, after, none⟩] a w := h'
    unfold wpList at h' ⊢
    rw [if_pos (by simp [Region.wanted])] at h'
    rw [if_pos hwt]
    exact h'
  · obtain ⟨v, hv, h2⟩ := h'
    refine ⟨v, ?_, h2⟩
    rcases hv with ⟨_, hv⟩ | ⟨hv, _⟩
    · exact .inl ⟨hwt, hv⟩
    · simp [Region.wanted] at hv⟩
theorem kf_skipg {d : Nat} {jb : Nat × Bool} (hg : o.guard = some jb) (hw : gdv ops L (some jb) = some false) (hd : o.dst = some d) (hn : Nat.blt d n = true) (h : KF P ops R Q fls rest n ((d, undef) :: L) w) : KF P ops R Q (true :: fls) (o :: rest) n L w := ⟨fun a k => by
  have hwt : Region.wanted o (yielded ops a.tmps) = false := wanted_of k (by rw [hg]; exact hw)
  exact ⟨undef, .inr ⟨hwt, rfl⟩, by rw [hd]; exact h.h _ (k.put d undef hn)⟩⟩
theorem kf_skipc {d : Nat} {jb : Nat × Bool} (hg : o.guard = some jb) (hw : gdv ops L (some jb) = some false) (hd : o.dst = some d) (hn : Nat.blt d n = true) (hR : R w) (h : KF P ops R Q fls rest n ((d, undef) :: L) w) : KF P ops R Q (false :: fls) (o :: rest) n L w :=
  kf_ch (kl_skipg hg hw hd hn (kl_nil (kq_f hR h)))
end
section
variable {P : Program} {R : World → Prop} {Q : Exit → Act → World → Prop} {n : Nat} {L : Slots} {w : World} {ops : Array Oper} {fls : List Bool} {rest : List Oper} {o : Oper}
end
theorem own_B {w : World} {base : Nat} {e : TypeId} {v : Value} {n : Nat} {l : List UInt8} (h : w.ownsRow base e 1 v n (bv l)) : ∃ A c, v = .slice A n c ∧ Bs w A n l ∧ n ≤ c ∧ c ≤ 9223372036854775807 := by
  obtain ⟨A, c, hv, h1, h2, h3, _⟩ := own_slice h
  exact ⟨A, c, hv, h3, h1, by simpa [maxLen] using h2⟩
theorem range_block {w : World} {g : Nat} {cs : List Value} {t : TypeId} {fr : Nat × Nat} (h : w.heap[g]? = some (.cells cs.toArray t fr)) : w.rangeAt g 0 cs := fun j u hu => by rw [Nat.zero_add]; exact cell_of_block h (by rw [List.getElem?_toArray]; exact hu)
/-! ### what a region leaves alone: these blocks -/
def Hold (bs : List (Nat × Obj)) (W : World) : Prop := ∀ p ∈ bs, W.heap[p.1]? = some p.2
theorem Hold.nil (W : World) : Hold [] W := fun p h => by cases h
theorem Hold.cons {bs : List (Nat × Obj)} {W : World} {g : Nat} {o : Obj} (h : W.heap[g]? = some o) (k : Hold bs W) : Hold ((g, o) :: bs) W := fun p hp => by
  rcases List.mem_cons.1 hp with rfl | hp
  · exact h
  · exact k p hp
theorem Hold.below {bs : List (Nat × Obj)} {W W' : World} (h : Hold bs W) (hb : Below W.heap.size W W') : Hold bs W' := fun p hp => by
  have := h p hp
  rw [hb.block _ (Array.getElem?_eq_some_iff.1 this).1]; exact this
theorem Hold.grown {bs : List (Nat × Obj)} {W W' : World} {g : Option Nat} (h : Hold bs W) (hg : W.grownBy W' g) (hne : ∀ p ∈ bs, g ≠ some p.1) : Hold bs W' := fun p hp => by
  have := h p hp
  rw [hg.block _ (Array.getElem?_eq_some_iff.1 this).1 (fun e => hne p hp e.symm)]; exact this
theorem Hold.set {bs : List (Nat × Obj)} {W : World} {a : Addr} {u : Value} (h : Hold bs W) (hne : ∀ p ∈ bs, p.1 ≠ a.block) : Hold bs (W.setCell a u) := fun p hp => by
  rw [Below.heap_setCell _ _ _ _ (hne p hp)]; exact h p hp
theorem Hold.at_ {bs : List (Nat × Obj)} {W : World} (h : Hold bs W) {g : Nat} {o : Obj} (i : Nat) (hi : bs[i]? = some (g, o)) : W.heap[g]? = some o := h (g, o) (List.mem_of_getElem? hi)
theorem Hold.cell {bs : List (Nat × Obj)} (i : Nat) {g : Nat} {cs : List Value} {t : TypeId} {fr : Nat × Nat} (hi : bs[i]? = some (g, .cells cs.toArray t fr)) {j : Nat} {u : Value} (hu : cs[j]? = some u) : ∀ W, Hold bs W → W.cell? ⟨g, j, none⟩ = some u := fun _ h =>
  cell_of_block (h.at_ i hi) (by rw [List.getElem?_toArray]; exact hu)
section
variable {P : Program} {bs : List (Nat × Obj)} {Q : Exit → Act → World → Prop} {n : Nat} {L : Slots} {w : World} {ops : Array Oper} {fls : List Bool} {rest : List Oper} {o : Oper}
end
end Go.Proofs.Ytcpifcdndhhmgaa
