/- Regions that draw their order, at one place of which what is no floater may come in one of some orders: a walk for each, the common front once. No program in sight. -/
import Derived.Test.YtblidiecahpekaaKnF
set_option linter.unusedVariables false
set_option linter.unusedSimpArgs false
namespace Go.Proofs.Ytblidiecahpekaa
open Go.RowKit
abbrev Rem := List (Nat × Bool × Oper)
section
variable {P : Program} {ops : Array Oper} {R : World → Prop} {Q : Exit → Act → World → Prop}
def QN (N : Act → World → Prop) : Exit → Act → World → Prop := fun _ a w => N a w
theorem wpF_append (post : List (Bool × Oper)) : ∀ pre : List (Bool × Oper), wpF P ops R (QN (wpF P ops R Q post)) pre = wpF P ops R Q (pre ++ post)
  | [] => rfl
  | (true, o) :: pre => by
    funext a w
    show (∃ v, _ ∧ wpF P ops R (QN (wpF P ops R Q post)) pre _ w) = ∃ v, _ ∧ wpF P ops R Q (pre ++ post) _ w
    rw [wpF_append post pre]
  | (false, o) :: pre => by
    funext a w
    show wpList P ops (FQ R (wpF P ops R (QN (wpF P ops R Q post)) pre)) [o] a w = wpList P ops (FQ R (wpF P ops R Q (pre ++ post))) [o] a w
    rw [wpF_append post pre]
theorem fq_mono {N N' : Act → World → Prop} {o : Oper} {a : Act} {w : World} (h : ∀ a w, N a w → N' a w) (hh : wpList P ops (FQ R N) [o] a w) : wpList P ops (FQ R N') [o] a w := by
  rw [one_iff] at hh ⊢
  split
  · rename_i hw; rw [if_pos hw] at hh; exact Oper.wp_mono (fun a w k => ⟨k.1, h _ _ k.2⟩) hh
  · rename_i hw; rw [if_neg hw] at hh; exact ⟨hh.1, h _ _ hh.2⟩
theorem wpF_mono {N N' : Act → World → Prop} (h : ∀ a w, N a w → N' a w) : ∀ (pre : List (Bool × Oper)) (a : Act) (w : World), wpF P ops R (QN N) pre a w → wpF P ops R (QN N') pre a w
  | [], a, w, hh => h a w hh
  | (true, o) :: pre, a, w, ⟨v, hv, hr⟩ => ⟨v, hv, wpF_mono h pre _ w hr⟩
  | (false, o) :: pre, a, w, hh => fq_mono (wpF_mono h pre) hh
/-- a floater from behind -/
theorem float_outN {oi : Oper} {N N' : Act → World → Prop} (hs : NoSel oi) (hN : ∀ a w, R w → N a w → ∃ v, YieldsR P ops R oi v a ∧ N' (a.put oi.dst v) w) : ∀ (pre : List (Bool × Oper)) (a : Act) (w : World), (∀ p ∈ pre, p.2.apart ops oi = true ∧ NoSel p.2) → R w →
    wpF P ops R (QN N) pre a w → ∃ v, YieldsR P ops R oi v a ∧ wpF P ops R (QN N') pre (a.put oi.dst v) w
  | [], a, w, _, hR, h => hN a w hR h
  | (true, oj) :: pre, a, w, hp, hR, h => by
    obtain ⟨ha, hj⟩ := hp (true, oj) (by simp)
    obtain ⟨h1, h2, h3⟩ := Oper.apart_spec ha
    obtain ⟨u, hu, hr⟩ := h
    obtain ⟨v, hv, hr'⟩ := float_outN hs hN pre _ w (fun p hp' => hp p (List.mem_cons_of_mem _ hp')) hR hr
    refine ⟨v, (YieldsR.put hs h1).1 hv, u, (YieldsR.put hj h3).2 hu, ?_⟩
    rw [← Act.put_comm a u v h2]
    exact hr'
  | (false, oj) :: pre, a, w, hp, hR, h => by
    obtain ⟨ha, hj⟩ := hp (false, oj) (by simp)
    obtain ⟨h1, h2, h3⟩ := Oper.apart_spec ha
    have ih := float_outN hs hN pre
    have hp' : ∀ p ∈ pre, p.2.apart ops oi = true ∧ NoSel p.2 := fun p hp' => hp p (List.mem_cons_of_mem _ hp')
    have h : wpList P ops (FQ R (wpF P ops R (QN N) pre)) [oj] a w := h
    rw [one_iff] at h
    by_cases hw : Region.wanted oj (yielded ops a.tmps) = true
    · rw [if_pos hw] at h
      have hf := wp_form h
      obtain ⟨a0, w0, ⟨hR0, hF0⟩, u0, D0, rfl⟩ := wp_some hf
      obtain ⟨v0, hv0, _⟩ := ih _ w0 hp' hR0 hF0
      replace hv0 := (yields_dd hs h1).1 hv0
      refine ⟨v0, hv0, ?_⟩
      show wpList P ops (FQ R (wpF P ops R (QN N') pre)) [oj] _ w
      rw [one_iff, wanted_put oj a oi.dst v0 h3, if_pos hw, wp_put hj h3 (fun e he => fun hd => h2 e he hd)]
      refine Oper.wp_mono ?_ hf
      rintro a' w' ⟨⟨hR', hF'⟩, u', D', rfl⟩
      obtain ⟨v', hv', hr'⟩ := ih _ w' hp' hR' hF'
      obtain rfl := YieldsR.uniq hR0 ((yields_dd hs h1).1 hv') hv0
      exact ⟨hR', hr'⟩
    · rw [if_neg hw] at h
      obtain ⟨v, hv, hr'⟩ := ih _ w hp' h.1 h.2
      refine ⟨v, (YieldsR.put hs h1).1 hv, ?_⟩
      show wpList P ops (FQ R (wpF P ops R (QN N') pre)) [oj] _ w
      rw [one_iff, wanted_put oj a oi.dst v h3, if_neg hw, ← Act.put_comm a undef v h2]
      exact ⟨h.1, hr'⟩
end
section
variable {P : Program} {R : World → Prop} {Q : Exit → Act → World → Prop} {l : List Oper} {fls : List Bool}
/-- p stands ahead of q: q waits for it, or the two are apart and one of them is a floater -/
def okp (l : List Oper) (p q : Nat × Bool × Oper) : Bool := ((masksFrom [] l).getD q.1 0).testBit p.1 || ((p.2.1 || q.2.1) && p.2.2.apart l.toArray q.2.2)
def okq (l : List Oper) (h : Nat) (p q : Nat × Bool × Oper) : Bool := okp l p q || ((p.1 == h) && !q.2.1)
structure GJ (l : List Oper) (fls : List Bool) (rel : Nat × Bool × Oper → Nat × Bool × Oper → Bool) (listed : Array Bool) (rem : Rem) : Prop where
  at_ : ∀ p ∈ rem, l[p.1]? = some p.2.2 ∧ fls.getD p.1 false = p.2.1
  mem : ∀ k, k < l.length → (listed.getD k false = false ↔ ∃ p ∈ rem, p.1 = k)
  nodup : (rem.map (·.1)).Nodup
  pairs : rem.Pairwise fun p q => rel p q = true
structure LJ (l : List Oper) (listed : Array Bool) : Prop where
  size : listed.size = l.length
  closed : ∀ i o, l[i]? = some o → listed.getD i false = true → ∀ j, bindsTo o j = true → listed.getD j false = true
theorem LJ.step {listed : Array Bool} (J : LJ l listed) {i : Nat} {o : Oper} (ho : l[i]? = some o) (hpre : ∀ j, bindsTo o j = true → listed.getD j false = true) : LJ l (listed.setIfInBounds i true) := by
  have hlt := (List.getElem?_eq_some_iff.1 ho).1
  refine ⟨by simp [J.size], fun k q hk hl' j hb => ?_⟩
  by_cases hji : i = j
  · subst hji; exact getD_set_self _ _ (by rw [J.size]; exact hlt)
  · rw [Go.Proofs.Ytblidiecahpekaa.getD_set_ne _ _ _ hji]
    by_cases hki : i = k
    · subst hki
      obtain rfl : o = q := by rw [ho] at hk; injection hk
      exact hpre j hb
    · rw [Go.Proofs.Ytblidiecahpekaa.getD_set_ne _ _ _ hki] at hl'
      exact J.closed k q hk hl' j hb
theorem gj_ne {rel : Nat × Bool × Oper → Nat × Bool × Oper → Bool} {listed : Array Bool} {pre post : Rem} {i : Nat} {f : Bool} {o : Oper} (J : GJ l fls rel listed (pre ++ (i, f, o) :: post)) : ∀ q, q ∈ pre ++ post → q.1 ≠ i := fun q hq e => by
  have hnd := J.nodup
  rw [List.map_append, List.map_cons] at hnd
  have h1 := (List.nodup_append.1 hnd).2.2
  have h2 := (List.nodup_cons.1 (List.nodup_append.1 hnd).2.1).1
  rcases List.mem_append.1 hq with h | h
  · exact h1 q.1 (List.mem_map.2 ⟨q, h, rfl⟩) i (by simp) e
  · exact h2 (List.mem_map.2 ⟨q, h, e⟩)
theorem gj_step {rel rel' : Nat × Bool × Oper → Nat × Bool × Oper → Bool} {listed : Array Bool} {pre post : Rem} {i : Nat} {f : Bool} {o : Oper} (hs : listed.size = l.length) (J : GJ l fls rel listed (pre ++ (i, f, o) :: post)) (hlt : i < l.length)
    (hrel : ∀ p q, p.1 ≠ i → rel p q = true → rel' p q = true) : GJ l fls rel' (listed.setIfInBounds i true) (pre ++ post) := by
  have hne := gj_ne J
  have hsub : ∀ q, q ∈ pre ++ post → q ∈ pre ++ (i, f, o) :: post := fun q hq => by
    rcases List.mem_append.1 hq with h | h <;> simp [h]
  have hsl : (pre ++ post).Sublist (pre ++ (i, f, o) :: post) := (List.Sublist.refl pre).append (List.sublist_cons_self _ _)
  refine ⟨fun q hq => J.at_ q (hsub q hq), fun k hk => ?_, (hsl.map _).nodup J.nodup, ?_⟩
  · by_cases hki : i = k
    · subst hki
      rw [getD_set_self _ _ (by rw [hs]; exact hlt)]
      constructor
      · intro h; cases h
      · rintro ⟨q, hq, e⟩; exact absurd e (hne q hq)
    · rw [Go.Proofs.Ytblidiecahpekaa.getD_set_ne _ _ _ hki, J.mem k hk]
      constructor
      · rintro ⟨q, hq, rfl⟩
        refine ⟨q, ?_, rfl⟩
        rcases List.mem_append.1 hq with h | h
        · exact List.mem_append_left _ h
        · rcases List.mem_cons.1 h with rfl | h
          · exact absurd rfl hki
          · exact List.mem_append_right _ h
      · rintro ⟨q, hq, e⟩
        exact ⟨q, hsub q hq, e⟩
  · have hp := J.pairs.sublist hsl
    refine hp.imp_of_mem ?_
    intro p q hp _ h
    exact hrel p q (hne p hp) h
/-- where i stands, and what stands ahead of it -/
theorem gj_cut {rel : Nat × Bool × Oper → Nat × Bool × Oper → Bool} {listed : Array Bool} {rem : Rem} (J : GJ l fls rel listed rem) {i : Nat} {o : Oper} (ho : l[i]? = some o) (hnl : listed.getD i false = false) :
    ∃ pre post, rem = pre ++ (i, fls.getD i false, o) :: post ∧ ∀ q ∈ pre, rel q (i, fls.getD i false, o) = true := by
  have hlt := (List.getElem?_eq_some_iff.1 ho).1
  obtain ⟨p, hp, hpi⟩ := (J.mem i hlt).1 hnl
  obtain ⟨pre, post, rfl⟩ := List.append_of_mem hp
  obtain ⟨i', f', o'⟩ := p
  obtain ⟨hat, hfl⟩ := J.at_ _ hp
  simp only at hpi hat hfl
  subst hpi
  obtain rfl : o = o' := by rw [ho] at hat; injection hat
  subst hfl
  exact ⟨pre, post, rfl, fun q hq => (List.pairwise_append.1 J.pairs).2.2 q hq _ (by simp)⟩
theorem ready_masks {listed : Array Bool} (J : LJ l listed) {i : Nat} {o : Oper} (ho : l[i]? = some o) (hpre : ∀ j, bindsTo o j = true → listed.getD j false = true) : ∀ j, ((masksFrom [] l).getD i 0).testBit j = true → listed.getD j false = true :=
  (masks_ok (listed := fun j => listed.getD j false = true) J.closed l [] 0 ⟨rfl, fun i o hi => absurd hi (by omega)⟩ rfl (Nat.zero_le _)).2 i o (List.getElem?_eq_some_iff.1 ho).1 ho hpre
theorem all_listed {listed : Array Bool} (J : LJ l listed) (h : ∀ k, k < l.length → listed.getD k false = true) : Region.ready .any l.toArray listed = [] := by
  apply List.filter_eq_nil_iff.2
  intro i hi
  simp at hi
  have := h i hi
  have h2 : listed.getD i true = true := by
    have hi' : i < listed.size := by rw [J.size]; exact hi
    simp [hi'] at this ⊢
    exact this
  simp [h2]
/-- a step, by what the operation gives -/
theorem op_float {i : Nat} {o : Oper} {v : Value} {A : Act} {W : World} {K : Act → World → Prop} (hli : l.toArray[i]? = some o) (hR : R W) (hv : YieldsR P l.toArray R o v A) (hn : K (A.put o.dst v) W) : wpOp P l.toArray Q i K A W := by
  refine wpOp_step hli fun K' hK' => ?_
  rcases hv with ⟨hw, hv⟩ | ⟨hw, rfl⟩
  · rw [if_pos hw]
    unfold Oper.wp
    rw [hv W hR]
    exact hK' _ _ hn
  · rw [if_neg (by rw [hw]; simp)]
    exact hK' _ _ hn
theorem op_chain {i : Nat} {o : Oper} {A : Act} {W : World} {N K : Act → World → Prop} (hli : l.toArray[i]? = some o) (hC : wpList P l.toArray (FQ R N) [o] A W) (hn : ∀ A W, R W → N A W → K A W) : wpOp P l.toArray Q i K A W := by
  rw [one_iff] at hC
  refine wpOp_step hli fun K' hK' => ?_
  by_cases hw : Region.wanted o (yielded l.toArray A.tmps) = true
  · rw [if_pos hw] at hC ⊢
    have hC := Oper.wp_mono (fun a' w' h => hK' _ _ (hn _ _ h.1 h.2)) hC
    unfold Oper.wp at hC ⊢
    generalize (execOp A.eval o).run P W = r at hC ⊢
    cases r with
    | ok n w' =>
      cases n <;> simp only [Oper.upon] at hC ⊢ <;> try exact hC
      exact Calls.mono hC fun e w'' he => by
        cases e with
        | returned v => exact he
        | panicked c => exact he.elim
        | outgrown => exact he.elim fun _ h => h.elim fun _ h => h.elim
    | halt x w' => cases x <;> simp only [Oper.upon] at hC
  · rw [if_neg hw] at hC ⊢
    exact hK' _ _ (hn _ _ hC.1 hC.2)
/-- one order -/
theorem wpAny_seq (hback : edgesBack l = true) (hns : ∀ (i : Nat) (o : Oper), l[i]? = some o → NoSel o) : ∀ (fuel : Nat) (listed : Array Bool) (rem : Rem) (A : Act) (W : World), rem.length = fuel → LJ l listed → GJ l fls (okp l) listed rem → R W →
    wpF P l.toArray R Q (rem.map (·.2)) A W → wpAny P .any l.toArray Q fuel listed A W := by
  intro fuel
  induction fuel with
  | zero =>
    intro listed rem A W hl LJ_ J hR h
    have hr : rem = [] := List.eq_nil_of_length_eq_zero hl
    subst hr
    refine ⟨all_listed LJ_ fun k hk => ?_, h⟩
    cases hb : listed.getD k false with
    | true => rfl
    | false =>
      obtain ⟨p, hp, _⟩ := (J.mem k hk).1 hb
      cases hp
  | succ fuel ih =>
    intro listed rem A W hl LJ_ J hR h
    refine ⟨fun hr => ?_, fun i hi => ?_⟩
    · exfalso
      cases rem with
      | nil => cases hl
      | cons p rem =>
        have hp := (J.at_ p (by simp)).1
        have hlt := (List.getElem?_eq_some_iff.1 hp).1
        have h1 := live_ hback LJ_.size hr p.1 hlt
        have h2 := (J.mem p.1 hlt).2 ⟨p, by simp, rfl⟩
        rw [h1] at h2; cases h2
    · obtain ⟨o, ho, hlt, hnl, hpre⟩ := ready_mem hi
      have hnl' := getD_both' LJ_.size hlt hnl
      have hmk := ready_masks LJ_ ho hpre
      obtain ⟨pre, post, rfl, hrel⟩ := gj_cut J ho hnl'
      have hli : l.toArray[i]? = some o := by simpa using ho
      have happ : ∀ q ∈ pre, (fls.getD i false = true ∨ q.2.1 = true) ∧ q.2.2.apart l.toArray o = true ∧ NoSel q.2.2 := fun q hq => by
        obtain ⟨hqa, hqf⟩ := J.at_ q (by simp [hq])
        have hql := (List.getElem?_eq_some_iff.1 hqa).1
        have h1 := hrel q hq
        simp only [okp, Bool.or_eq_true, Bool.and_eq_true] at h1
        rcases h1 with h1 | h1
        · have := hmk q.1 h1
          rw [(J.mem q.1 hql).2 ⟨q, by simp [hq], rfl⟩] at this
          cases this
        · exact ⟨h1.1.symm, h1.2, hns _ _ hqa⟩
      have J' := gj_step LJ_.size J hlt (rel' := okp l) fun p q _ h => h
      have L' := LJ_.step ho hpre
      have hfu : (pre ++ post).length = fuel := by simp at hl ⊢; omega
      have h' : wpF P l.toArray R Q (pre.map (·.2) ++ (fls.getD i false, o) :: post.map (·.2)) A W := by simpa using h
      have hnext : ∀ A' W', R W' → wpF P l.toArray R Q (pre.map (·.2) ++ post.map (·.2)) A' W' → wpAny P .any l.toArray Q fuel (listed.setIfInBounds i true) A' W' := fun A' W' hR' hF => ih _ (pre ++ post) A' W' hfu L' J' hR' (by simpa using hF)
      cases hfi : fls.getD i false with
      | true =>
        rw [hfi] at h'
        obtain ⟨v, hv, hF⟩ := float_out (hns i o ho) (pre.map (·.2)) A W (fun q hq => by obtain ⟨q', hq', rfl⟩ := List.mem_map.1 hq; exact (happ q' hq').2) hR h'
        exact op_float hli hR hv (hnext _ W hR hF)
      | false =>
        rw [hfi] at h'
        have hC := chain_out (hns i o ho) (pre.map (·.2)) A W (fun q hq => by
          obtain ⟨q', hq', rfl⟩ := List.mem_map.1 hq
          obtain ⟨h1, h2⟩ := happ q' hq'
          exact ⟨h1.resolve_left (by rw [hfi]; simp), h2⟩) h'
        exact op_chain hli hC hnext
/-- a fork: the common front, and the orders behind it, each with what comes first of its own -/
structure Alt where
  h : Nat
  rem : Rem
theorem wpAny_fork (hback : edgesBack l = true) (hns : ∀ (i : Nat) (o : Oper), l[i]? = some o → NoSel o) : ∀ (fuel : Nat) (listed : Array Bool) (pre : Rem) (alts : List Alt) (A : Act) (W : World), alts ≠ [] → LJ l listed →
    (∀ alt ∈ alts, (pre ++ alt.rem).length = fuel ∧ GJ l fls (okq l alt.h) listed (pre ++ alt.rem) ∧ (∀ p ∈ pre, p.1 ≠ alt.h) ∧ ∃ p ∈ alt.rem, p.1 = alt.h ∧ p.2.1 = false) →
    (∀ c, c < l.length → fls.getD c false = false → (∃ p ∈ pre, p.1 = c) ∨ listed.getD c false = true ∨ (∃ alt ∈ alts, alt.h = c) ∨ ∃ d, listed.getD d false = false ∧ fls.getD d false = false ∧ (∀ p ∈ pre, p.1 ≠ d) ∧ ((masksFrom [] l).getD c 0).testBit d = true) →
    R W → wpF P l.toArray R (QN fun a w => ∀ alt ∈ alts, wpF P l.toArray R Q (alt.rem.map (·.2)) a w) (pre.map (·.2)) A W → wpAny P .any l.toArray Q fuel listed A W := by
  intro fuel
  induction fuel with
  | zero =>
    intro listed pre alts A W hne _ hal _ _ _
    obtain ⟨alt, halt⟩ := List.exists_mem_of_ne_nil _ hne
    obtain ⟨h1, _, _, p, hp, _⟩ := hal alt halt
    have h2 := List.length_pos_of_mem hp
    simp at h1
    rw [h1.2] at h2
    simp at h2
  | succ fuel ih =>
    intro listed pre alts A W hne LJ_ hal hch hR h
    obtain ⟨alt0, halt0⟩ := List.exists_mem_of_ne_nil _ hne
    obtain ⟨_, J0, hp0, p0, hp0m, hp0h, hp0f⟩ := hal alt0 halt0
    refine ⟨fun hr => ?_, fun i hi => ?_⟩
    · exfalso
      have hp := (J0.at_ p0 (by simp [hp0m])).1
      have hlt := (List.getElem?_eq_some_iff.1 hp).1
      have h1 := live_ hback LJ_.size hr p0.1 hlt
      have h2 := (J0.mem p0.1 hlt).2 ⟨p0, by simp [hp0m], rfl⟩
      rw [h1] at h2; cases h2
    · obtain ⟨o, ho, hlt, hnl, hpre⟩ := ready_mem hi
      have hnl' := getD_both' LJ_.size hlt hnl
      have hmk := ready_masks LJ_ ho hpre
      have L' := LJ_.step ho hpre
      have hli : l.toArray[i]? = some o := by simpa using ho
      -- what stands ahead is no ancestor
      have hnot : ∀ alt ∈ alts, ∀ q ∈ pre ++ alt.rem, okp l q (i, fls.getD i false, o) = true → (q.2.1 = true ∨ fls.getD i false = true) ∧ q.2.2.apart l.toArray o = true := by
        intro alt halt q hq h1
        obtain ⟨_, J, _⟩ := hal alt halt
        have hql := (List.getElem?_eq_some_iff.1 (J.at_ q hq).1).1
        simp only [okp, Bool.or_eq_true, Bool.and_eq_true] at h1
        rcases h1 with h1 | h1
        · have := hmk q.1 h1
          rw [(J.mem q.1 hql).2 ⟨q, hq, rfl⟩] at this
          cases this
        · exact h1
      have hmono : ∀ c, listed.getD c false = true → (listed.setIfInBounds i true).getD c false = true := fun c hc => by
        by_cases hic : i = c
        · subst hic; exact getD_set_self _ _ (by rw [LJ_.size]; exact hlt)
        · rw [Go.Proofs.Ytblidiecahpekaa.getD_set_ne _ _ _ hic]; exact hc
      have hself : (listed.setIfInBounds i true).getD i false = true := getD_set_self _ _ (by rw [LJ_.size]; exact hlt)
      by_cases hip : ∃ p ∈ pre, p.1 = i
      · obtain ⟨p, hp, hpi⟩ := hip
        obtain ⟨p1, p2, rfl⟩ := List.append_of_mem hp
        obtain ⟨i', f', o'⟩ := p
        obtain ⟨hat, hfl⟩ := J0.at_ _ (List.mem_append_left _ hp)
        simp only at hpi hat hfl
        subst hpi
        obtain rfl : o = o' := by rw [ho] at hat; injection hat
        subst hfl
        have happ : ∀ q ∈ p1, (q.2.1 = true ∨ fls.getD i' false = true) ∧ q.2.2.apart l.toArray o = true ∧ NoSel q.2.2 := fun q hq => by
          have hq' : q ∈ p1 ++ (i', fls.getD i' false, o) :: p2 ++ alt0.rem := by simp [hq]
          have hpr := (List.pairwise_append.1 (List.pairwise_append.1 J0.pairs).1).2.2 q hq _ (List.mem_cons_self ..)
          simp only [okq, Bool.or_eq_true, Bool.and_eq_true, beq_iff_eq] at hpr
          have hk : okp l q (i', fls.getD i' false, o) = true := hpr.resolve_right fun hh => hp0 q (by simp [hq]) hh.1
          obtain ⟨a1, a2⟩ := hnot alt0 halt0 q hq' hk
          exact ⟨a1, a2, hns _ _ (J0.at_ q hq').1⟩
        have hal' : ∀ alt ∈ alts, ((p1 ++ p2) ++ alt.rem).length = fuel ∧ GJ l fls (okq l alt.h) (listed.setIfInBounds i' true) ((p1 ++ p2) ++ alt.rem) ∧ (∀ p ∈ p1 ++ p2, p.1 ≠ alt.h) ∧ ∃ p ∈ alt.rem, p.1 = alt.h ∧ p.2.1 = false := by
          intro alt halt
          obtain ⟨h1, J, h3, h4⟩ := hal alt halt
          have e1 : p1 ++ (i', fls.getD i' false, o) :: p2 ++ alt.rem = p1 ++ (i', fls.getD i' false, o) :: (p2 ++ alt.rem) := by simp
          rw [e1] at h1 J
          refine ⟨by simp at h1 ⊢; omega, ?_, fun p hp => h3 p ?_, h4⟩
          · have := gj_step LJ_.size J hlt (rel' := okq l alt.h) fun p q _ h => h
            rw [List.append_assoc]; exact this
          · rcases List.mem_append.1 hp with h | h <;> simp [h]
        have hch' : ∀ c, c < l.length → fls.getD c false = false → (∃ p ∈ p1 ++ p2, p.1 = c) ∨ (listed.setIfInBounds i' true).getD c false = true ∨ (∃ alt ∈ alts, alt.h = c) ∨ ∃ d, (listed.setIfInBounds i' true).getD d false = false ∧ fls.getD d false = false ∧ (∀ p ∈ p1 ++ p2, p.1 ≠ d) ∧ ((masksFrom [] l).getD c 0).testBit d = true := by
          intro c hc hfc
          rcases hch c hc hfc with ⟨p, hp, e⟩ | h1 | h1 | ⟨d, h1, h2, h3, h4⟩
          · rcases List.mem_append.1 hp with hp | hp
            · exact .inl ⟨p, by simp [hp], e⟩
            · rcases List.mem_cons.1 hp with rfl | hp
              · simp only at e; subst e; exact .inr (.inl hself)
              · exact .inl ⟨p, by simp [hp], e⟩
          · exact .inr (.inl (hmono c h1))
          · exact .inr (.inr (.inl h1))
          · refine .inr (.inr (.inr ⟨d, ?_, h2, fun p hp => h3 p ?_, h4⟩))
            · rw [Go.Proofs.Ytblidiecahpekaa.getD_set_ne _ _ _ (fun e => h3 (i', fls.getD i' false, o) (by simp) e)]; exact h1
            · rcases List.mem_append.1 hp with h | h <;> simp [h]
        have h' : wpF P l.toArray R (QN fun a w => ∀ alt ∈ alts, wpF P l.toArray R Q (alt.rem.map (·.2)) a w) (p1.map (·.2) ++ (fls.getD i' false, o) :: p2.map (·.2)) A W := by simpa using h
        have hnext : ∀ A' W', R W' → wpF P l.toArray R (QN fun a w => ∀ alt ∈ alts, wpF P l.toArray R Q (alt.rem.map (·.2)) a w) (p1.map (·.2) ++ p2.map (·.2)) A' W' → wpAny P .any l.toArray Q fuel (listed.setIfInBounds i' true) A' W' :=
          fun A' W' hR' hF => ih _ (p1 ++ p2) alts A' W' hne L' hal' hch' hR' (by simpa using hF)
        cases hfi : fls.getD i' false with
        | true =>
          rw [hfi] at h'
          obtain ⟨v, hv, hF⟩ := float_out (hns i' o ho) (p1.map (·.2)) A W (fun q hq => by obtain ⟨q', hq', rfl⟩ := List.mem_map.1 hq; exact (happ q' hq').2) hR h'
          exact op_float hli hR hv (hnext _ W hR hF)
        | false =>
          rw [hfi] at h'
          have hC := chain_out (hns i' o ho) (p1.map (·.2)) A W (fun q hq => by
            obtain ⟨q', hq', rfl⟩ := List.mem_map.1 hq
            obtain ⟨a1, a2⟩ := happ q' hq'
            exact ⟨a1.resolve_right (by rw [hfi]; simp), a2⟩) h'
          exact op_chain hli hC hnext
      · have hip' : ∀ p ∈ pre, p.1 ≠ i := fun p hp e => hip ⟨p, hp, e⟩
        -- where i stands in each of the orders
        have cut : ∀ alt ∈ alts, ∃ a1 a2, alt.rem = a1 ++ (i, fls.getD i false, o) :: a2 ∧ ∀ q ∈ pre ++ a1, okq l alt.h q (i, fls.getD i false, o) = true := by
          intro alt halt
          obtain ⟨_, J, _⟩ := hal alt halt
          obtain ⟨p, hp, hpi⟩ := (J.mem i hlt).1 hnl'
          rcases List.mem_append.1 hp with hp1 | hp1
          · exact absurd hpi (hip' p hp1)
          · obtain ⟨a1, a2, e⟩ := List.append_of_mem hp1
            obtain ⟨i', f', o'⟩ := p
            obtain ⟨hat, hfl⟩ := J.at_ _ hp
            simp only at hpi hat hfl
            subst hpi
            obtain rfl : o = o' := by rw [ho] at hat; injection hat
            subst hfl
            refine ⟨a1, a2, e, fun q hq => ?_⟩
            have hpr := J.pairs
            rw [e, ← List.append_assoc] at hpr
            exact (List.pairwise_append.1 hpr).2.2 q hq _ (List.mem_cons_self ..)
        cases hfi : fls.getD i false with
        | true =>
          let cutA : Alt → Alt := fun alt => ⟨alt.h, alt.rem.filter fun q => q.1 != i⟩
          have ecut : ∀ alt ∈ alts, ∀ a1 a2, alt.rem = a1 ++ (i, fls.getD i false, o) :: a2 → alt.rem.filter (fun q => q.1 != i) = a1 ++ a2 := by
            intro alt halt a1 a2 e
            obtain ⟨_, J, _⟩ := hal alt halt
            rw [e, ← List.append_assoc] at J
            have hne := gj_ne J
            rw [e, List.filter_append, List.filter_cons_of_neg (by simp), List.filter_eq_self.2, List.filter_eq_self.2]
            · intro q hq; simpa using hne q (by simp [hq])
            · intro q hq; simpa using hne q (by simp [hq])
          have happ : ∀ alt ∈ alts, ∀ q ∈ pre ++ alt.rem, okq l alt.h q (i, fls.getD i false, o) = true → q.2.2.apart l.toArray o = true ∧ NoSel q.2.2 := by
            intro alt halt q hq hk
            simp only [okq, hfi, Bool.not_true, Bool.and_false, Bool.or_false] at hk
            exact ⟨(hnot alt halt q hq (by rw [hfi]; exact hk)).2, hns _ _ ((hal alt halt).2.1.at_ q hq).1⟩
          have hN : ∀ a w, R w → (∀ alt ∈ alts, wpF P l.toArray R Q (alt.rem.map (·.2)) a w) → ∃ v, YieldsR P l.toArray R o v a ∧ ∀ alt ∈ alts.map cutA, wpF P l.toArray R Q (alt.rem.map (·.2)) (a.put o.dst v) w := by
            intro a w hRw hall
            have key : ∀ alt ∈ alts, ∃ v, YieldsR P l.toArray R o v a ∧ wpF P l.toArray R Q ((cutA alt).rem.map (·.2)) (a.put o.dst v) w := by
              intro alt halt
              obtain ⟨a1, a2, e, hq⟩ := cut alt halt
              have hw := hall alt halt
              rw [e, hfi] at hw
              simp only [List.map_append, List.map_cons] at hw
              obtain ⟨v, hv, hF⟩ := float_out (hns i o ho) (a1.map (·.2)) a w (fun q hq' => by
                obtain ⟨q', hq2, rfl⟩ := List.mem_map.1 hq'
                exact happ alt halt q' (by rw [e]; simp [hq2]) (hq q' (by simp [hq2]))) hRw hw
              refine ⟨v, hv, ?_⟩
              show wpF P l.toArray R Q ((alt.rem.filter fun q => q.1 != i).map (·.2)) _ w
              rw [ecut alt halt a1 a2 e]
              simpa using hF
            obtain ⟨v, hv, _⟩ := key alt0 halt0
            refine ⟨v, hv, fun alt' halt' => ?_⟩
            obtain ⟨alt, halt, rfl⟩ := List.mem_map.1 halt'
            obtain ⟨v', hv', hF⟩ := key alt halt
            obtain rfl := YieldsR.uniq hRw hv hv'
            exact hF
          obtain ⟨v, hv, hF⟩ := float_outN (N' := fun a w => ∀ alt ∈ alts.map cutA, wpF P l.toArray R Q (alt.rem.map (·.2)) a w) (hns i o ho) hN (pre.map (·.2)) A W (fun q hq' => by
            obtain ⟨q', hq2, rfl⟩ := List.mem_map.1 hq'
            obtain ⟨a1, a2, e, hq⟩ := cut alt0 halt0
            exact happ alt0 halt0 q' (by simp [hq2]) (hq q' (by simp [hq2]))) hR h
          refine op_float hli hR hv (ih _ pre (alts.map cutA) _ W (by simpa using hne) L' ?_ ?_ hR hF)
          · intro alt' halt'
            obtain ⟨alt, halt, rfl⟩ := List.mem_map.1 halt'
            obtain ⟨h1, J, h3, p, hp, hph, hpf⟩ := hal alt halt
            obtain ⟨a1, a2, e, hq⟩ := cut alt halt
            have e2 := ecut alt halt a1 a2 e
            show ((pre ++ alt.rem.filter fun q => q.1 != i).length = fuel) ∧ GJ l fls (okq l alt.h) _ (pre ++ alt.rem.filter fun q => q.1 != i) ∧ (∀ p ∈ pre, p.1 ≠ alt.h) ∧ ∃ p ∈ alt.rem.filter (fun q => q.1 != i), p.1 = alt.h ∧ p.2.1 = false
            refine ⟨?_, ?_, h3, p, List.mem_filter.2 ⟨hp, ?_⟩, hph, hpf⟩
            · rw [e2]; rw [e] at h1; simp at h1 ⊢; omega
            · rw [e2, ← List.append_assoc]
              rw [e, ← List.append_assoc] at J
              exact gj_step LJ_.size J hlt (rel' := okq l alt.h) fun p q _ h => h
            · simp only [bne_iff_ne]
              intro hpi
              have := (J.at_ p (by simp [hp])).2
              rw [hpi, hfi, hpf] at this
              cases this
          · intro c hc hfc
            rcases hch c hc hfc with h1 | h1 | ⟨alt, halt, e⟩ | ⟨d, h1, h2, h3, h4⟩
            · exact .inl h1
            · exact .inr (.inl (hmono c h1))
            · exact .inr (.inr (.inl ⟨cutA alt, List.mem_map.2 ⟨alt, halt, rfl⟩, e⟩))
            · refine .inr (.inr (.inr ⟨d, ?_, h2, h3, h4⟩))
              rw [Go.Proofs.Ytblidiecahpekaa.getD_set_ne _ _ _ (fun e => by subst e; rw [hfi] at h2; cases h2)]; exact h1
        | false =>
          rcases hch i hlt hfi with ⟨p, hp, e⟩ | h1 | ⟨alt, halt, hh⟩ | ⟨d, h1, h2, h3, h4⟩
          · exact absurd e (hip' p hp)
          · rw [hnl'] at h1; cases h1
          · obtain ⟨hlen, J, h3, _⟩ := hal alt halt
            obtain ⟨a1, a2, e, hq⟩ := cut alt halt
            have h' : wpF P l.toArray R Q ((pre ++ a1).map (·.2) ++ (false, o) :: a2.map (·.2)) A W := by
              have := wpF_mono (fun a w k => k alt halt) _ A W h
              rw [wpF_append, e, hfi] at this
              simpa using this
            rw [e, ← List.append_assoc] at J
            have hne := gj_ne J
            have hC := chain_out (hns i o ho) ((pre ++ a1).map (·.2)) A W (fun q hq' => by
              obtain ⟨q', hq2, rfl⟩ := List.mem_map.1 hq'
              have hk := hq q' hq2
              simp only [okq, Bool.or_eq_true, Bool.and_eq_true, beq_iff_eq] at hk
              have hk' : okp l q' (i, fls.getD i false, o) = true := hk.resolve_right fun hh' => hne q' (List.mem_append_left _ hq2) (hh'.1.trans hh)
              have hq3 : q' ∈ pre ++ alt.rem := by
                rw [e]
                rcases List.mem_append.1 hq2 with h | h <;> simp [h]
              obtain ⟨b1, b2⟩ := hnot alt halt q' hq3 hk'
              exact ⟨b1.resolve_right (by rw [hfi]; simp), b2, hns _ _ ((hal alt halt).2.1.at_ q' hq3).1⟩) h'
            refine op_chain hli hC fun A' W' hR' hF => ?_
            refine wpAny_seq hback hns fuel _ ((pre ++ a1) ++ a2) A' W' ?_ L' (gj_step LJ_.size J hlt fun p q hp hk => ?_) hR' (by simpa using hF)
            · rw [e] at hlen; simp at hlen ⊢; omega
            · simp only [okq, Bool.or_eq_true, Bool.and_eq_true, beq_iff_eq] at hk
              exact hk.resolve_right fun hh' => hp (hh'.1.trans hh)
          · have := hmk d h4
            rw [h1] at this; cases this
end
/-! ### over what is known -/
def nthO : List Oper → Nat → Option Oper
  | o :: _, 0 => some o
  | _ :: r, n + 1 => nthO r n
  | [], _ => none
def nthB : List Bool → Nat → Bool
  | o :: _, 0 => o
  | _ :: r, n + 1 => nthB r n
  | [], _ => false
theorem nthO_eq : ∀ (l : List Oper) (n : Nat), nthO l n = l[n]?
  | [], n => by cases n <;> rfl
  | o :: r, 0 => rfl
  | o :: r, n + 1 => by rw [nthO, nthO_eq r n]; rfl
theorem nthB_eq : ∀ (l : List Bool) (n : Nat), nthB l n = l.getD n false
  | [], n => by cases n <;> rfl
  | o :: r, 0 => rfl
  | o :: r, n + 1 => by rw [nthB, nthB_eq r n]; rfl
def pickO (l : List Oper) : List Nat → List Oper
  | [] => []
  | i :: r => match nthO l i with
    | some o => o :: pickO l r
    | none => pickO l r
def pickF (fls : List Bool) : List Nat → List Bool
  | [] => []
  | i :: r => nthB fls i :: pickF fls r
def pickR (fls : List Bool) (l : List Oper) : List Nat → Rem
  | [] => []
  | i :: r => match nthO l i with
    | some o => (i, nthB fls i, o) :: pickR fls l r
    | none => pickR fls l r
theorem nthO_some {l : List Oper} {i : Nat} (h : i < l.length) : nthO l i = some l[i] := by rw [nthO_eq]; exact List.getElem?_eq_getElem h
theorem pick_zip (fls : List Bool) (l : List Oper) : ∀ idx : List Nat, (∀ i ∈ idx, i < l.length) → (pickR fls l idx).map (·.2) = (pickF fls idx).zip (pickO l idx)
  | [], _ => rfl
  | i :: r, h => by
    simp only [pickR, pickF, pickO, nthO_some (h i (by simp)), List.map_cons, List.zip_cons_cons]
    rw [pick_zip fls l r fun j hj => h j (by simp [hj])]
theorem pick_idx (fls : List Bool) (l : List Oper) : ∀ idx : List Nat, (∀ i ∈ idx, i < l.length) → (pickR fls l idx).map (·.1) = idx
  | [], _ => rfl
  | i :: r, h => by
    simp only [pickR, nthO_some (h i (by simp)), List.map_cons]
    rw [pick_idx fls l r fun j hj => h j (by simp [hj])]
theorem pick_at (fls : List Bool) (l : List Oper) : ∀ (idx : List Nat) (p : Nat × Bool × Oper), p ∈ pickR fls l idx → l[p.1]? = some p.2.2 ∧ fls.getD p.1 false = p.2.1
  | [], p, h => by cases h
  | i :: r, p, h => by
    simp only [pickR] at h
    cases hn : nthO l i with
    | none => rw [hn] at h; exact pick_at fls l r p h
    | some o =>
      rw [hn] at h
      rcases List.mem_cons.1 h with rfl | h
      · exact ⟨by rw [← nthO_eq]; exact hn, (nthB_eq _ _).symm⟩
      · exact pick_at fls l r p h
theorem pick_append (fls : List Bool) (l : List Oper) : ∀ a b : List Nat, pickR fls l (a ++ b) = pickR fls l a ++ pickR fls l b
  | [], b => rfl
  | i :: a, b => by
    simp only [List.cons_append, pickR]
    cases nthO l i with
    | none => exact pick_append fls l a b
    | some o => simp [pick_append fls l a b]
def relB (rel : Nat × Bool × Oper → Nat × Bool × Oper → Bool) : Rem → Bool
  | [] => true
  | p :: r => r.all (fun q => rel p q && p.1 != q.1) && relB rel r
theorem rel_of (rel : Nat × Bool × Oper → Nat × Bool × Oper → Bool) : ∀ rem : Rem, relB rel rem = true → rem.Pairwise (fun p q => rel p q = true) ∧ (rem.map (·.1)).Nodup
  | [], _ => ⟨.nil, .nil⟩
  | p :: r, h => by
    simp only [relB, Bool.and_eq_true] at h
    obtain ⟨h1, h2⟩ := rel_of rel r h.2
    have h3 : ∀ q ∈ r, rel p q = true ∧ p.1 ≠ q.1 := fun q hq => by simpa using List.all_eq_true.1 h.1 q hq
    refine ⟨.cons (fun q hq => (h3 q hq).1) h1, ?_⟩
    rw [List.map_cons]
    refine List.nodup_cons.2 ⟨fun hm => ?_, h2⟩
    obtain ⟨q, hq, e⟩ := List.mem_map.1 hm
    exact (h3 q hq).2 e.symm
def headC (fls : List Bool) (alt : List Nat) : Nat := (alt.find? fun i => !nthB fls i).getD 0
def forkOk (fls : List Bool) (l : List Oper) (pre : List Nat) (alts : List (List Nat)) : Bool :=
  edgesBack l && l.all noSelB && !alts.isEmpty && (alts.all fun alt => (pre ++ alt).all (fun i => decide (i < l.length)) && (List.range l.length).all (fun i => (pre ++ alt).contains i) &&
    relB (okq l (headC fls alt)) (pickR fls l (pre ++ alt)) && pre.all (fun i => i != headC fls alt) && alt.contains (headC fls alt) && !nthB fls (headC fls alt)) &&
  (List.range l.length).all fun c => nthB fls c || pre.contains c || alts.any (fun alt => headC fls alt == c) || (List.range l.length).any fun d => !nthB fls d && !pre.contains d && ((masksFrom [] l).getD c 0).testBit d
section
variable {P : Program} {R : World → Prop} {Q : Exit → Act → World → Prop} {n : Nat} {L : Slots} {w : World}
/-- what the front ends in: each of the orders goes on -/
def Forks (P : Program) (l : List Oper) (R : World → Prop) (Q : Exit → Act → World → Prop) (fls : List Bool) (alts : List (List Nat)) : Exit → Act → World → Prop := QN fun a w => ∀ alt ∈ alts, wpF P l.toArray R Q ((pickF fls alt).zip (pickO l alt)) a w
theorem kw_region_g {id : Nat} {l : List Oper} (R : World → Prop) (fls : List Bool) (pre : List Nat) (alts : List (List Nat)) (hm : P.follows .mixedOrders = true) (hok : forkOk fls l pre alts = true) (hR : R w.drew)
    (h : KF P l.toArray R (Forks P l R Q fls alts) (pickF fls pre) (pickO l pre) n L w.drew) : KW P (.region id l.toArray true) Q n L w := ⟨fun a k => by
  have h := h.h a k
  simp only [forkOk, Bool.and_eq_true, Bool.not_eq_true'] at hok
  obtain ⟨⟨⟨⟨hback, hsel⟩, hne⟩, halts⟩, hch⟩ := hok
  have hns : ∀ (i : Nat) (o : Oper), l[i]? = some o → NoSel o := fun i o h => noSel_of (List.all_eq_true.1 hsel o (List.mem_of_getElem? h))
  refine wp_region_any hm ?_
  have hs : l.toArray.size = l.length := by simp
  rw [hs]
  have hA : ∀ alt ∈ alts, (∀ i ∈ pre ++ alt, i < l.length) ∧ (∀ i, i < l.length → i ∈ pre ++ alt) ∧ relB (okq l (headC fls alt)) (pickR fls l (pre ++ alt)) = true ∧ (∀ i ∈ pre, i ≠ headC fls alt) ∧ headC fls alt ∈ alt ∧ nthB fls (headC fls alt) = false := by
    intro alt halt
    have := List.all_eq_true.1 halts alt halt
    simp only [Bool.and_eq_true, Bool.not_eq_true'] at this
    obtain ⟨⟨⟨⟨⟨q1, q2⟩, q3⟩, q4⟩, q5⟩, q6⟩ := this
    exact ⟨fun i hi => by simpa using List.all_eq_true.1 q1 i hi, fun i hi => by simpa using List.all_eq_true.1 q2 i (List.mem_range.2 hi), q3, fun i hi => by simpa using List.all_eq_true.1 q4 i hi, by simpa using q5, q6⟩
  have hls : ∀ k, (Array.replicate l.length false).getD k false = false := fun k => by simp [Array.getElem?_replicate]; split <;> rfl
  refine wpAny_fork (fls := fls) (R := R) hback hns l.length _ (pickR fls l pre) (alts.map fun alt => ⟨headC fls alt, pickR fls l alt⟩) a w.drew ?_ ⟨by simp, fun i o _ h => by rw [hls] at h; cases h⟩ ?_ ?_ hR ?_
  · intro e
    have : alts = [] := by simpa using e
    rw [this] at hne; simp at hne
  · intro alt' halt'
    obtain ⟨alt, halt, rfl⟩ := List.mem_map.1 halt'
    obtain ⟨q1, q2, q3, q4, q5, q6⟩ := hA alt halt
    obtain ⟨r1, r2⟩ := rel_of _ _ q3
    have hix := pick_idx fls l (pre ++ alt) q1
    rw [pick_append] at r1 r2 hix
    refine ⟨?_, ⟨fun p hp => pick_at fls l (pre ++ alt) p (by rw [pick_append]; exact hp), fun k hk => ?_, r2, r1⟩, fun p hp => ?_, ?_⟩
    · have hnd : (pre ++ alt).Nodup := by rw [← hix]; exact r2
      have e1 : (pickR fls l pre ++ pickR fls l alt).length = (pre ++ alt).length := by
        have := congrArg List.length hix
        simpa using this
      rw [e1]
      have e2 : (pre ++ alt).Perm (List.range l.length) := (List.perm_ext_iff_of_nodup hnd List.nodup_range).2 fun x => ⟨fun hx => List.mem_range.2 (q1 x hx), fun hx => q2 x (List.mem_range.1 hx)⟩
      simpa using e2.length_eq
    · constructor
      · intro _
        have hm' := q2 k hk
        rw [← hix] at hm'
        obtain ⟨p, hp, e⟩ := List.mem_map.1 hm'
        exact ⟨p, hp, e⟩
      · intro _; exact hls k
    · have hi : p.1 ∈ pre := by
        rw [← pick_idx fls l pre (fun i hi => q1 i (List.mem_append_left _ hi))]
        exact List.mem_map.2 ⟨p, hp, rfl⟩
      exact q4 p.1 hi
    · have hi : headC fls alt ∈ (pickR fls l alt).map (·.1) := by rw [pick_idx fls l alt (fun i hi => q1 i (List.mem_append_right _ hi))]; exact q5
      obtain ⟨p, hp, e⟩ := List.mem_map.1 hi
      refine ⟨p, hp, e, ?_⟩
      rw [← (pick_at fls l alt p hp).2, e, ← nthB_eq]
      exact q6
  · intro c hc hfc
    have := List.all_eq_true.1 hch c (List.mem_range.2 hc)
    simp only [Bool.or_eq_true] at this
    have hpreB : ∀ i ∈ pre, i < l.length := fun i hi => by
      obtain ⟨alt, halt⟩ := List.exists_mem_of_ne_nil alts (fun e => by rw [e] at hne; simp at hne)
      exact (hA alt halt).1 i (List.mem_append_left _ hi)
    rcases this with ((h1 | h1) | h1) | h1
    · rw [nthB_eq, hfc] at h1; cases h1
    · have hi : c ∈ pre := by simpa using h1
      rw [← pick_idx fls l pre hpreB] at hi
      obtain ⟨p, hp, e⟩ := List.mem_map.1 hi
      exact .inl ⟨p, hp, e⟩
    · obtain ⟨alt, halt, e⟩ := List.any_eq_true.1 h1
      exact .inr (.inr (.inl ⟨_, List.mem_map.2 ⟨alt, halt, rfl⟩, by simpa using e⟩))
    · obtain ⟨d, hd, e⟩ := List.any_eq_true.1 h1
      simp only [Bool.and_eq_true, Bool.not_eq_true'] at e
      refine .inr (.inr (.inr ⟨d, hls d, by rw [← nthB_eq]; exact e.1.1, fun p hp hpd => ?_, e.2⟩))
      have hi : p.1 ∈ pre := by
        rw [← pick_idx fls l pre hpreB]
        exact List.mem_map.2 ⟨p, hp, rfl⟩
      rw [hpd] at hi
      have := e.1.2
      simp [hi] at this
  · have hpreB : ∀ i ∈ pre, i < l.length := fun i hi => by
      obtain ⟨alt, halt⟩ := List.exists_mem_of_ne_nil alts (fun e => by rw [e] at hne; simp at hne)
      exact (hA alt halt).1 i (List.mem_append_left _ hi)
    rw [pick_zip fls l pre hpreB]
    refine wpF_mono (fun a w hall alt' halt' => ?_) _ a _ h
    obtain ⟨alt, halt, rfl⟩ := List.mem_map.1 halt'
    show wpF P l.toArray R Q ((pickR fls l alt).map (·.2)) a w
    rw [pick_zip fls l alt fun i hi => (hA alt halt).1 i (List.mem_append_right _ hi)]
    exact hall alt halt⟩
theorem kq_fork {l : List Oper} {fls : List Bool} {alts : List (List Nat)} (h : ∀ alt ∈ alts, KF P l.toArray R Q (pickF fls alt) (pickO l alt) n L w) : KQ (Forks P l R Q fls alts) .normal n L w := ⟨fun a k alt halt => (h alt halt).h a k⟩
theorem kq_fork2 {l : List Oper} {fls : List Bool} {a1 a2 : List Nat} (h1 : KF P l.toArray R Q (pickF fls a1) (pickO l a1) n L w) (h2 : KF P l.toArray R Q (pickF fls a2) (pickO l a2) n L w) : KQ (Forks P l R Q fls [a1, a2]) .normal n L w :=
  kq_fork fun alt halt => by
    rcases List.mem_cons.1 halt with rfl | halt
    · exact h1
    · rcases List.mem_singleton.1 halt with rfl
      exact h2
end
end Go.Proofs.Ytblidiecahpekaa
