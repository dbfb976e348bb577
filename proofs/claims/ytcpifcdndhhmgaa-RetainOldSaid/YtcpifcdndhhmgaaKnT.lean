/- Regions that draw their order and in which what is no floater can come in any order that the edges leave: the walk follows a tree of orders. No program in sight. -/
import Derived.Test.YtcpifcdndhhmgaaKnR
set_option linter.unusedVariables false
set_option linter.unusedSimpArgs false
namespace Go.Proofs.Ytcpifcdndhhmgaa
open Go.RowKit
/-- the code from a region on, to the end of the outermost row that begins with it -/
def headId : Code → Option Nat
  | .region i _ _ => some i
  | .seq a _ => headId a
  | _ => none
def findRow (id : Nat) : Code → Option Code
  | .block _ c => findRow id c
  | .loop c => findRow id c
  | .scope c => findRow id c
  | .seq a b => if headId a = some id then some (.seq a b) else match findRow id a with
    | some c => some c
    | none => findRow id b
  | .cond _ a b => match findRow id a with
    | some c => some c
    | none => findRow id b
  | _ => none
noncomputable def rowAt (f : Func) (id : Nat) : Code := ((f.body).bind (findRow id)).getD .skip
/-- no operation that is left is waited for by i -/
def freeI (ms : List Nat) (rem : List Nat) (i : Nat) : Bool := rem.all fun j => !((ms.getD i 0).testBit j)
def WT (P : Program) (l : List Oper) (R : World → Prop) (Q : Exit → Act → World → Prop) (fls : List Bool) : Nat → List Nat → Act → World → Prop
  | 0, rem, a, w => rem = [] ∧ Q .normal a w
  | k + 1, rem, a, w =>
    (∃ i o v, i ∈ rem ∧ nthB fls i = true ∧ freeI (masksFrom [] l) rem i = true ∧ nthO l i = some o ∧ YieldsR P l.toArray R o v a ∧ WT P l R Q fls k (rem.erase i) (a.put o.dst v) w) ∨
    ((∀ i ∈ rem, nthB fls i = true → freeI (masksFrom [] l) rem i = false) ∧ ∀ i ∈ rem, freeI (masksFrom [] l) rem i = true → ∃ o, nthO l i = some o ∧ wpList P l.toArray (FQ R (WT P l R Q fls k (rem.erase i))) [o] a w)
def ordOk (fls : List Bool) (l : List Oper) : Bool :=
  edgesBack l && l.all noSelB && (List.range l.length).all fun i => (List.range l.length).all fun j => i == j || !(nthB fls i || nthB fls j) || ((masksFrom [] l).getD i 0).testBit j || ((masksFrom [] l).getD j 0).testBit i ||
    (((nthO l j).bind fun oj => (nthO l i).map fun oi => oj.apart l.toArray oi).getD false)
theorem freeI_erase {ms rem : List Nat} {i : Nat} (j : Nat) (h : freeI ms rem i = true) : freeI ms (rem.erase j) i = true := by
  unfold freeI at h ⊢
  rw [List.all_eq_true] at h ⊢
  exact fun x hx => h x (List.mem_of_mem_erase hx)
theorem freeI_no {ms rem : List Nat} {i j : Nat} (h : freeI ms rem i = true) (hj : j ∈ rem) : (ms.getD i 0).testBit j = false := by
  unfold freeI at h
  have := List.all_eq_true.1 h j hj
  simpa using this
section
variable {P : Program} {l : List Oper} {R : World → Prop} {Q : Exit → Act → World → Prop} {fls : List Bool}
theorem ord_apart (hok : ordOk fls l = true) {rem : List Nat} {i j : Nat} {oi oj : Oper} (hi : i ∈ rem) (hj : j ∈ rem) (hne : i ≠ j) (hf : (nthB fls i || nthB fls j) = true) (fi : freeI (masksFrom [] l) rem i = true) (fj : freeI (masksFrom [] l) rem j = true)
    (ni : nthO l i = some oi) (nj : nthO l j = some oj) : oj.apart l.toArray oi = true ∧ NoSel oi ∧ NoSel oj := by
  simp only [ordOk, Bool.and_eq_true] at hok
  obtain ⟨⟨_, hsel⟩, hp⟩ := hok
  have li : l[i]? = some oi := by rw [← nthO_eq]; exact ni
  have lj : l[j]? = some oj := by rw [← nthO_eq]; exact nj
  have h1 := List.all_eq_true.1 (List.all_eq_true.1 hp i (List.mem_range.2 (List.getElem?_eq_some_iff.1 li).1)) j (List.mem_range.2 (List.getElem?_eq_some_iff.1 lj).1)
  rw [beq_eq_false_iff_ne.2 hne, hf, freeI_no fi hj, freeI_no fj hi, ni, nj] at h1
  simp only [Bool.not_true, Bool.or_false, Bool.false_or, Option.bind_some, Option.map_some, Option.getD_some] at h1
  exact ⟨h1, noSel_of (List.all_eq_true.1 hsel oi (List.mem_of_getElem? li)), noSel_of (List.all_eq_true.1 hsel oj (List.mem_of_getElem? lj))⟩
theorem mem_erase_of {rem : List Nat} {i j : Nat} (hi : i ∈ rem) (hne : i ≠ j) : i ∈ rem.erase j := (List.mem_erase_of_ne hne).2 hi
/-- a floater that is free comes first as well -/
theorem wt_float (hok : ordOk fls l = true) : ∀ (k : Nat) (rem : List Nat) (a : Act) (w : World) (i : Nat) (o : Oper), i ∈ rem → nthB fls i = true → freeI (masksFrom [] l) rem i = true → nthO l i = some o →
    WT P l R Q fls (k + 1) rem a w → ∃ v, YieldsR P l.toArray R o v a ∧ WT P l R Q fls k (rem.erase i) (a.put o.dst v) w
  | k, rem, a, w, i, o, hi, hfl, hfr, ho, h => by
    rcases h with ⟨j, oj, u, hj, hjf, hjr, hjo, hu, hr⟩ | ⟨hno, _⟩
    · by_cases hij : i = j
      · subst hij
        obtain rfl : o = oj := by rw [ho] at hjo; injection hjo
        exact ⟨u, hu, hr⟩
      · have hie := mem_erase_of hi hij
        have hje := mem_erase_of hj (Ne.symm hij)
        cases k with
        | zero => rw [hr.1] at hie; cases hie
        | succ k =>
          obtain ⟨v, hv, hr'⟩ := wt_float hok k _ _ w i o hie hfl (freeI_erase j hfr) ho hr
          obtain ⟨ha, hs, hsj⟩ := ord_apart hok hi hj hij (by rw [hfl]; rfl) hfr hjr ho hjo
          obtain ⟨h1, h2, h3⟩ := Oper.apart_spec ha
          refine ⟨v, (YieldsR.put hs h1).1 hv, .inl ⟨j, oj, u, hje, hjf, freeI_erase i hjr, hjo, (YieldsR.put hsj h3).2 hu, ?_⟩⟩
          rw [← Act.put_comm a u v h2, List.erase_comm]
          exact hr'
    · rw [hno i hi hfl] at hfr; cases hfr
/-- what is no floater, free: ahead of floaters as well -/
theorem wt_chain (hok : ordOk fls l = true) : ∀ (k : Nat) (rem : List Nat) (a : Act) (w : World) (i : Nat) (o : Oper), i ∈ rem → nthB fls i = false → freeI (masksFrom [] l) rem i = true → nthO l i = some o →
    WT P l R Q fls (k + 1) rem a w → wpList P l.toArray (FQ R (WT P l R Q fls k (rem.erase i))) [o] a w
  | k, rem, a, w, i, o, hi, hfl, hfr, ho, h => by
    rcases h with ⟨j, oj, u, hj, hjf, hjr, hjo, hu, hr⟩ | ⟨_, hall⟩
    · have hij : i ≠ j := fun e => by rw [e, hjf] at hfl; cases hfl
      have hie := mem_erase_of hi hij
      have hje := mem_erase_of hj (Ne.symm hij)
      cases k with
      | zero => rw [hr.1] at hie; cases hie
      | succ k =>
        have hc := wt_chain hok k _ _ w i o hie hfl (freeI_erase j hfr) ho hr
        obtain ⟨ha, hs, hsj⟩ := ord_apart hok hi hj hij (by rw [hjf, Bool.or_true]) hfr hjr ho hjo
        obtain ⟨h1, h2, h3⟩ := Oper.apart_spec ha
        rw [one_iff, wanted_put o a oj.dst u h1] at hc
        rw [one_iff]
        by_cases hw : Region.wanted o (yielded l.toArray a.tmps) = true
        · rw [if_pos hw] at hc ⊢
          rw [wp_put hs h1 (fun e he => fun hd => h2 e hd he)] at hc
          refine Oper.wp_mono ?_ (wp_form hc)
          rintro a' w' ⟨⟨hR', hF'⟩, u', D', rfl⟩
          refine ⟨hR', .inl ⟨j, oj, u, hje, hjf, freeI_erase i hjr, hjo, (yields_dd hsj h3).2 hu, ?_⟩⟩
          rw [List.erase_comm]
          exact hF'
        · rw [if_neg hw] at hc ⊢
          refine ⟨hc.1, .inl ⟨j, oj, u, hje, hjf, freeI_erase i hjr, hjo, (YieldsR.put hsj h3).2 hu, ?_⟩⟩
          rw [← Act.put_comm a u undef h2, List.erase_comm]
          exact hc.2
    · obtain ⟨o', ho', h'⟩ := hall i hi hfr
      obtain rfl : o = o' := by rw [ho] at ho'; injection ho'
      exact h'
theorem wpAny_ord (hok : ordOk fls l = true) : ∀ (k : Nat) (listed : Array Bool) (rem : List Nat) (A : Act) (W : World), rem.length = k → LJ l listed → rem.Nodup → (∀ j ∈ rem, j < l.length) → (∀ j, j < l.length → (listed.getD j false = false ↔ j ∈ rem)) → R W →
    WT P l R Q fls k rem A W → wpAny P .any l.toArray Q k listed A W := by
  have hback : edgesBack l = true := by
    simp only [ordOk, Bool.and_eq_true] at hok
    exact hok.1.1
  intro k
  induction k with
  | zero =>
    intro listed rem A W hl LJ_ _ _ hm _ h
    obtain rfl : rem = [] := List.eq_nil_of_length_eq_zero hl
    refine ⟨all_listed LJ_ fun k hk => ?_, h.2⟩
    cases hb : listed.getD k false with
    | true => rfl
    | false => exact absurd ((hm k hk).1 hb) (by simp)
  | succ k ih =>
    intro listed rem A W hl LJ_ hnd hlt hm hR h
    refine ⟨fun hr => ?_, fun i hi => ?_⟩
    · exfalso
      cases rem with
      | nil => cases hl
      | cons p rem =>
        have h1 := live_ hback LJ_.size hr p (hlt p (by simp))
        have h2 := (hm p (hlt p (by simp))).2 (by simp)
        rw [h1] at h2; cases h2
    · obtain ⟨o, ho, hilt, hnl, hpre⟩ := ready_mem hi
      have hnl' := getD_both' LJ_.size hilt hnl
      have hmk := ready_masks LJ_ ho hpre
      have hirem := (hm i hilt).1 hnl'
      have hfr : freeI (masksFrom [] l) rem i = true := by
        unfold freeI
        rw [List.all_eq_true]
        intro j hj
        cases hb : ((masksFrom [] l).getD i 0).testBit j with
        | false => rfl
        | true =>
          have h1 := hmk j hb
          rw [(hm j (hlt j hj)).2 hj] at h1
          cases h1
      have hno : nthO l i = some o := by rw [nthO_eq]; exact ho
      have hli : l.toArray[i]? = some o := by simpa using ho
      have L' := LJ_.step ho hpre
      have hnd' := hnd.erase i
      have hnext : ∀ A' W', R W' → WT P l R Q fls k (rem.erase i) A' W' → wpAny P .any l.toArray Q k (listed.setIfInBounds i true) A' W' := fun A' W' hR' hF => by
        refine ih _ (rem.erase i) A' W' (by rw [List.length_erase_of_mem hirem]; omega) L' hnd' (fun j hj => hlt j (List.mem_of_mem_erase hj)) (fun j hj => ?_) hR' hF
        by_cases hij : i = j
        · subst hij
          rw [getD_set_self _ _ (by rw [LJ_.size]; exact hilt)]
          constructor
          · intro h; cases h
          · intro h; exact absurd h (by rw [hnd.mem_erase_iff]; simp)
        · rw [Go.Proofs.Ytcpifcdndhhmgaa.getD_set_ne _ _ _ hij, hm j hj]
          exact ⟨fun h => mem_erase_of h (Ne.symm hij), fun h => List.mem_of_mem_erase h⟩
      cases hfi : nthB fls i with
      | true =>
        obtain ⟨v, hv, hF⟩ := wt_float hok k rem A W i o hirem hfi hfr hno h
        exact op_float hli hR hv (hnext _ W hR hF)
      | false => exact op_chain hli (wt_chain hok k rem A W i o hirem hfi hfr hno h) hnext
end
/-! ### over what is known -/
structure KT (P : Program) (l : List Oper) (R : World → Prop) (Q : Exit → Act → World → Prop) (fls : List Bool) (rem : List Nat) (n : Nat) (L : Slots) (w : World) : Prop where
  h : ∀ a, Kn n L a → WT P l R Q fls rem.length rem a w
/-- what a stretch ends in: the walk over what is left -/
def QT (P : Program) (l : List Oper) (R : World → Prop) (Q : Exit → Act → World → Prop) (fls : List Bool) (rem : List Nat) : Exit → Act → World → Prop := QN (WT P l R Q fls rem.length rem)
def segTo (fls : List Bool) (l : List Oper) : List Nat → List Nat → Option (List Nat)
  | rem, [] => some rem
  | rem, i :: r => bif decide (i < l.length) && rem.contains i && freeI (masksFrom [] l) rem i && (nthB fls i || rem.all (fun j => j == i || !freeI (masksFrom [] l) rem j)) then segTo fls l (rem.erase i) r else none
def forkTo (fls : List Bool) (l : List Oper) (rem cs : List Nat) : Bool :=
  !rem.isEmpty && (rem.all fun j => !(nthB fls j && freeI (masksFrom [] l) rem j)) && (rem.all fun j => !freeI (masksFrom [] l) rem j || cs.contains j) && cs.all fun c => decide (c < l.length)
section
variable {P : Program} {l : List Oper} {R : World → Prop} {Q : Exit → Act → World → Prop} {fls : List Bool} {n : Nat} {L : Slots} {w : World} {rem : List Nat}
theorem kw_region_o {id : Nat} (R : World → Prop) (fls : List Bool) (hm : P.follows .mixedOrders = true) (hok : ordOk fls l = true) (hR : R w.drew) (h : KT P l R Q fls (List.range l.length) n L w.drew) : KW P (.region id l.toArray true) Q n L w := ⟨fun a k => by
  refine wp_region_any hm ?_
  have hs : l.toArray.size = l.length := by simp
  rw [hs]
  have hls : ∀ k, (Array.replicate l.length false).getD k false = false := fun k => by simp [Array.getElem?_replicate]; split <;> rfl
  have h' := h.h a k
  rw [List.length_range] at h'
  exact wpAny_ord hok l.length _ (List.range l.length) a w.drew (by simp) ⟨by simp, fun i o _ h => by rw [hls] at h; cases h⟩ List.nodup_range (fun j hj => List.mem_range.1 hj) (fun j hj => ⟨fun _ => List.mem_range.2 hj, fun _ => hls j⟩) hR h'⟩
theorem seg_wt : ∀ (idx rem rem' : List Nat) (a : Act) (w : World), segTo fls l rem idx = some rem' → wpF P l.toArray R (QT P l R Q fls rem') ((pickF fls idx).zip (pickO l idx)) a w → WT P l R Q fls rem.length rem a w
  | [], rem, rem', a, w, hs, h => by
    simp only [segTo, Option.some.injEq] at hs
    subst hs
    exact h
  | i :: r, rem, rem', a, w, hs, h => by
    simp only [segTo] at hs
    cases hc : (decide (i < l.length) && rem.contains i && freeI (masksFrom [] l) rem i && (nthB fls i || rem.all (fun j => j == i || !freeI (masksFrom [] l) rem j))) with
    | false => rw [hc] at hs; cases hs
    | true =>
      rw [hc, cond_true] at hs
      simp only [Bool.and_eq_true, decide_eq_true_eq, List.contains_iff_mem] at hc
      obtain ⟨⟨⟨hlt, hmem⟩, hfr⟩, hor⟩ := hc
      have ho := nthO_some hlt
      have hlen : rem.length = (rem.erase i).length + 1 := by
        have := List.length_erase_of_mem hmem
        have := List.length_pos_of_mem hmem
        omega
      simp only [pickF, pickO, ho, List.zip_cons_cons] at h
      rw [hlen]
      cases hfi : nthB fls i with
      | true =>
        rw [hfi] at h
        obtain ⟨v, hv, hr⟩ := h
        exact .inl ⟨i, _, v, hmem, hfi, hfr, ho, hv, seg_wt r _ rem' _ w hs hr⟩
      | false =>
        rw [hfi] at h hor
        simp only [Bool.false_or, List.all_eq_true, Bool.or_eq_true, beq_iff_eq, Bool.not_eq_true'] at hor
        refine .inr ⟨fun j hj hjf => ?_, fun j hj hjr => ?_⟩
        · rcases hor j hj with e | e
          · rw [e, hfi] at hjf; cases hjf
          · exact e
        · rcases hor j hj with e | e
          · subst e
            exact ⟨_, ho, fq_mono (fun a' w' h' => seg_wt r _ rem' a' w' hs h') h⟩
          · rw [e] at hjr; cases hjr
/-- a stretch in which one order alone is left -/
theorem kt_seg (idx rem' : List Nat) (hs : segTo fls l rem idx = some rem') (h : KF P l.toArray R (QT P l R Q fls rem') (pickF fls idx) (pickO l idx) n L w) : KT P l R Q fls rem n L w := ⟨fun a k => seg_wt idx rem rem' a w hs (h.h a k)⟩
/-- a fork: each of these may come next -/
theorem kt_fork (cs : List Nat) (hf : forkTo fls l rem cs = true) (h : ∀ c ∈ cs, KF P l.toArray R (QT P l R Q fls (rem.erase c)) [false] (pickO l [c]) n L w) : KT P l R Q fls rem n L w := ⟨fun a k => by
  simp only [forkTo, Bool.and_eq_true, List.all_eq_true, Bool.not_eq_true', Bool.or_eq_true, decide_eq_true_eq, List.contains_iff_mem] at hf
  obtain ⟨⟨⟨h0, h1⟩, h2⟩, h3⟩ := hf
  cases hrem : rem with
  | nil =>
    rw [hrem] at h0
    simp at h0
  | cons r0 rs =>
    rw [← hrem]
    have hlen : ∀ i ∈ rem, (rem.erase i).length = rs.length := fun i hi => by rw [List.length_erase_of_mem hi, hrem]; simp
    rw [show rem.length = rs.length + 1 by rw [hrem]; rfl]
    refine .inr ⟨fun i hi hfi => ?_, fun i hi hfr => ?_⟩
    · have := h1 i hi
      rw [hfi, Bool.true_and] at this
      exact this
    · have hc : i ∈ cs := by
        rcases h2 i hi with e | e
        · rw [hfr] at e; cases e
        · exact e
      have ho := nthO_some (h3 i hc)
      have hk := (h i hc).h a k
      simp only [pickO, ho] at hk
      refine ⟨_, ho, ?_⟩
      rw [← hlen i hi]
      exact fq_mono (fun a' w' h' => h') hk⟩
theorem kt_fork2 (c1 c2 : Nat) (hf : forkTo fls l rem [c1, c2] = true) (h1 : KF P l.toArray R (QT P l R Q fls (rem.erase c1)) [false] (pickO l [c1]) n L w) (h2 : KF P l.toArray R (QT P l R Q fls (rem.erase c2)) [false] (pickO l [c2]) n L w) : KT P l R Q fls rem n L w :=
  kt_fork [c1, c2] hf fun c hc => by
    rcases List.mem_cons.1 hc with rfl | hc
    · exact h1
    · rcases List.mem_cons.1 hc with rfl | hc
      · exact h2
      · cases hc
theorem kt_done (h : KQ Q .normal n L w) : KQ (QT P l R Q fls []) .normal n L w := ⟨fun a k => ⟨rfl, h.h a k⟩⟩
theorem kt_more (h : KT P l R Q fls rem n L w) : KQ (QT P l R Q fls rem) .normal n L w := ⟨fun a k => h.h a k⟩
end
end Go.Proofs.Ytcpifcdndhhmgaa
