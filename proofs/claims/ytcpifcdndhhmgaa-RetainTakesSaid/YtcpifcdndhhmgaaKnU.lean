/- Regions that draw their order and whose last operation waits for all others: what all worlds of the region meet need not be met behind it. No program in sight. -/
import Derived.Test.YtcpifcdndhhmgaaKnT
set_option linter.unusedVariables false
set_option linter.unusedSimpArgs false
namespace Go.Proofs.Ytcpifcdndhhmgaa
open Go.RowKit
def WTz (z : Nat) (P : Program) (l : List Oper) (R : World → Prop) (Q : Exit → Act → World → Prop) (fls : List Bool) : Nat → List Nat → Act → World → Prop
  | 0, rem, a, w => rem = [] ∧ Q .normal a w
  | k + 1, rem, a, w =>
    (∃ i o v, i ∈ rem ∧ nthB fls i = true ∧ freeI (masksFrom [] l) rem i = true ∧ nthO l i = some o ∧ YieldsR P l.toArray R o v a ∧ WTz z P l R Q fls k (rem.erase i) (a.put o.dst v) w) ∨
    ((∀ i ∈ rem, nthB fls i = true → freeI (masksFrom [] l) rem i = false) ∧ ∀ i ∈ rem, freeI (masksFrom [] l) rem i = true → ∃ o, nthO l i = some o ∧ wpList P l.toArray (FQ (fun w => i = z ∨ R w) (WTz z P l R Q fls k (rem.erase i))) [o] a w)
/-- the last one waits for all others -/
def lastOk (z : Nat) (fls : List Bool) (l : List Oper) : Bool := !nthB fls z && decide (z < l.length) && (List.range l.length).all fun j => j == z || ((masksFrom [] l).getD z 0).testBit j
section
variable {z : Nat} {P : Program} {l : List Oper} {R : World → Prop} {Q : Exit → Act → World → Prop} {fls : List Bool}
/-- a floater that is free comes first as well -/
theorem wtz_float (hok : ordOk fls l = true) : ∀ (k : Nat) (rem : List Nat) (a : Act) (w : World) (i : Nat) (o : Oper), i ∈ rem → nthB fls i = true → freeI (masksFrom [] l) rem i = true → nthO l i = some o →
    WTz z P l R Q fls (k + 1) rem a w → ∃ v, YieldsR P l.toArray R o v a ∧ WTz z P l R Q fls k (rem.erase i) (a.put o.dst v) w
  | k, rem, a, w, i, o, hi, hfl, hfr, ho, h => by
    rcases h with ⟨j, oj, u, hj, hjf, hjr, hjo, hu, hr⟩ | ⟨hno, _⟩
    · by_cases hij : i = j
      · subst hij
        obtain rfl : o = oj := by rw [ho] at hjo; injection hjo
        exact ⟨u, hu, hr⟩
      · have hie := mem_erase_of hi hij
        have hje := mem_erase_of hj (Ne.symm hij)
        cases k with
        | zero => rw [hr.1] at hie; cases hie
        | succ k =>
          obtain ⟨v, hv, hr'⟩ := wtz_float hok k _ _ w i o hie hfl (freeI_erase j hfr) ho hr
          obtain ⟨ha, hs, hsj⟩ := ord_apart hok hi hj hij (by rw [hfl]; rfl) hfr hjr ho hjo
          obtain ⟨h1, h2, h3⟩ := Oper.apart_spec ha
          refine ⟨v, (YieldsR.put hs h1).1 hv, .inl ⟨j, oj, u, hje, hjf, freeI_erase i hjr, hjo, (YieldsR.put hsj h3).2 hu, ?_⟩⟩
          rw [← Act.put_comm a u v h2, List.erase_comm]
          exact hr'
    · rw [hno i hi hfl] at hfr; cases hfr
/-- what is no floater, free: ahead of floaters as well -/
theorem wtz_chain (hok : ordOk fls l = true) : ∀ (k : Nat) (rem : List Nat) (a : Act) (w : World) (i : Nat) (o : Oper), i ∈ rem → nthB fls i = false → freeI (masksFrom [] l) rem i = true → nthO l i = some o →
    WTz z P l R Q fls (k + 1) rem a w → wpList P l.toArray (FQ (fun w => i = z ∨ R w) (WTz z P l R Q fls k (rem.erase i))) [o] a w
  | k, rem, a, w, i, o, hi, hfl, hfr, ho, h => by
    rcases h with ⟨j, oj, u, hj, hjf, hjr, hjo, hu, hr⟩ | ⟨_, hall⟩
    · have hij : i ≠ j := fun e => by rw [e, hjf] at hfl; cases hfl
      have hie := mem_erase_of hi hij
      have hje := mem_erase_of hj (Ne.symm hij)
      cases k with
      | zero => rw [hr.1] at hie; cases hie
      | succ k =>
        have hc := wtz_chain hok k _ _ w i o hie hfl (freeI_erase j hfr) ho hr
        obtain ⟨ha, hs, hsj⟩ := ord_apart hok hi hj hij (by rw [hjf, Bool.or_true]) hfr hjr ho hjo
        obtain ⟨h1, h2, h3⟩ := Oper.apart_spec ha
        rw [one_iff, wanted_put o a oj.dst u h1] at hc
        rw [one_iff]
        by_cases hw : Region.wanted o (yielded l.toArray a.tmps) = true
        · rw [if_pos hw] at hc ⊢
          rw [wp_put hs h1 (fun e he => fun hd => h2 e hd he)] at hc
          refine Oper.wp_mono ?_ (wp_form hc)
          rintro a' w' ⟨⟨hR', hF'⟩, u', D', rfl⟩
          refine ⟨hR', .inl ⟨j, oj, u, hje, hjf, freeI_erase i hjr, hjo, (yields_dd hsj h3).2 hu, ?_⟩⟩
          rw [List.erase_comm]
          exact hF'
        · rw [if_neg hw] at hc ⊢
          refine ⟨hc.1, .inl ⟨j, oj, u, hje, hjf, freeI_erase i hjr, hjo, (YieldsR.put hsj h3).2 hu, ?_⟩⟩
          rw [← Act.put_comm a u undef h2, List.erase_comm]
          exact hc.2
    · obtain ⟨o', ho', h'⟩ := hall i hi hfr
      obtain rfl : o = o' := by rw [ho] at ho'; injection ho'
      exact h'
theorem wpAny_ordz (hok : ordOk fls l = true) (hz : lastOk z fls l = true) : ∀ (k : Nat) (listed : Array Bool) (rem : List Nat) (A : Act) (W : World), rem.length = k → LJ l listed → rem.Nodup → (∀ j ∈ rem, j < l.length) → (∀ j, j < l.length → (listed.getD j false = false ↔ j ∈ rem)) → (rem ≠ [] → R W) →
    WTz z P l R Q fls k rem A W → wpAny P .any l.toArray Q k listed A W := by
  have hback : edgesBack l = true := by
    simp only [ordOk, Bool.and_eq_true] at hok
    exact hok.1.1
  intro k
  induction k with
  | zero =>
    intro listed rem A W hl LJ_ _ _ hm _ h
    obtain rfl : rem = [] := List.eq_nil_of_length_eq_zero hl
    refine ⟨all_listed LJ_ fun k hk => ?_, h.2⟩
    cases hb : listed.getD k false with
    | true => rfl
    | false => exact absurd ((hm k hk).1 hb) (by simp)
  | succ k ih =>
    intro listed rem A W hl LJ_ hnd hlt hm hR h
    refine ⟨fun hr => ?_, fun i hi => ?_⟩
    · exfalso
      cases rem with
      | nil => cases hl
      | cons p rem =>
        have h1 := live_ hback LJ_.size hr p (hlt p (by simp))
        have h2 := (hm p (hlt p (by simp))).2 (by simp)
        rw [h1] at h2; cases h2
    · obtain ⟨o, ho, hilt, hnl, hpre⟩ := ready_mem hi
      have hnl' := getD_both' LJ_.size hilt hnl
      have hmk := ready_masks LJ_ ho hpre
      have hirem := (hm i hilt).1 hnl'
      have hfr : freeI (masksFrom [] l) rem i = true := by
        unfold freeI
        rw [List.all_eq_true]
        intro j hj
        cases hb : ((masksFrom [] l).getD i 0).testBit j with
        | false => rfl
        | true =>
          have h1 := hmk j hb
          rw [(hm j (hlt j hj)).2 hj] at h1
          cases h1
      have hno : nthO l i = some o := by rw [nthO_eq]; exact ho
      have hli : l.toArray[i]? = some o := by simpa using ho
      have L' := LJ_.step ho hpre
      have hnd' := hnd.erase i
      have hne : rem ≠ [] := fun e => by rw [e] at hirem; cases hirem
      have hnext : ∀ A' W', (i = z ∨ R W') → WTz z P l R Q fls k (rem.erase i) A' W' → wpAny P .any l.toArray Q k (listed.setIfInBounds i true) A' W' := fun A' W' hR' hF => by
        refine ih _ (rem.erase i) A' W' (by rw [List.length_erase_of_mem hirem]; omega) L' hnd' (fun j hj => hlt j (List.mem_of_mem_erase hj)) (fun j hj => ?_) (fun hnr => ?_) hF
        rotate_left
        · rcases hR' with e | hR'
          · subst e
            exfalso
            obtain ⟨j, hj⟩ := List.exists_mem_of_ne_nil _ hnr
            have hjr := List.mem_of_mem_erase hj
            have hji : j ≠ i := fun e => by subst e; exact absurd hj (by rw [hnd.mem_erase_iff]; simp)
            simp only [lastOk, Bool.and_eq_true] at hz
            have h1 := List.all_eq_true.1 hz.2 j (List.mem_range.2 (hlt j hjr))
            rw [beq_eq_false_iff_ne.2 hji, Bool.false_or, freeI_no hfr hjr] at h1
            cases h1
          · exact hR'
        by_cases hij : i = j
        · subst hij
          rw [getD_set_self _ _ (by rw [LJ_.size]; exact hilt)]
          constructor
          · intro h; cases h
          · intro h; exact absurd h (by rw [hnd.mem_erase_iff]; simp)
        · rw [Go.Proofs.Ytcpifcdndhhmgaa.getD_set_ne _ _ _ hij, hm j hj]
          exact ⟨fun h => mem_erase_of h (Ne.symm hij), fun h => List.mem_of_mem_erase h⟩
      cases hfi : nthB fls i with
      | true =>
        obtain ⟨v, hv, hF⟩ := wtz_float hok k rem A W i o hirem hfi hfr hno h
        exact op_float hli (hR hne) hv (hnext _ W (.inr (hR hne)) hF)
      | false => exact op_chain hli (wtz_chain hok k rem A W i o hirem hfi hfr hno h) hnext
end
/-! ### over what is known -/
theorem fqz_mono {P : Program} {ops : Array Oper} {R S : World → Prop} {N N' : Act → World → Prop} {o : Oper} {a : Act} {w : World} (h : ∀ a w, N a w → N' a w) (hh : wpList P ops (FQ R N) [o] a w) : wpList P ops (FQ (fun w => S w ∨ R w) N') [o] a w := by
  rw [one_iff] at hh ⊢
  split
  · rename_i hw; rw [if_pos hw] at hh; exact Oper.wp_mono (fun a w k => ⟨.inr k.1, h _ _ k.2⟩) hh
  · rename_i hw; rw [if_neg hw] at hh; exact ⟨.inr hh.1, h _ _ hh.2⟩
theorem fqz_last {P : Program} {ops : Array Oper} {R : World → Prop} {N N' : Act → World → Prop} {o : Oper} {a : Act} {w : World} (h : ∀ a w, N a w → N' a w) (hR : ∀ w, R w) (hh : wpList P ops (FQ (fun _ => True) N) [o] a w) : wpList P ops (FQ R N') [o] a w := by
  rw [one_iff] at hh ⊢
  split
  · rename_i hw; rw [if_pos hw] at hh; exact Oper.wp_mono (fun a w k => ⟨hR w, h _ _ k.2⟩) hh
  · rename_i hw; rw [if_neg hw] at hh; exact ⟨hR w, h _ _ hh.2⟩
structure KTz (z : Nat) (P : Program) (l : List Oper) (R : World → Prop) (Q : Exit → Act → World → Prop) (fls : List Bool) (rem : List Nat) (n : Nat) (L : Slots) (w : World) : Prop where
  h : ∀ a, Kn n L a → WTz z P l R Q fls rem.length rem a w
/-- what a stretch ends in: the walk over what is left -/
def QTz (z : Nat) (P : Program) (l : List Oper) (R : World → Prop) (Q : Exit → Act → World → Prop) (fls : List Bool) (rem : List Nat) : Exit → Act → World → Prop := QN (WTz z P l R Q fls rem.length rem)
section
variable {z : Nat} {P : Program} {l : List Oper} {R : World → Prop} {Q : Exit → Act → World → Prop} {fls : List Bool} {n : Nat} {L : Slots} {w : World} {rem : List Nat}
theorem kw_region_z {id : Nat} (R : World → Prop) (z : Nat) (fls : List Bool) (hm : P.follows .mixedOrders = true) (hok : ordOk fls l = true) (hz : lastOk z fls l = true) (hR : R w.drew) (h : KTz z P l R Q fls (List.range l.length) n L w.drew) : KW P (.region id l.toArray true) Q n L w := ⟨fun a k => by
  refine wp_region_any hm ?_
  have hs : l.toArray.size = l.length := by simp
  rw [hs]
  have hls : ∀ k, (Array.replicate l.length false).getD k false = false := fun k => by simp [Array.getElem?_replicate]; split <;> rfl
  have h' := h.h a k
  rw [List.length_range] at h'
  exact wpAny_ordz hok hz l.length _ (List.range l.length) a w.drew (by simp) ⟨by simp, fun i o _ h => by rw [hls] at h; cases h⟩ List.nodup_range (fun j hj => List.mem_range.1 hj) (fun j hj => ⟨fun _ => List.mem_range.2 hj, fun _ => hls j⟩) (fun _ => hR) h'⟩
theorem segz_wt : ∀ (idx rem rem' : List Nat) (a : Act) (w : World), segTo fls l rem idx = some rem' → wpF P l.toArray R (QTz z P l R Q fls rem') ((pickF fls idx).zip (pickO l idx)) a w → WTz z P l R Q fls rem.length rem a w
  | [], rem, rem', a, w, hs, h => by
    simp only [segTo, Option.some.injEq] at hs
    subst hs
    exact h
  | i :: r, rem, rem', a, w, hs, h => by
    simp only [segTo] at hs
    cases hc : (decide (i < l.length) && rem.contains i && freeI (masksFrom [] l) rem i && (nthB fls i || rem.all (fun j => j == i || !freeI (masksFrom [] l) rem j))) with
    | false => rw [hc] at hs; cases hs
    | true =>
      rw [hc, cond_true] at hs
      simp only [Bool.and_eq_true, decide_eq_true_eq, List.contains_iff_mem] at hc
      obtain ⟨⟨⟨hlt, hmem⟩, hfr⟩, hor⟩ := hc
      have ho := nthO_some hlt
      have hlen : rem.length = (rem.erase i).length + 1 := by
        have := List.length_erase_of_mem hmem
        have := List.length_pos_of_mem hmem
        omega
      simp only [pickF, pickO, ho, List.zip_cons_cons] at h
      rw [hlen]
      cases hfi : nthB fls i with
      | true =>
        rw [hfi] at h
        obtain ⟨v, hv, hr⟩ := h
        exact .inl ⟨i, _, v, hmem, hfi, hfr, ho, hv, segz_wt r _ rem' _ w hs hr⟩
      | false =>
        rw [hfi] at h hor
        simp only [Bool.false_or, List.all_eq_true, Bool.or_eq_true, beq_iff_eq, Bool.not_eq_true'] at hor
        refine .inr ⟨fun j hj hjf => ?_, fun j hj hjr => ?_⟩
        · rcases hor j hj with e | e
          · rw [e, hfi] at hjf; cases hjf
          · exact e
        · rcases hor j hj with e | e
          · subst e
            exact ⟨_, ho, fqz_mono (fun a' w' h' => segz_wt r _ rem' a' w' hs h') h⟩
          · rw [e] at hjr; cases hjr
/-- a stretch in which one order alone is left -/
theorem kz_seg (idx rem' : List Nat) (hs : segTo fls l rem idx = some rem') (h : KF P l.toArray R (QTz z P l R Q fls rem') (pickF fls idx) (pickO l idx) n L w) : KTz z P l R Q fls rem n L w := ⟨fun a k => segz_wt idx rem rem' a w hs (h.h a k)⟩
/-- a fork: each of these may come next -/
theorem kz_fork (cs : List Nat) (hf : forkTo fls l rem cs = true) (h : ∀ c ∈ cs, KF P l.toArray R (QTz z P l R Q fls (rem.erase c)) [false] (pickO l [c]) n L w) : KTz z P l R Q fls rem n L w := ⟨fun a k => by
  simp only [forkTo, Bool.and_eq_true, List.all_eq_true, Bool.not_eq_true', Bool.or_eq_true, decide_eq_true_eq, List.contains_iff_mem] at hf
  obtain ⟨⟨⟨h0, h1⟩, h2⟩, h3⟩ := hf
  cases hrem : rem with
  | nil =>
    rw [hrem] at h0
    simp at h0
  | cons r0 rs =>
    rw [← hrem]
    have hlen : ∀ i ∈ rem, (rem.erase i).length = rs.length := fun i hi => by rw [List.length_erase_of_mem hi, hrem]; simp
    rw [show rem.length = rs.length + 1 by rw [hrem]; rfl]
    refine .inr ⟨fun i hi hfi => ?_, fun i hi hfr => ?_⟩
    · have := h1 i hi
      rw [hfi, Bool.true_and] at this
      exact this
    · have hc : i ∈ cs := by
        rcases h2 i hi with e | e
        · rw [hfr] at e; cases e
        · exact e
      have ho := nthO_some (h3 i hc)
      have hk := (h i hc).h a k
      simp only [pickO, ho] at hk
      refine ⟨_, ho, ?_⟩
      rw [← hlen i hi]
      exact fqz_mono (fun a' w' h' => h') hk⟩
theorem kz_fork2 (c1 c2 : Nat) (hf : forkTo fls l rem [c1, c2] = true) (h1 : KF P l.toArray R (QTz z P l R Q fls (rem.erase c1)) [false] (pickO l [c1]) n L w) (h2 : KF P l.toArray R (QTz z P l R Q fls (rem.erase c2)) [false] (pickO l [c2]) n L w) : KTz z P l R Q fls rem n L w :=
  kz_fork [c1, c2] hf fun c hc => by
    rcases List.mem_cons.1 hc with rfl | hc
    · exact h1
    · rcases List.mem_cons.1 hc with rfl | hc
      · exact h2
      · cases hc
theorem kz_more (h : KTz z P l R Q fls rem n L w) : KQ (QTz z P l R Q fls rem) .normal n L w := ⟨fun a k => h.h a k⟩
/-- three may come next -/
theorem kz_fork3 (c1 c2 c3 : Nat) (hf : forkTo fls l rem [c1, c2, c3] = true) (h1 : KF P l.toArray R (QTz z P l R Q fls (rem.erase c1)) [false] (pickO l [c1]) n L w) (h2 : KF P l.toArray R (QTz z P l R Q fls (rem.erase c2)) [false] (pickO l [c2]) n L w) (h3 : KF P l.toArray R (QTz z P l R Q fls (rem.erase c3)) [false] (pickO l [c3]) n L w) : KTz z P l R Q fls rem n L w :=
  kz_fork [c1, c2, c3] hf fun c hc => by
    rcases List.mem_cons.1 hc with rfl | hc
    · exact h1
    · rcases List.mem_cons.1 hc with rfl | hc
      · exact h2
      · rcases List.mem_cons.1 hc with rfl | hc
        · exact h3
        · cases hc
/-- the last one -/
theorem kz_last {o : Oper} (hn : nthB fls z = false) (ho : nthO l z = some o) (h : KL P l.toArray (FQ (fun _ => True) (fun a w => Q .normal a w)) [o] n L w) : KTz z P l R Q fls [z] n L w := ⟨fun a k => by
  refine .inr ⟨fun i hi hfi => ?_, fun i hi _ => ?_⟩
  · rw [List.mem_singleton.1 hi, hn] at hfi; cases hfi
  · obtain rfl := List.mem_singleton.1 hi
    refine ⟨o, ho, fqz_last (fun a w hq => ?_) (fun w => .inl rfl) (h.h a k)⟩
    simp only [List.erase_cons_head, List.length_nil]
    exact ⟨rfl, hq⟩⟩
theorem kq_last (h : KQ Q .normal n L w) : KQ (FQ (fun _ => True) (fun a w => Q .normal a w)) .normal n L w := ⟨fun a k => ⟨rfl, trivial, h.h a k⟩⟩
end
end Go.Proofs.Ytcpifcdndhhmgaa
