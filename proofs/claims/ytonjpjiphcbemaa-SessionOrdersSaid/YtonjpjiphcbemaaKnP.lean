/- The sparse walk: a drawn region whose store may run ahead of one late read of a slot. No program in sight. -/
import Derived.Test.YtonjpjiphcbemaaKnR
namespace Go.Proofs.Ytonjpjiphcbemaa
open Go.RowKit
def seqJ (ops : Array Oper) : List Nat → Array Bool → Bool
  | [], listed => (Region.ready .any ops listed).isEmpty
  | j :: js, listed => decide (Region.ready .any ops listed = [j]) && seqJ ops js (listed.setIfInBounds j true)
theorem wpAny_of_seqJ {P : Program} {ops : Array Oper} {Q : Exit → Act → World → Prop} : ∀ (l : List Oper) (js : List Nat) (listed : Array Bool) (a : Act) (w : World), l.map some = js.map (ops[·]?) →
    seqJ ops js listed = true → wpList P ops Q l a w → wpAny P .any ops Q js.length listed a w
  | [], [], _, _, _, _, hB, h => ⟨by simpa [seqJ] using hB, h⟩
  | [], _ :: _, _, _, _, hl, _, _ => by simp at hl
  | _ :: _, [], _, _, _, hl, _, _ => by simp at hl
  | o :: l, j :: js, listed, a, w, hl, hB, h => by
    simp only [List.map_cons, List.cons.injEq] at hl
    have h0 : ops[j]? = some o := hl.1.symm
    simp only [seqJ, Bool.and_eq_true, decide_eq_true_eq] at hB
    refine ⟨fun h1 => (by rw [hB.1] at h1; cases h1), fun i hi => ?_⟩
    rw [hB.1] at hi
    have hik : i = j := by simpa using hi
    subst hik
    have hw : wpOp P ops Q i (wpList P ops Q l) a w := by unfold wpOp; simp only [h0]; exact h
    exact wpOp_mono (fun a' w' h' => wpAny_of_seqJ l js _ a' w' hl.2 hB.2 h') hw
theorem arr_ext {x y : Array Bool} (hs : x.size = y.size) (h : ∀ k, k < x.size → x.getD k false = y.getD k false) : x = y := by
  apply Array.ext hs
  intro k h1 h2
  have := h k h1
  simpa [h1, h2] using this
theorem rep_at (m n k : Nat) (hk : k < n) (hmn : m ≤ n) : (List.replicate m true ++ List.replicate (n - m) false).toArray.getD k false = decide (k < m) := by
  have hs : k < (List.replicate m true ++ List.replicate (n - m) false).toArray.size := by simp; omega
  rw [Array.getD_eq_getD_getElem?, Array.getElem?_eq_getElem hs, Option.getD_some]
  simp only [List.getElem_toArray]
  rcases Nat.lt_or_ge k m with h | h
  · rw [List.getElem_append_left (by simpa using h)]; simp [h]
  · rw [List.getElem_append_right (by simpa using h)]; simp; omega
theorem setD_at (x : Array Bool) (i k : Nat) (b : Bool) (hi : i < x.size) : (x.setIfInBounds i b).getD k false = if i = k then b else x.getD k false := by
  rw [Array.getD_eq_getD_getElem?, Array.getElem?_setIfInBounds, Array.getD_eq_getD_getElem?]
  split
  · rename_i e; simp [hi]
  · rfl
section
variable {P : Program} {ops : List Oper} {Q : Exit → Act → World → Prop} {a : Act} {S : Nat → World → Value → Prop} {R : World → Prop} {Step : World → World → Prop}
/-- the pivot m waits for all of the head but x; what is behind it waits for it -/
def pivotB (ops : List Oper) (m x : Nat) : Bool :=
  ((ops[m]?).map fun o => (List.range m).all fun j => j == x || bindsTo o j).getD false && (List.range ops.length).all fun i => decide (i ≤ m) || ((ops[i]?).map fun o => bindsTo o m).getD false
theorem wpAny_pivot {m x : Nat} {srcs : List (List (Nat × Option Nat))} {om ox : Oper} (hok : regionOk ops srcs a.tmps.size = true) (hback : edgesBack ops = true) (hm : ops[m]? = some om) (hx : ops[x]? = some ox) (hxm : x < m) (hpiv : pivotB ops m x = true)
    (hseq : Region.seqB .any ops.toArray (ops.drop m).length m (List.replicate m true ++ List.replicate (ops.length - m) false).toArray = true)
    (hseq2 : seqJ ops.toArray (x :: List.range' (m + 1) (ops.length - (m + 1))) (((List.replicate m true ++ List.replicate (ops.length - m) false).toArray.setIfInBounds x false).setIfInBounds m true) = true)
    (hstep : ∀ W W', R W → R W' → Step W W' → ∀ j v, S j W v → S j W' v)
    (vc : VCs P Q a S R Step ops 0 srcs (ops.take m))
    (fin : ∀ A W listed, RJ ops a S R listed A W → (∀ i, i < m → listed.getD i false = true) → (∀ i, m ≤ i → listed.getD i false = false) → wpList P ops.toArray Q (ops.drop m) A W)
    (fin2 : ∀ A W listed, RJ ops a S R listed A W → (∀ i, i < m → i ≠ x → listed.getD i false = true) → (∀ i, m ≤ i → listed.getD i false = false) → wpList P ops.toArray Q (om :: ox :: ops.drop (m + 1)) A W) :
    ∀ (fuel : Nat) (listed : Array Bool) (A : Act) (W : World), unlisted listed = fuel → RJ ops a S R listed A W → (∀ t, m ≤ t → t < ops.length → listed.getD t true = false) → wpAny P .any ops.toArray Q fuel listed A W := by
  intro fuel
  simp only [regionOk, Bool.and_eq_true] at hok
  obtain ⟨hap, hsrc⟩ := hok
  have hn : m < ops.length := (List.getElem?_eq_some_iff.1 hm).1
  simp only [pivotB, hm, Option.map_some, Option.getD_some, Bool.and_eq_true, List.all_eq_true, List.mem_range, Bool.or_eq_true, beq_iff_eq, decide_eq_true_eq] at hpiv
  obtain ⟨hp1, hp2⟩ := hpiv
  induction fuel with
  | zero =>
    intro listed A W hu J ht
    exfalso
    have hm : false ∉ listed.toList := List.count_eq_zero.1 hu
    have h1 := ht m (Nat.le_refl _) hn
    have hi' : m < listed.size := by rw [J.lsize]; exact hn
    simp [hi'] at h1
    exact hm (by rw [← h1]; simp)
  | succ fuel ih =>
    intro listed A W hu J ht
    have htl : ∀ i, m ≤ i → listed.getD i false = false := by
      intro i hi
      rcases Nat.lt_or_ge i ops.length with h | h
      · exact getD_both (ht i hi h)
      · simp [Array.getElem?_eq_none (show listed.size ≤ i by rw [J.lsize]; exact h)]
    by_cases hhead : ∀ i, i < m → listed.getD i false = true
    · have hlst : listed = (List.replicate m true ++ List.replicate (ops.length - m) false).toArray := by
        apply Array.ext
        · simp [J.lsize]; omega
        · intro k h1 h2
          rw [J.lsize] at h1
          rcases Nat.lt_or_ge k m with h | h
          · have := hhead k h
            simp [J.lsize, h1] at this
            simp [this, List.getElem_append_left, h]
          · have := htl k h
            simp [J.lsize, h1] at this
            rw [this]
            simp only [List.getElem_toArray]
            rw [List.getElem_append_right (by simpa using h)]
            simp
      have hfuel : fuel + 1 = (ops.drop m).length := by
        rw [← hu, hlst]
        simp [unlisted, List.count_replicate]
      have hw := fin A W listed J hhead htl
      rw [hfuel, hlst]
      exact wpAny_of_seq (ops.drop m) m _ A W (fun k => by simp) hseq hw
    · obtain ⟨i0, hi0⟩ := Classical.not_forall.1 hhead
      obtain ⟨hi0n, hi0f⟩ := Classical.not_imp.1 hi0
      refine ⟨fun hr => absurd (live_ hback J.lsize hr i0 (by omega)) hi0f, fun i hi => ?_⟩
      obtain ⟨o, ho, hlt, hnl, hpre⟩ := ready_mem hi
      by_cases hin : i < m
      · have hnl' : listed.getD i false = false := getD_both hnl
        have hv := VCs.get (ops.take m) 0 srcs vc i o (by rw [List.getElem?_take, if_pos hin]; exact ho)
        rw [Nat.zero_add] at hv
        have hs1 := List.all_eq_true.1 hsrc i (List.mem_range.2 hlt)
        rw [ho] at hs1
        simp only [Option.map_some, Option.getD_some] at hs1
        have hSrc := src_spec J ho hpre hnl' _ hs1
        have hnext : ∀ v W', R W' → Step W W' → S i W' v → wpAny P .any ops.toArray Q fuel (listed.setIfInBounds i true) (A.put o.dst v) W' := by
          intro v W' hR' hst hS
          have hu2 := unlisted_set listed i (by rw [J.lsize]; exact hlt) hnl
          exact ih _ _ _ (by omega) (rj_step J ho hpre hap hR' (hstep W W' J.world hR' hst) fun _ _ => hS) fun t h1 h2 => by
            rw [getD_set_ne _ _ _ (by omega)]; exact ht t h1 h2
        refine wpOp_step (o := o) (by simpa using ho) fun K' hK' => ?_
        exact hv A W K' J.def_ J.world hSrc fun v W' h1 h2 h3 => hK' _ _ (hnext v W' h1 h2 h3)
      · have him : i = m := by
          rcases Nat.lt_or_ge m i with h | h
          · exfalso
            rcases hp2 i hlt with h' | h'
            · omega
            · rw [ho] at h'
              have := hpre m h'
              rw [htl m (Nat.le_refl _)] at this
              cases this
          · omega
        subst him
        obtain rfl : o = om := by rw [hm] at ho; injection ho with ho; exact ho.symm
        have hall : ∀ j, j < i → j ≠ x → listed.getD j false = true := fun j hj hjx => by
          rcases hp1 j hj with h | h
          · exact absurd h hjx
          · exact hpre j h
        have hx0 : i0 = x := Classical.byContradiction fun h => hi0f (hall i0 hi0n h)
        subst hx0
        have hrs : (List.replicate i true ++ List.replicate (ops.length - i) false).toArray.size = ops.length := by simp; omega
        have hlst : listed = (List.replicate i true ++ List.replicate (ops.length - i) false).toArray.setIfInBounds i0 false := by
          refine arr_ext (by rw [Array.size_setIfInBounds, hrs, J.lsize]) fun k hk => ?_
          rw [J.lsize] at hk
          rw [setD_at _ _ _ _ (by rw [hrs]; omega), rep_at i _ k hk (by omega)]
          split
          · rename_i e; subst e; exact Bool.eq_false_iff.2 hi0f
          · rename_i e
            rcases Nat.lt_or_ge k i with h | h
            · rw [hall k h (Ne.symm e), decide_eq_true h]
            · rw [htl k h, decide_eq_false (by omega)]
        have hw := fin2 A W listed J hall htl
        have hw' : wpOp P ops.toArray Q i (wpList P ops.toArray Q (ox :: ops.drop (i + 1))) A W := by
          have h0 : ops.toArray[i]? = some o := by simpa using hm
          unfold wpOp; simp only [h0]; exact hw
        have hfuel : fuel = (i0 :: List.range' (i + 1) (ops.length - (i + 1))).length := by
          have h1 := unlisted_set listed i (by rw [J.lsize]; exact hn) hnl
          have h2 : unlisted listed = (ops.length - i) + 1 := by
            have h3 := unlisted_set listed i0 (by rw [J.lsize]; omega) (by
              have := Bool.eq_false_iff.2 hi0f
              have hs : i0 < listed.size := by rw [J.lsize]; omega
              rw [Array.getD_eq_getD_getElem?, Array.getElem?_eq_getElem hs, Option.getD_some] at this ⊢
              exact this)
            have h4 : listed.setIfInBounds i0 true = (List.replicate i true ++ List.replicate (ops.length - i) false).toArray := by
              rw [hlst]
              refine arr_ext (by simp) fun k hk => ?_
              rw [Array.size_setIfInBounds, Array.size_setIfInBounds, hrs] at hk
              rw [setD_at _ _ _ _ (by rw [Array.size_setIfInBounds, hrs]; omega), setD_at _ _ _ _ (by rw [hrs]; omega), rep_at i _ k hk (by omega)]
              split
              · rename_i e; subst e; rw [decide_eq_true hi0n]
              · rfl
            rw [h4] at h3
            rw [← h3]
            simp [unlisted, List.count_replicate]
          simp
          omega
        rw [hfuel]
        refine wpOp_mono (fun a' w' h' => ?_) hw'
        refine wpAny_of_seqJ (ox :: ops.drop (i + 1)) _ _ a' w' ?_ (by rw [hlst]; exact hseq2) h'
        simp only [List.map_cons]
        congr 1
        · simpa using hx.symm
        · apply List.ext_getElem?
          intro k
          simp only [List.getElem?_map, List.getElem?_drop, List.getElem?_range']
          by_cases hk : k < ops.length - (i + 1)
          · simp [hk, show i + 1 + k < ops.length by omega]
          · simp [hk, List.getElem?_eq_none (show ops.length ≤ i + 1 + k by omega)]
theorem ends_take {A : Act} {W : World} (n : Nat) (hn : n ≤ ops.length) (h : ∀ i o d, i < n → ops[i]? = some o → o.dst = some d → S i W (A.tmps.getD d undef)) : Ends S A W 0 (ops.take n) := by
  have key : ∀ (l : List Oper) (k : Nat), (∀ i, i < l.length → l[i]? = ops[k + i]?) → k + l.length ≤ n → Ends S A W k l := by
    intro l
    induction l with
    | nil => intro k _ _; trivial
    | cons o l ih =>
      intro k hk hkn
      simp only [List.length_cons] at hkn
      refine ⟨?_, ih (k + 1) (fun i hi => by have := hk (i + 1) (by simpa using hi); simpa [Nat.add_assoc, Nat.add_comm 1 i] using this) (by omega)⟩
      have h0 := hk 0 (by simp)
      simp at h0
      cases hd : o.dst with
      | none => trivial
      | some d =>
        have := h k o d (by omega) h0.symm hd
        rw [Array.getD_eq_getD_getElem?] at this
        exact this
  refine key (ops.take n) 0 (fun i hi => ?_) (by simp; omega)
  rw [Nat.zero_add, List.getElem?_take, if_pos (by simp at hi; omega)]
theorem wp_region_pivot {id : Nat} {w : World} (m x : Nat) (Ss : List (World → Value → Prop)) (srcs : List (List (Nat × Option Nat))) {om ox : Oper}
    (hm : P.follows .mixedOrders = true) (hok : regionOk ops srcs a.tmps.size = true) (hback : edgesBack ops = true) (hgm : ops[m]? = some om) (hgx : ops[x]? = some ox) (hxm : Nat.blt x m = true)
    (htail : (pivotB ops m x && Region.seqB .any ops.toArray (ops.drop m).length m (List.replicate m true ++ List.replicate (ops.length - m) false).toArray &&
      seqJ ops.toArray (x :: List.range' (m + 1) (ops.length - (m + 1))) (((List.replicate m true ++ List.replicate (ops.length - m) false).toArray.setIfInBounds x false).setIfInBounds m true)) = true)
    (mono : MonoAll Ss) (vc : VCs P Q a (SL Ss) (Below w.heap.size w) (fun W W' => Below W.heap.size W W') ops 0 srcs (ops.take m))
    (fin : ∀ A W, A.defers = a.defers → A.tmps.size = a.tmps.size → Below w.heap.size w W → Ends (SL Ss) A W 0 (ops.take m) → (∀ d, noDst (ops.take m) d = true → A.tmps.getD d undef = a.tmps.getD d undef) → wpList P ops.toArray Q (ops.drop m) A W)
    (fin2 : ∀ A W, A.defers = a.defers → A.tmps.size = a.tmps.size → Below w.heap.size w W → Ends (SL (Ss.set x (fun _ _ => True))) A W 0 (ops.take m) → (∀ d, noDst (ops.take m) d = true → A.tmps.getD d undef = a.tmps.getD d undef) → wpList P ops.toArray Q (om :: ox :: ops.drop (m + 1)) A W) :
    (Code.region id ops.toArray true).wp P Q a w := by
  simp only [Bool.and_eq_true] at htail
  obtain ⟨⟨h1, h2⟩, h3⟩ := htail
  have hn : m < ops.length := (List.getElem?_eq_some_iff.1 hgm).1
  have hrest : ∀ A W listed, RJ ops a (SL Ss) (Below w.heap.size w) listed A W → (∀ i, m ≤ i → listed.getD i false = false) → ∀ d, noDst (ops.take m) d = true → A.tmps.getD d undef = a.tmps.getD d undef := by
    intro A W listed J ht d hd
    refine J.rest d fun i o hi hl he => ?_
    have hin : i < m := by
      rcases Nat.lt_or_ge i m with h | h
      · exact h
      · rw [ht i h] at hl; cases hl
    have := List.all_eq_true.1 hd o (List.mem_of_getElem? (by rw [List.getElem?_take, if_pos hin]; exact hi))
    rw [he] at this
    simp at this
  refine wp_region_any hm (wpAny_pivot (m := m) (x := x) (S := SL Ss) (R := Below w.heap.size w) (Step := fun W W' => Below W.heap.size W W') hok hback hgm hgx (Nat.le_of_ble_eq_true hxm) h1 h2 h3 (fun W W' _ _ hst j v h => mono.get j W W' v hst h) vc (fun A W listed J hh ht => ?_) (fun A W listed J hh ht => ?_) _ _ _ _ ?_ ?_ ?_)
  · exact fin A W J.def_ J.size J.world (ends_take m (by omega) fun i o d hi ho hd => J.done i o d ho (hh i hi) hd) (hrest A W listed J ht)
  · refine fin2 A W J.def_ J.size J.world (ends_take m (by omega) fun i o d hi ho hd => ?_) (hrest A W listed J ht)
    by_cases hix : i = x
    · subst hix
      unfold SL
      rw [List.getD_eq_getElem?_getD, List.getElem?_set]
      rw [if_pos rfl]
      split <;> trivial
    · have := J.done i o d ho (hh i hi hix) hd
      unfold SL at this ⊢
      rw [List.getD_eq_getElem?_getD, List.getElem?_set, if_neg (Ne.symm hix), ← List.getD_eq_getElem?_getD]
      exact this
  · simp [unlisted, List.count_replicate]
  · exact ⟨rfl, rfl, (Below.refl _ _).drew, by simp, fun i o _ h => by simp [Array.getElem?_replicate] at h; split at h <;> simp at h, fun i o d _ h => by simp [Array.getElem?_replicate] at h; split at h <;> simp at h, fun d _ => rfl⟩
  · intro t _ ht
    have : t < ops.toArray.size := by simpa using ht
    simp [Array.getElem?_replicate, ht]
end
section
variable {P : Program} {ops : List Oper} {Q : Exit → Act → World → Prop} {n : Nat} {L : Slots} {w : World}
/-- the rule for the sparse walk: pivot m (a store), late x (a slot's part that is read ahead of it or behind it) -/
theorem kw_region_pivot {id : Nat} (m x : Nat) (Os : List (Option (World → Value → Prop))) (srcs : List (List (Nat × Option Nat))) (ts : List Nat) {om ox : Oper}
    (hm : P.follows .mixedOrders = true) (hok : regionOk ops srcs n = true) (hback : edgesBack ops = true) (hgm : ops[m]? = some om) (hgx : ops[x]? = some ox) (hxm : Nat.blt x m = true)
    (htail : (pivotB ops m x && Region.seqB .any ops.toArray (ops.drop m).length m (List.replicate m true ++ List.replicate (ops.length - m) false).toArray &&
      seqJ ops.toArray (x :: List.range' (m + 1) (ops.length - (m + 1))) (((List.replicate m true ++ List.replicate (ops.length - m) false).toArray.setIfInBounds x false).setIfInBounds m true)) = true)
    (hts : (ts.all fun t => noDst (ops.take m) t) = true) (mono : MonoO Os)
    (h : ExS Os fun Ss => VKs P ops L Ss w 0 srcs (ops.take m) ∧ (∀ a W, Kn n (nrm L ts) a → Below w.heap.size w W → Ends (SL Ss) a W 0 (ops.take m) → wpList P ops.toArray Q (ops.drop m) a W) ∧
      ∀ a W, Kn n (nrm L ts) a → Below w.heap.size w W → Ends (SL (Ss.set x (fun _ _ => True))) a W 0 (ops.take m) → wpList P ops.toArray Q (om :: ox :: ops.drop (m + 1)) a W) : KW P (.region id ops.toArray true) Q n L w := by
  obtain ⟨Ss, h1, h2, h3, h4⟩ := exs_get Os _ mono h
  exact ⟨fun a k => wp_region_pivot m x Ss srcs hm (by rw [k.size]; exact hok) hback hgm hgx hxm htail h1 (vcs_of_vks k _ _ _ h2)
    (fun A W hd hs hR he hr => h3 A W (kn_after (ops := ops.take m) k ts hts hd hs hr) hR he)
    (fun A W hd hs hR he hr => h4 A W (kn_after (ops := ops.take m) k ts hts hd hs hr) hR he)⟩
end
end Go.Proofs.Ytonjpjiphcbemaa
