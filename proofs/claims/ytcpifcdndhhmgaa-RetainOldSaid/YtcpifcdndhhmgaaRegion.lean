/- A region that draws its order: one rule, whatever the order: each operation is looked at once, against a frame of which only what it reads is known. No program in sight. -/
import Derived.Test.YtcpifcdndhhmgaaLib
import Derived.Orders
import Derived.RegionTactic
import Derived.StillTail
set_option linter.unusedVariables false
set_option linter.unusedSimpArgs false
namespace Go.Proofs.Ytcpifcdndhhmgaa
open Go.RowKit

/-- what is known of the slots that an operation reads: written by operation j of the region, or as the region found it -/
def Src (S : Nat → World → Value → Prop) (a A : Act) (W : World) : List (Nat × Option Nat) → Prop
  | [] => True
  | (t, none) :: r => A.tmps[t]?.getD undef = a.tmps.getD t undef ∧ Src S a A W r
  | (t, some j) :: r => S j W (A.tmps[t]?.getD undef) ∧ Src S a A W r

def bindsTo (o : Oper) (j : Nat) : Bool := o.after.any fun e => Region.binds .any e && e.on == j

def srcOk (ops : List Oper) (i : Nat) (o : Oper) (p : Nat × Option Nat) : Bool :=
  match p.2 with
  | some j => ((ops[j]?).map fun q => q.dst == some p.1).getD false && bindsTo o j
  | none => (List.range ops.length).all fun k => k == i || ((ops[k]?).map fun q => q.dst != some p.1 || bindsTo q i).getD true

def dstsApart (ops : List Oper) (n : Nat) : Bool :=
  (List.range ops.length).all fun i => ((ops[i]?).map fun o => match o.dst with
    | none => true
    | some d => decide (d < n) && (List.range ops.length).all fun k => k == i || ((ops[k]?).map fun q => q.dst != some d).getD true).getD true

def regionOk (ops : List Oper) (srcs : List (List (Nat × Option Nat))) (n : Nat) : Bool :=
  dstsApart ops n && (List.range ops.length).all fun i => ((ops[i]?).map fun o => (srcs.getD i []).all fun p => srcOk ops i o p).getD true

def VC1 (P : Program) (Q : Exit → Act → World → Prop) (a : Act) (S : Nat → World → Value → Prop) (R : World → Prop) (Step : World → World → Prop) (ops : List Oper) (src : List (Nat × Option Nat)) (i : Nat) (o : Oper) : Prop :=
  ∀ (A : Act) (W : World) (K : Act → World → Prop), A.defers = a.defers → R W → Src S a A W src → (∀ v W', R W' → Step W W' → S i W' v → K (A.put o.dst v) W') →
    if Region.wanted o (yielded ops.toArray A.tmps) = true then o.wp P A W K Q else K (A.put o.dst undef) W
def VCs (P : Program) (Q : Exit → Act → World → Prop) (a : Act) (S : Nat → World → Value → Prop) (R : World → Prop) (Step : World → World → Prop) (ops : List Oper) : Nat → List (List (Nat × Option Nat)) → List Oper → Prop
  | _, _, [] => True
  | i, srcs, o :: rest => VC1 P Q a S R Step ops (srcs.headD []) i o ∧ VCs P Q a S R Step ops (i + 1) srcs.tail rest

theorem VCs.get {P : Program} {Q : Exit → Act → World → Prop} {a : Act} {S : Nat → World → Value → Prop} {R : World → Prop} {Step : World → World → Prop} {ops : List Oper} (l : List Oper) :
    ∀ (k : Nat) (srcs : List (List (Nat × Option Nat))), VCs P Q a S R Step ops k srcs l → ∀ i o, l[i]? = some o → VC1 P Q a S R Step ops (srcs.getD i []) (k + i) o := by
  induction l with
  | nil => intro k srcs _ i o h; simp at h
  | cons x l ih =>
    intro k srcs h i o hi
    obtain ⟨h1, h2⟩ := h
    cases i with
    | zero =>
      simp at hi; subst hi
      cases srcs <;> exact h1
    | succ i =>
      have := ih (k + 1) srcs.tail h2 i o (by simpa using hi)
      rw [show k + (i + 1) = k + 1 + i by omega]
      cases srcs with
      | nil => simpa using this
      | cons s srcs => simpa using this

/-- the state of such a region on its way -/
structure RJ (ops : List Oper) (a : Act) (S : Nat → World → Value → Prop) (R : World → Prop) (listed : Array Bool) (A : Act) (W : World) : Prop where
  def_ : A.defers = a.defers
  size : A.tmps.size = a.tmps.size
  world : R W
  lsize : listed.size = ops.length
  closed : ∀ i o, ops[i]? = some o → listed.getD i false = true → ∀ j, bindsTo o j = true → listed.getD j false = true
  done : ∀ i o d, ops[i]? = some o → listed.getD i false = true → o.dst = some d → S i W (A.tmps.getD d undef)
  rest : ∀ d, (∀ i o, ops[i]? = some o → listed.getD i false = true → o.dst ≠ some d) → A.tmps.getD d undef = a.tmps.getD d undef

theorem getD_set_self (l : Array Bool) (i : Nat) (h : i < l.size) : (l.setIfInBounds i true).getD i false = true := by
  simp [h]
theorem getD_set_ne (l : Array Bool) (i j : Nat) (h : i ≠ j) (d : Bool) : (l.setIfInBounds i true).getD j d = l.getD j d := by
  simp [Array.getElem?_setIfInBounds_ne h]
theorem tmps_put_self (A : Act) (d : Nat) (v : Value) (h : d < A.tmps.size) : (A.put (some d) v).tmps.getD d undef = v := by
  simp [Act.put, h]
theorem tmps_put_ne (A : Act) (d e : Nat) (v : Value) (h : d ≠ e) : (A.put (some d) v).tmps.getD e undef = A.tmps.getD e undef := by
  simp [Act.put, Array.getElem?_setIfInBounds_ne h]

section
variable {P : Program} {ops : List Oper} {Q : Exit → Act → World → Prop} {a : Act} {S : Nat → World → Value → Prop} {R : World → Prop} {Step : World → World → Prop}

theorem dsts_spec {n : Nat} (h : dstsApart ops n = true) {i : Nat} {o : Oper} {d : Nat} (hi : ops[i]? = some o) (hd : o.dst = some d) :
    d < n ∧ ∀ k q, ops[k]? = some q → k ≠ i → q.dst ≠ some d := by
  have hlt : i < ops.length := (List.getElem?_eq_some_iff.1 hi).1
  have h1 := List.all_eq_true.1 h i (List.mem_range.2 hlt)
  rw [hi] at h1
  simp only [Option.map_some, Option.getD_some, hd, Bool.and_eq_true, decide_eq_true_eq] at h1
  refine ⟨h1.1, fun k q hk hne => ?_⟩
  have hkl : k < ops.length := (List.getElem?_eq_some_iff.1 hk).1
  have h2 := List.all_eq_true.1 h1.2 k (List.mem_range.2 hkl)
  rw [hk] at h2
  simp only [Option.map_some, Option.getD_some, Bool.or_eq_true, beq_iff_eq, bne_iff_ne] at h2
  exact h2.resolve_left hne

theorem src_spec {listed : Array Bool} {A : Act} {W : World} (J : RJ ops a S R listed A W) {i : Nat} {o : Oper} (hi : ops[i]? = some o) (hpre : ∀ j, bindsTo o j = true → listed.getD j false = true) (hnl : listed.getD i false = false) :
    ∀ src : List (Nat × Option Nat), (src.all fun p => srcOk ops i o p) = true → Src S a A W src := by
  intro src
  induction src with
  | nil => intro _; trivial
  | cons p r ih =>
    intro h
    simp only [List.all_cons, Bool.and_eq_true] at h
    obtain ⟨t, s⟩ := p
    cases s with
    | none =>
      refine ⟨(Array.getD_eq_getD_getElem? ..).symm.trans (J.rest t fun k q hk hl hd => ?_), ih h.2⟩
      have h1 := h.1
      simp only [srcOk] at h1
      have hkl : k < ops.length := (List.getElem?_eq_some_iff.1 hk).1
      have h2 := List.all_eq_true.1 h1 k (List.mem_range.2 hkl)
      rw [hk] at h2
      simp only [Option.map_some, Option.getD_some, Bool.or_eq_true, beq_iff_eq, bne_iff_ne] at h2
      rcases h2 with h2 | h2 | h2
      · subst h2; rw [hl] at hnl; cases hnl
      · exact h2 hd
      · have := J.closed k q hk hl i h2
        rw [this] at hnl; cases hnl
    | some j =>
      have h1 := h.1
      simp only [srcOk, Bool.and_eq_true] at h1
      refine ⟨?_, ih h.2⟩
      cases hj : ops[j]? with
      | none => rw [hj] at h1; simp at h1
      | some q =>
        rw [hj] at h1
        simp only [Option.map_some, Option.getD_some, beq_iff_eq] at h1
        rw [← Array.getD_eq_getD_getElem?]
        exact J.done j q t hj (hpre j h1.2) h1.1

theorem rj_step {listed : Array Bool} {A : Act} {W : World} (J : RJ ops a S R listed A W) {i : Nat} {o : Oper} (hi : ops[i]? = some o) (hpre : ∀ j, bindsTo o j = true → listed.getD j false = true)
    (hap : dstsApart ops a.tmps.size = true) {v : Value} {W' : World} (hR : R W') (hmono : ∀ j v, S j W v → S j W' v) (hS : ∀ d, o.dst = some d → S i W' v) :
    RJ ops a S R (listed.setIfInBounds i true) (A.put o.dst v) W' := by
  have hlt : i < ops.length := (List.getElem?_eq_some_iff.1 hi).1
  refine ⟨?_, ?_, hR, by simp [J.lsize], ?_, ?_, ?_⟩
  · cases o.dst <;> exact J.def_
  · cases hd : o.dst <;> simp [Act.put, J.size]
  · intro k q hk hl j hb
    by_cases hki : k = i
    · subst hki
      rw [hi] at hk; injection hk with hk; subst hk
      have := hpre j hb
      by_cases hji : k = j
      · subst hji; rw [getD_set_self _ _ (by rw [J.lsize]; exact hlt)]
      · rw [getD_set_ne _ _ _ hji]; exact this
    · rw [getD_set_ne _ _ _ (Ne.symm hki)] at hl
      have := J.closed k q hk hl j hb
      by_cases hji : i = j
      · subst hji; rw [getD_set_self _ _ (by rw [J.lsize]; exact hlt)]
      · rw [getD_set_ne _ _ _ hji]; exact this
  · intro k q d hk hl hd
    by_cases hki : k = i
    · subst hki
      rw [hi] at hk; injection hk with hk; subst hk
      obtain ⟨hdn, _⟩ := dsts_spec hap hi hd
      rw [hd, tmps_put_self _ _ _ (by rw [J.size]; exact hdn)]
      exact hS d hd
    · rw [getD_set_ne _ _ _ (Ne.symm hki)] at hl
      have h0 := J.done k q d hk hl hd
      cases ho : o.dst with
      | none => exact hmono k _ h0
      | some e =>
        have hne : e ≠ d := fun he => by
          subst he
          exact (dsts_spec hap hi ho).2 k q hk hki hd
        rw [tmps_put_ne _ _ _ _ hne]
        exact hmono k _ h0
  · intro d hd
    have h0 := J.rest d fun k q hk hl => by
      by_cases hki : k = i
      · subst hki
        exact hd k q hk (by rw [getD_set_self _ _ (by rw [J.lsize]; exact hlt)])
      · exact hd k q hk (by rw [getD_set_ne _ _ _ (Ne.symm hki)]; exact hl)
    cases ho : o.dst with
    | none => exact h0
    | some e =>
      have hne : e ≠ d := fun he => by
        subst he
        exact hd i o hi (by rw [getD_set_self _ _ (by rw [J.lsize]; exact hlt)]) ho
      rw [tmps_put_ne _ _ _ _ hne]
      exact h0

def unlisted (listed : Array Bool) : Nat := listed.toList.count false

theorem unlisted_set (listed : Array Bool) (i : Nat) (h : i < listed.size) (hf : listed.getD i true = false) : unlisted (listed.setIfInBounds i true) + 1 = unlisted listed := by
  obtain ⟨l⟩ := listed
  simp only [unlisted, List.setIfInBounds_toArray]
  simp at h
  have hf' : l[i]? = some false := by
    simp [h] at hf
    simp [h, hf]
  clear hf
  induction l generalizing i with
  | nil => simp at h
  | cons x l ih =>
    cases i with
    | zero => simp at hf'; subst hf'; simp [List.count_cons]
    | succ i =>
      have := ih i (by simpa using h) (by simpa using hf')
      simp [List.count_cons] at this ⊢
      omega

theorem ready_mem {listed : Array Bool} {i : Nat} (hi : i ∈ Region.ready .any ops.toArray listed) :
    ∃ o, ops[i]? = some o ∧ i < ops.length ∧ listed.getD i true = false ∧ ∀ j, bindsTo o j = true → listed.getD j false = true := by
  simp only [Region.ready, List.mem_filter, List.mem_range, Bool.and_eq_true, Bool.not_eq_true'] at hi
  obtain ⟨h1, h2, h3⟩ := hi
  simp at h1
  have ho : ops[i]? = some ops[i] := List.getElem?_eq_getElem h1
  refine ⟨ops[i], ho, h1, h2, fun j hj => ?_⟩
  rw [List.getElem?_toArray, ho] at h3
  simp only [Option.map_some, Option.getD_some] at h3
  simp only [bindsTo, Array.any_eq_true] at hj
  obtain ⟨k, hk, hb⟩ := hj
  simp only [Bool.and_eq_true, beq_iff_eq] at hb
  have := Array.all_eq_true.1 h3 k hk
  simp only [Bool.or_eq_true, Bool.not_eq_true'] at this
  rcases this with h | h
  · rw [hb.1] at h; cases h
  · rw [← hb.2]; exact h

def edgesBack (ops : List Oper) : Bool :=
  (List.range ops.length).all fun i => ((ops[i]?).map fun o => o.after.all fun e => decide (e.on < i) || !Region.binds .any e).getD true

theorem live_ {listed : Array Bool} (hb : edgesBack ops = true) (hs : listed.size = ops.length) (hr : Region.ready .any ops.toArray listed = []) : ∀ i, i < ops.length → listed.getD i false = true := by
  intro i
  induction i using Nat.strongRecOn with
  | _ i ih =>
    intro hi
    cases hl : listed.getD i false with
    | true => rfl
    | false =>
      exfalso
      have hi' : i < listed.size := by rw [hs]; exact hi
      have hlt : listed.getD i true = false := by
        simp [hi'] at hl ⊢
        exact hl
      have ho : ops[i]? = some ops[i] := List.getElem?_eq_getElem hi
      have hback := List.all_eq_true.1 hb i (List.mem_range.2 hi)
      rw [ho] at hback
      simp only [Option.map_some, Option.getD_some] at hback
      have hin : i ∈ Region.ready .any ops.toArray listed := by
        simp only [Region.ready, List.mem_filter, List.mem_range, Bool.and_eq_true, Bool.not_eq_true']
        refine ⟨by simpa using hi, hlt, ?_⟩
        rw [List.getElem?_toArray, ho]
        simp only [Option.map_some, Option.getD_some]
        apply Array.all_eq_true.2
        intro k hk
        have h1 := Array.all_eq_true.1 hback k hk
        simp only [Bool.or_eq_true, decide_eq_true_eq, Bool.not_eq_true'] at h1
        rcases h1 with h2 | h2
        · rw [ih _ h2 (by omega)]
          simp
        · rw [h2]
          simp
      rw [hr] at hin
      cases hin

theorem wpAny_inv {srcs : List (List (Nat × Option Nat))} (hok : regionOk ops srcs a.tmps.size = true) (hback : edgesBack ops = true)
    (hstep : ∀ W W', R W → R W' → Step W W' → ∀ j v, S j W v → S j W' v)
    (vc : VCs P Q a S R Step ops 0 srcs ops)
    (fin : ∀ A W listed, RJ ops a S R listed A W → (∀ i, i < ops.length → listed.getD i false = true) → Q .normal A W) :
    ∀ (fuel : Nat) (listed : Array Bool) (A : Act) (W : World), unlisted listed ≤ fuel → RJ ops a S R listed A W → wpAny P .any ops.toArray Q fuel listed A W := by
  intro fuel
  simp only [regionOk, Bool.and_eq_true] at hok
  obtain ⟨hap, hsrc⟩ := hok
  induction fuel with
  | zero =>
    intro listed A W hu J
    have hall : ∀ i, i < ops.length → listed.getD i false = true := by
      intro i hi
      have h0 : unlisted listed = 0 := by omega
      have hm : false ∉ listed.toList := List.count_eq_zero.1 h0
      have hi' : i < listed.size := by rw [J.lsize]; exact hi
      simp only [Array.getD, hi', dite_true]
      cases hb : listed[i] with
      | true => simp [hb]
      | false => exact absurd (by rw [← hb]; simp) hm
    refine ⟨?_, fin A W listed J hall⟩
    apply List.filter_eq_nil_iff.2
    intro i hi
    simp at hi
    have := hall i hi
    have h2 : listed.getD i true = true := by
      have hi' : i < listed.size := by rw [J.lsize]; exact hi
      simp [hi'] at this ⊢
      exact this
    simp [h2]
  | succ fuel ih =>
    intro listed A W hu J
    refine ⟨fun hr => fin A W listed J (live_ hback J.lsize hr), fun i hi => ?_⟩
    obtain ⟨o, ho, hlt, hnl, hpre⟩ := ready_mem hi
    have hnl' : listed.getD i false = false := by
      have hi' : i < listed.size := by rw [J.lsize]; exact hlt
      simp [hi'] at hnl ⊢
      exact hnl
    have hv := VCs.get ops 0 srcs vc i o ho
    rw [Nat.zero_add] at hv
    have hs1 := List.all_eq_true.1 hsrc i (List.mem_range.2 hlt)
    rw [ho] at hs1
    simp only [Option.map_some, Option.getD_some] at hs1
    have hSrc := src_spec J ho hpre hnl' _ hs1
    have hnext : ∀ v W', R W' → Step W W' → S i W' v → wpAny P .any ops.toArray Q fuel (listed.setIfInBounds i true) (A.put o.dst v) W' := by
      intro v W' hR' hst hS
      refine ih _ _ _ ?_ (rj_step J ho hpre hap hR' (hstep W W' J.world hR' hst) fun _ _ => hS)
      have := unlisted_set listed i (by rw [J.lsize]; exact hlt) hnl
      omega
    refine wpOp_step (o := o) (by simpa using ho) fun K' hK' => ?_
    exact hv A W K' J.def_ J.world hSrc fun v W' h1 h2 h3 => hK' _ _ (hnext v W' h1 h2 h3)

/-- what is known of the slots behind the region -/
def Ends (S : Nat → World → Value → Prop) (A : Act) (W : World) : Nat → List Oper → Prop
  | _, [] => True
  | i, o :: r => (match o.dst with | some d => S i W (A.tmps[d]?.getD undef) | none => True) ∧ Ends S A W (i + 1) r
theorem ends_of {listed : Array Bool} {A : Act} {W : World} (h : ∀ i o d, ops[i]? = some o → o.dst = some d → S i W (A.tmps.getD d undef)) :
    ∀ (l : List Oper) (k : Nat), (∀ i, l[i]? = ops[k + i]?) → Ends S A W k l := by
  intro l
  induction l with
  | nil => intro k _; trivial
  | cons o l ih =>
    intro k hk
    refine ⟨?_, ih (k + 1) fun i => by have := hk (i + 1); simpa [Nat.add_assoc, Nat.add_comm 1 i] using this⟩
    have h0 := hk 0
    simp at h0
    cases hd : o.dst with
    | none => trivial
    | some d =>
      have := h k o d h0.symm hd
      rw [Array.getD_eq_getD_getElem?] at this
      exact this
def noDst (ops : List Oper) (d : Nat) : Bool := ops.all fun o => o.dst != some d

theorem wp_region_inv {id : Nat} {w : World} (S : Nat → World → Value → Prop) (R : World → Prop) (Step : World → World → Prop) (srcs : List (List (Nat × Option Nat)))
    (hm : P.follows .mixedOrders = true) (hok : regionOk ops srcs a.tmps.size = true) (hback : edgesBack ops = true) (hR : R w.drew)
    (hstep : ∀ W W', R W → R W' → Step W W' → ∀ j v, S j W v → S j W' v)
    (vc : VCs P Q a S R Step ops 0 srcs ops)
    (fin : ∀ A W, A.defers = a.defers → A.tmps.size = a.tmps.size → R W → Ends S A W 0 ops → (∀ d, noDst ops d = true → A.tmps.getD d undef = a.tmps.getD d undef) → Q .normal A W) :
    (Code.region id ops.toArray true).wp P Q a w := by
  refine wp_region_any hm (wpAny_inv hok hback hstep vc (fun A W listed J hall => ?_) _ _ _ _ ?_ ?_)
  · refine fin A W J.def_ J.size J.world (ends_of (listed := listed) (fun i o d hi hd => J.done i o d hi (hall i (List.getElem?_eq_some_iff.1 hi).1) hd) ops 0 (fun i => by rw [Nat.zero_add])) fun d hd => ?_
    refine J.rest d fun i o hi _ he => ?_
    have := List.all_eq_true.1 hd o (List.mem_of_getElem? hi)
    rw [he] at this
    simp at this
  · simp [unlisted, List.count_replicate]
  · exact ⟨rfl, rfl, hR, by simp, fun i o _ h => by simp [Array.getElem?_replicate] at h; split at h <;> simp at h, fun i o d _ h => by simp [Array.getElem?_replicate] at h; split at h <;> simp at h, fun d _ => rfl⟩

/-! ### the same, with a tail in one forced order (a store that all else waits for) -/
theorem wpAny_inv_tail {n : Nat} {srcs : List (List (Nat × Option Nat))} (hok : regionOk ops srcs a.tmps.size = true) (hback : edgesBack ops = true)
    (hn : n < ops.length) (hsink : Region.sinkB .any ops.toArray n = true) (hchain : Region.chainB .any ops.toArray n = true)
    (hseq : Region.seqB .any ops.toArray (ops.drop n).length n (List.replicate n true ++ List.replicate (ops.length - n) false).toArray = true)
    (hstep : ∀ W W', R W → R W' → Step W W' → ∀ j v, S j W v → S j W' v)
    (vc : VCs P Q a S R Step ops 0 srcs (ops.take n))
    (fin : ∀ A W listed, RJ ops a S R listed A W → (∀ i, i < n → listed.getD i false = true) → (∀ i, n ≤ i → listed.getD i false = false) → wpList P ops.toArray Q (ops.drop n) A W) :
    ∀ (fuel : Nat) (listed : Array Bool) (A : Act) (W : World), unlisted listed = fuel → RJ ops a S R listed A W → (∀ t, n ≤ t → t < ops.length → listed.getD t true = false) → wpAny P .any ops.toArray Q fuel listed A W := by
  intro fuel
  simp only [regionOk, Bool.and_eq_true] at hok
  obtain ⟨hap, hsrc⟩ := hok
  induction fuel with
  | zero =>
    intro listed A W hu J ht
    exfalso
    have hm : false ∉ listed.toList := List.count_eq_zero.1 hu
    have h1 := ht n (Nat.le_refl _) hn
    have hi' : n < listed.size := by rw [J.lsize]; exact hn
    simp [hi'] at h1
    exact hm (by rw [← h1]; simp)
  | succ fuel ih =>
    intro listed A W hu J ht
    by_cases hhead : ∀ i, i < n → listed.getD i false = true
    · have htl : ∀ i, n ≤ i → listed.getD i false = false := by
        intro i hi
        rcases Nat.lt_or_ge i ops.length with h | h
        · exact getD_both (ht i hi h)
        · simp [Array.getElem?_eq_none (show listed.size ≤ i by rw [J.lsize]; exact h)]
      have hlst : listed = (List.replicate n true ++ List.replicate (ops.length - n) false).toArray := by
        apply Array.ext
        · simp [J.lsize]; omega
        · intro k h1 h2
          rw [J.lsize] at h1
          rcases Nat.lt_or_ge k n with h | h
          · have := hhead k h
            simp [J.lsize, h1] at this
            simp [this, List.getElem_append_left, h]
          · have := htl k h
            simp [J.lsize, h1] at this
            rw [this]
            simp only [List.getElem_toArray]
            rw [List.getElem_append_right (by simpa using h)]
            simp
      have hfuel : fuel + 1 = (ops.drop n).length := by
        rw [← hu, hlst]
        simp [unlisted, List.count_replicate]
      have hw := fin A W listed J hhead htl
      rw [hfuel]
      rw [hlst]
      exact wpAny_of_seq (ops.drop n) n _ A W (fun k => by simp) hseq hw
    · obtain ⟨i0, hi0⟩ := Classical.not_forall.1 hhead
      obtain ⟨hi0n, hi0f⟩ := Classical.not_imp.1 hi0
      have hi0u : listed.getD i0 true = false := by
        have hi' : i0 < listed.size := by rw [J.lsize]; omega
        simp [hi'] at hi0f ⊢
        exact hi0f
      have hinv : HeadInv .any ops.toArray n listed := ⟨by simpa using J.lsize, fun j oj hj hl e he hb => by
          refine J.closed j oj (by simpa using hj) hl e.on ?_
          simp only [bindsTo, Array.any_eq_true']
          exact ⟨e, he, by simp [hb]⟩, fun t h1 h2 => ht t h1 (by simpa using h2)⟩
      have hwait := tail_waits hsink hchain (by simpa using hn) hinv _ i0 rfl hi0n hi0u
      refine ⟨fun hr => absurd (live_ hback J.lsize hr i0 (by omega)) hi0f, fun i hi => ?_⟩
      have hin : i < n := by
        rcases Nat.lt_or_ge i n with h | h
        · exact h
        · exact absurd hi (hwait i h)
      obtain ⟨o, ho, hlt, hnl, hpre⟩ := ready_mem hi
      have hnl' : listed.getD i false = false := getD_both hnl
      have hv := VCs.get (ops.take n) 0 srcs vc i o (by rw [List.getElem?_take, if_pos hin]; exact ho)
      rw [Nat.zero_add] at hv
      have hs1 := List.all_eq_true.1 hsrc i (List.mem_range.2 hlt)
      rw [ho] at hs1
      simp only [Option.map_some, Option.getD_some] at hs1
      have hSrc := src_spec J ho hpre hnl' _ hs1
      have hnext : ∀ v W', R W' → Step W W' → S i W' v → wpAny P .any ops.toArray Q fuel (listed.setIfInBounds i true) (A.put o.dst v) W' := by
        intro v W' hR' hst hS
        have hu2 := unlisted_set listed i (by rw [J.lsize]; exact hlt) hnl
        exact ih _ _ _ (by omega) (rj_step J ho hpre hap hR' (hstep W W' J.world hR' hst) fun _ _ => hS) fun t h1 h2 => by
          rw [getD_set_ne _ _ _ (by omega)]; exact ht t h1 h2
      refine wpOp_step (o := o) (by simpa using ho) fun K' hK' => ?_
      exact hv A W K' J.def_ J.world hSrc fun v W' h1 h2 h3 => hK' _ _ (hnext v W' h1 h2 h3)

theorem wp_region_inv_tail {id : Nat} {w : World} (n : Nat) (S : Nat → World → Value → Prop) (R : World → Prop) (Step : World → World → Prop) (srcs : List (List (Nat × Option Nat)))
    (hm : P.follows .mixedOrders = true) (hok : regionOk ops srcs a.tmps.size = true) (hback : edgesBack ops = true)
    (htail : (decide (n < ops.length) && Region.sinkB .any ops.toArray n && Region.chainB .any ops.toArray n &&
      Region.seqB .any ops.toArray (ops.drop n).length n (List.replicate n true ++ List.replicate (ops.length - n) false).toArray) = true) (hR : R w.drew)
    (hstep : ∀ W W', R W → R W' → Step W W' → ∀ j v, S j W v → S j W' v)
    (vc : VCs P Q a S R Step ops 0 srcs (ops.take n))
    (fin : ∀ A W, A.defers = a.defers → A.tmps.size = a.tmps.size → R W → Ends S A W 0 (ops.take n) → (∀ d, noDst (ops.take n) d = true → A.tmps.getD d undef = a.tmps.getD d undef) → wpList P ops.toArray Q (ops.drop n) A W) :
    (Code.region id ops.toArray true).wp P Q a w := by
  simp only [Bool.and_eq_true, decide_eq_true_eq] at htail
  obtain ⟨⟨⟨h1, h2⟩, h3⟩, h4⟩ := htail
  refine wp_region_any hm (wpAny_inv_tail (n := n) hok hback h1 h2 h3 h4 hstep vc (fun A W listed J hh ht => ?_) _ _ _ _ ?_ ?_ ?_)
  · have hget : ∀ i, i < n → (ops.take n)[i]? = ops[i]? := fun i hi => by rw [List.getElem?_take, if_pos hi]
    refine fin A W J.def_ J.size J.world ?_ fun d hd => ?_
    · have key : ∀ (l : List Oper) (k : Nat), (∀ i, i < l.length → l[i]? = ops[k + i]?) → k + l.length ≤ n → Ends S A W k l := by
        intro l
        induction l with
        | nil => intro k _ _; trivial
        | cons o l ih =>
          intro k hk hkn
          simp only [List.length_cons] at hkn
          refine ⟨?_, ih (k + 1) (fun i hi => by have := hk (i + 1) (by simpa using hi); simpa [Nat.add_assoc, Nat.add_comm 1 i] using this) (by omega)⟩
          have h0 := hk 0 (by simp)
          simp at h0
          cases hd : o.dst with
          | none => trivial
          | some d =>
            have := J.done k o d h0.symm (hh k (by omega)) hd
            rw [Array.getD_eq_getD_getElem?] at this
            exact this
      refine key (ops.take n) 0 (fun i hi => ?_) (by simp; omega)
      rw [Nat.zero_add]
      exact hget i (by simp at hi; omega)
    · refine J.rest d fun i o hi hl he => ?_
      have hin : i < n := by
        rcases Nat.lt_or_ge i n with h | h
        · exact h
        · rw [ht i h] at hl; cases hl
      have := List.all_eq_true.1 hd o (List.mem_of_getElem? ((hget i hin).trans hi))
      rw [he] at this
      simp at this
  · simp [unlisted, List.count_replicate]
  · exact ⟨rfl, rfl, hR, by simp, fun i o _ h => by simp [Array.getElem?_replicate] at h; split at h <;> simp at h, fun i o d _ h => by simp [Array.getElem?_replicate] at h; split at h <;> simp at h, fun d _ => rfl⟩
  · intro t _ ht
    have : t < ops.toArray.size := by simpa using ht
    simp [Array.getElem?_replicate, ht]

/-- the frame behind a region, written out but for what the region wrote -/
def frameAfter (ds : List Nat) (g : Nat → Value) : Nat → List Value → List Value
  | _, [] => []
  | d, v :: r => (if ds.contains d then g d else v) :: frameAfter ds g (d + 1) r
theorem frameAfter_get (ds : List Nat) (g : Nat → Value) : ∀ (l : List Value) (k i : Nat), i < l.length → (frameAfter ds g k l)[i]? = if ds.contains (k + i) then some (g (k + i)) else l[i]? := by
  intro l
  induction l with
  | nil => intro k i h; simp at h
  | cons v l ih =>
    intro k i h
    cases i with
    | zero => simp only [frameAfter, List.getElem?_cons_zero, Nat.add_zero]; split <;> rfl
    | succ i =>
      simp only [frameAfter, List.getElem?_cons_succ]
      rw [ih (k + 1) i (by simpa using h), show k + 1 + i = k + (i + 1) by omega]
theorem frameAfter_length (ds : List Nat) (g : Nat → Value) : ∀ (l : List Value) (k : Nat), (frameAfter ds g k l).length = l.length := by
  intro l
  induction l with
  | nil => intro k; rfl
  | cons v l ih => intro k; simp [frameAfter, ih]
theorem act_after {A : Act} {hops : List Oper} (ds : List Nat) (hds : hops.filterMap (·.dst) = ds) (hd : A.defers = a.defers) (hs : A.tmps.size = a.tmps.size)
    (hr : ∀ d, noDst hops d = true → A.tmps.getD d undef = a.tmps.getD d undef) : A = ⟨(frameAfter ds (fun d => A.tmps[d]?.getD undef) 0 a.tmps.toList).toArray, a.defers⟩ := by
  obtain ⟨t, df⟩ := A
  dsimp only at hd hs hr ⊢
  subst hd
  congr 1
  apply Array.ext'
  apply List.ext_getElem?
  intro i
  simp only [List.toList_toArray]
  rcases Nat.lt_or_ge i a.tmps.size with h | h
  · rw [frameAfter_get _ _ _ _ _ (by simpa using h), Nat.zero_add]
    have hti : t.toList[i]? = some (t[i]?.getD undef) := by
      simp [hs, h]
    split
    · rw [hti]
    · rename_i hc
      have hno : noDst hops i = true := by
        apply List.all_eq_true.2
        intro o ho
        rw [bne_iff_ne]
        intro he
        apply hc
        subst hds
        simp only [List.contains_iff_mem, List.mem_filterMap]
        exact ⟨o, ho, he⟩
      have := hr i hno
      rw [Array.getD_eq_getD_getElem?, Array.getD_eq_getD_getElem?] at this
      rw [hti, this]
      simp [h]
  · rw [List.getElem?_eq_none (by simpa [hs] using h), List.getElem?_eq_none (by rw [frameAfter_length]; simpa using h)]
end

/-! ### a region that writes nothing old: it makes memory, calls, reads -/
def SL (Ss : List (World → Value → Prop)) (i : Nat) (W : World) (v : Value) : Prop := (Ss.getD i (fun _ _ => True)) W v
/-- the slot holds just this -/
def Is (u : Value) : World → Value → Prop := fun _ v => v = u
def MonoP (p : World → Value → Prop) : Prop := ∀ W W' v, Below W.heap.size W W' → p W v → p W' v
def MonoAll : List (World → Value → Prop) → Prop
  | [] => True
  | p :: r => MonoP p ∧ MonoAll r
theorem mono_is (u : Value) : MonoP (Is u) := fun _ _ _ _ h => h
theorem MonoAll.get {Ss : List (World → Value → Prop)} (h : MonoAll Ss) : ∀ i, MonoP (SL Ss i) := by
  induction Ss with
  | nil => intro i W W' v _ _; exact trivial
  | cons p r ih =>
    intro i
    cases i with
    | zero => exact h.1
    | succ i => exact ih h.2 i

section
variable {P : Program} {ops : List Oper} {Q : Exit → Act → World → Prop} {a : Act} {Ss : List (World → Value → Prop)} {w : World}

/-- an operation that is carried out -/
def VF (P : Program) (Q : Exit → Act → World → Prop) (a : Act) (Ss : List (World → Value → Prop)) (w : World) (src : List (Nat × Option Nat)) (i : Nat) (o : Oper) : Prop :=
  ∀ (A : Act) (W : World) (K : Act → World → Prop), A.defers = a.defers → Below w.heap.size w W → Src (SL Ss) a A W src →
    (∀ v W', Below W.heap.size W W' → SL Ss i W' v → K (A.put o.dst v) W') → o.wp P A W K Q

theorem wp_region_fresh {id : Nat} (Ss : List (World → Value → Prop)) (srcs : List (List (Nat × Option Nat)))
    (hm : P.follows .mixedOrders = true) (hok : regionOk ops srcs a.tmps.size = true) (hback : edgesBack ops = true)
    (mono : MonoAll Ss)
    (vc : VCs P Q a (SL Ss) (Below w.heap.size w) (fun W W' => Below W.heap.size W W') ops 0 srcs ops)
    (fin : ∀ A W, A.defers = a.defers → A.tmps.size = a.tmps.size → Below w.heap.size w W → Ends (SL Ss) A W 0 ops → (∀ d, noDst ops d = true → A.tmps.getD d undef = a.tmps.getD d undef) → Q .normal A W) :
    (Code.region id ops.toArray true).wp P Q a w :=
  wp_region_inv (SL Ss) (Below w.heap.size w) (fun W W' => Below W.heap.size W W') srcs hm hok hback (Below.refl _ _).drew (fun W W' _ _ hst j v h => mono.get j W W' v hst h) vc fin

theorem wp_region_fresh_tail {id : Nat} (n : Nat) (Ss : List (World → Value → Prop)) (srcs : List (List (Nat × Option Nat)))
    (hm : P.follows .mixedOrders = true) (hok : regionOk ops srcs a.tmps.size = true) (hback : edgesBack ops = true)
    (htail : (decide (n < ops.length) && Region.sinkB .any ops.toArray n && Region.chainB .any ops.toArray n &&
      Region.seqB .any ops.toArray (ops.drop n).length n (List.replicate n true ++ List.replicate (ops.length - n) false).toArray) = true)
    (mono : MonoAll Ss)
    (vc : VCs P Q a (SL Ss) (Below w.heap.size w) (fun W W' => Below W.heap.size W W') ops 0 srcs (ops.take n))
    (fin : ∀ A W, A.defers = a.defers → A.tmps.size = a.tmps.size → Below w.heap.size w W → Ends (SL Ss) A W 0 (ops.take n) → (∀ d, noDst (ops.take n) d = true → A.tmps.getD d undef = a.tmps.getD d undef) → wpList P ops.toArray Q (ops.drop n) A W) :
    (Code.region id ops.toArray true).wp P Q a w :=
  wp_region_inv_tail n (SL Ss) (Below w.heap.size w) (fun W W' => Below W.heap.size W W') srcs hm hok hback htail (Below.refl _ _).drew (fun W W' _ _ hst j v h => mono.get j W W' v hst h) vc fin

theorem vf_none {src : List (Nat × Option Nat)} {i : Nat} {o : Oper} (hg : o.guard = none) (h : VF P Q a Ss w src i o) :
    VC1 P Q a (SL Ss) (Below w.heap.size w) (fun W W' => Below W.heap.size W W') ops src i o := by
  intro A W K hd hR hs hK
  rw [if_pos (by simp [Region.wanted, hg])]
  exact h A W K hd hR hs fun v W' hb hS => hK v W' (below_then hR hb hR.size) hb hS
theorem f_move {src : List (Nat × Option Nat)} {i : Nat} {o : Oper} {x : Operand} (ho : o.op = .move x ∨ o.op = .assign x)
    (h : ∀ A W, Below w.heap.size w W → Src (SL Ss) a A W src → SL Ss i W (A.eval x)) : VF P Q a Ss w src i o := by
  intro A W K hd hR hs hK
  have hr : (execOp A.eval o).run P W = .ok (.value (A.eval x)) W := by
    rcases ho with ho | ho <;> simp [execOp, ho, Sem.run_pure]
  unfold Oper.wp
  rw [hr]
  exact hK _ W (Below.refl _ _) (h A W hR hs)
theorem f_mov {src : List (Nat × Option Nat)} {i : Nat} {o : Oper} {t : Tmp} (ho : o.op = .move (.tmp t) ∨ o.op = .assign (.tmp t))
    (h : ∀ A W, Below w.heap.size w W → Src (SL Ss) a A W src → SL Ss i W (A.tmps[t]?.getD undef)) : VF P Q a Ss w src i o :=
  f_move ho fun A W hR hs => by
    have := h A W hR hs
    rw [← Array.getD_eq_getD_getElem?] at this
    exact this
/-- an operation that only computes, or makes memory -/
theorem f_run {src : List (Nat × Option Nat)} {i : Nat} {o : Oper}
    (h : ∀ A W, Below w.heap.size w W → Src (SL Ss) a A W src → ∃ v W', (execOp A.eval o).run P W = .ok (.value v) W' ∧ Below W.heap.size W W' ∧ SL Ss i W' v) : VF P Q a Ss w src i o := by
  intro A W K hd hR hs hK
  obtain ⟨v, W', hr, hb, hS⟩ := h A W hR hs
  unfold Oper.wp
  rw [hr]
  exact hK v W' hb hS
theorem run_callFunc {f : FuncId} {fn : Func} {c : Code} (hf : P.funcs[f]? = some fn) (hb : fn.body = some c) (hn : (fn.name == "runtime.NumGoroutine") = false) (args : Array Value) (W : World) :
    (callFunc f args).run P W = .ok (.enter f args) W := by
  have hn' : ¬ fn.name = "runtime.NumGoroutine" := by simpa using hn
  have h : Sem.run P (Sem.program Sem.pure) W = .ok P W := rfl
  simp only [callFunc, Sem.run_bind, program, h, Result.andThen_ok, hf, hb, Option.isNone_some, Bool.false_eq_true, if_false, hn]
  rfl
/-- what an operand holds, in the spelling of the rule's facts -/
def look (A : Act) : Operand → Value
  | .tmp t => A.tmps[t]?.getD undef
  | x => A.eval x
theorem look_eq (A : Act) : A.eval = look A := by
  funext x
  cases x <;> simp [look, Act.eval]
/-- a call of a Go function -/
theorem f_call {src : List (Nat × Option Nat)} {i : Nat} {o : Oper} {f : FuncId} {fn : Func} {c : Code} {xs : List Operand} {ts : Array TypeId} (ho : o.op = .call { callee := .value (.func f), args := xs.toArray, argTypes := ts })
    (hf : P.funcs[f]? = some fn) (hb : fn.body = some c) (hn : (fn.name == "runtime.NumGoroutine") = false)
    (h : ∀ A W, Below w.heap.size w W → Src (SL Ss) a A W src → Calls P f (xs.map (look A)).toArray W fun e W' => ∃ v, e = .returned v ∧ Below W.heap.size W W' ∧ SL Ss i W' v) : VF P Q a Ss w src i o := by
  intro A W K hd hR hs hK
  have he : execOp A.eval o = callFunc f (#[] ++ xs.toArray.map A.eval ++ #[]) := by
    obtain ⟨dst, op, type, pos, after, guard⟩ := o
    subst ho
    rfl
  unfold Oper.wp
  rw [he, run_callFunc hf hb hn]
  simp only [Array.empty_append, Array.append_empty]
  rw [look_eq, List.map_toArray]
  refine Calls.mono (h A W hR hs) ?_
  rintro e W' ⟨v, rfl, hb, hS⟩
  exact hK v W' hb hS
end

/-- a header of one slice of bytes, just laid -/
def PsOne (l : List UInt8) : World → Value → Prop := fun W v => ∃ g, v = .slice (some ⟨g, 0, none⟩) 1 1 ∧ Ps W (some ⟨g, 0, none⟩) 1 [l]
/-- headers of slices of bytes -/
def PsIs (n : Nat) (ls : List (List UInt8)) : World → Value → Prop := fun W v => ∃ g, v = .slice (some ⟨g, 0, none⟩) n n ∧ Ps W (some ⟨g, 0, none⟩) n ls
/-- a slice that reads as these bytes -/
def BsIs (n : Nat) (l : List UInt8) : World → Value → Prop := fun W v => ∃ B c, v = .slice B n c ∧ Bs W B n l ∧ n ≤ c ∧ c ≤ 9223372036854775807
end Go.Proofs.Ytcpifcdndhhmgaa
