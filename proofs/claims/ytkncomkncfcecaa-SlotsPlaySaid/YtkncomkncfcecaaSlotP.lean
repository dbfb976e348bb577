/- Entries of slots, plain: how they are written and read, which are there, which one boots: the code's way and the document's. No program in sight. -/
import Derived.Test.YtkncomkncfcecaaConcat
import Derived.Test.YtkncomkncfcecaaShaPlain
import Derived.Test.YtkncomkncfcecaaShaSum
set_option linter.unusedVariables false
set_option linter.unusedSimpArgs false
namespace Go.Proofs.Ytkncomkncfcecaa
open Go.RowKit
structure EntS where
  seq : Int
  slot : Int
  sum : List UInt8
def entZ : EntS := ⟨0, 0, z32⟩
def entF : EntS := ⟨0, 2, z32⟩
def entC (e : EntS) : List Value := .int .i64 e.seq :: .int .i64 e.slot :: bv e.sum
theorem ZR (e : EntS) (h : e.sum.length = 32) : (entC e).length = 34 := by simp [entC, bv, h]
def bytesE (e : EntS) : List UInt8 := (le8 e.seq ++ le8 e.slot) ++ e.sum
theorem Wx (e : EntS) (h : e.sum.length = 32) : (bytesE e).length = 48 := by unfold bytesE; rw [List.length_append, List.length_append, Xg, Xg, h]
/-! ### reading -/
abbrev HSt := List UInt8 × List UInt8 × Int
def hashStep (s : HSt) : HSt := (s.1 ++ [(taken s.2.1 s.2.2 1).1.headD 0], (taken s.2.1 s.2.2 1).2)
def hashN : Nat → HSt → HSt
  | 0, s => s
  | k + 1, s => hashStep (hashN k s)
theorem Vl (k : Nat) (l : List UInt8) (e : Int) : (hashN k ([], l, e)).1.length = k := by
  induction k with
  | zero => rfl
  | succ k ih => simp [hashN, hashStep, ih]
theorem hashN_back (h m : List UInt8) : ∀ k, k ≤ h.length → hashN k ([], h ++ m, 0) = (h.take k, h.drop k ++ m, 0) := by
  intro k
  induction k with
  | zero => intro _; rfl
  | succ k ih =>
    intro hk
    have hk' : k < h.length := by omega
    rw [hashN, ih (by omega)]
    have e1 : h.drop k ++ m = [h[k]] ++ (h.drop (k + 1) ++ m) := by rw [List.drop_eq_getElem_cons hk']; rfl
    unfold hashStep
    simp only
    rw [e1, taken_ok _ _ 1 rfl, List.take_succ_eq_append_getElem hk']
    rfl
def badE (e : EntS) : Bool := decide (e.seq < 1) || decide (1073741824 < e.seq) || decide (e.slot < 0) || decide (2 < e.slot)
def finE (e : EntS) (r : Int) : EntS × Int := if r = 0 then (if badE e = true then (entZ, 10) else (e, 0)) else (entZ, r)
def rawH (q s : Int) (l : List UInt8) (e : Int) : EntS × Int := finE ⟨q, s, (hashN 32 ([], l, e)).1⟩ (ended (hashN 32 ([], l, e)).2.1 (hashN 32 ([], l, e)).2.2)
def rawS (q : Int) (l : List UInt8) (e : Int) : EntS × Int := rawH q (tkN (taken l e 8)) (taken l e 8).2.1 (taken l e 8).2.2
def parseE (b : List UInt8) : EntS × Int := rawS (tkN (taken b 0 8)) (taken b 0 8).2.1 (taken b 0 8).2.2
structure GoodE (e : EntS) : Prop where
  seq : 1 ≤ e.seq ∧ e.seq ≤ 1073741824
  slot : 0 ≤ e.slot ∧ e.slot ≤ 2
  sum : e.sum.length = 32
theorem finE_len (e : EntS) (r : Int) (h : e.sum.length = 32) : (finE e r).1.sum.length = 32 := by
  unfold finE
  split
  · split
    · exact ZL
    · exact h
  · exact ZL
theorem finE_good (e : EntS) (r : Int) (h : e.sum.length = 32) (h0 : (finE e r).2 = 0) : finE e r = (e, 0) ∧ GoodE e := by
  unfold finE at h0 ⊢
  by_cases hr : r = 0
  · rw [if_pos hr] at h0 ⊢
    cases hb : badE e with
    | true => rw [hb] at h0; simp at h0
    | false =>
      rw [if_neg (by simp)]
      refine ⟨rfl, ?_⟩
      simp only [badE, Bool.or_eq_false_iff, decide_eq_false_iff_not] at hb
      obtain ⟨⟨⟨a, b⟩, c⟩, d⟩ := hb
      exact ⟨by omega, by omega, h⟩
  · rw [if_neg hr] at h0
    exact absurd h0 hr
theorem rawH_len (q s : Int) (l : List UInt8) (e : Int) : (rawH q s l e).1.sum.length = 32 := by
  unfold rawH
  have hl := Vl 32 l e
  generalize hashN 32 ([], l, e) = H at hl ⊢
  exact finE_len ⟨q, s, H.1⟩ _ hl
theorem rawH_good (q s : Int) (l : List UInt8) (e : Int) (h : (rawH q s l e).2 = 0) : GoodE (rawH q s l e).1 := by
  unfold rawH at h ⊢
  have hl := Vl 32 l e
  generalize hashN 32 ([], l, e) = H at h hl ⊢
  have := finE_good ⟨q, s, H.1⟩ _ hl h
  rw [this.1]; exact this.2
theorem parseE_len (b : List UInt8) : (parseE b).1.sum.length = 32 := by unfold parseE rawS; exact rawH_len _ _ _ _
theorem parseE_good (b : List UInt8) (h : (parseE b).2 = 0) : GoodE (parseE b).1 := by unfold parseE rawS at h ⊢; exact rawH_good _ _ _ _ h
theorem parseE_back (e : EntS) (h : GoodE e) : parseE (bytesE e) = (e, 0) := by
  have h1 : -9223372036854775808 ≤ e.seq ∧ e.seq ≤ 9223372036854775807 := by have := h.seq; omega
  have h2 : -9223372036854775808 ≤ e.slot ∧ e.slot ≤ 9223372036854775807 := by have := h.slot; omega
  have t1 : taken (bytesE e) 0 8 = (le8 e.seq, le8 e.slot ++ e.sum, 0) := by unfold bytesE; rw [List.append_assoc]; exact taken_ok _ _ 8 (Xg _)
  have t2 : taken (le8 e.slot ++ e.sum) 0 8 = (le8 e.slot, e.sum, 0) := taken_ok _ _ 8 (Xg _)
  unfold parseE
  rw [t1]
  unfold rawS
  simp only
  rw [t2]
  unfold rawH
  simp only
  have t3 := hashN_back e.sum [] 32 (by have := h.sum; omega)
  rw [List.append_nil, List.take_of_length_le (by have := h.sum; omega), List.drop_of_length_le (by have := h.sum; omega)] at t3
  rw [t3]
  have q1 : tkN (le8 e.seq, le8 e.slot ++ e.sum, (0 : Int)) = e.seq := int_back _ h1
  have q2 : tkN (le8 e.slot, e.sum, (0 : Int)) = e.slot := int_back _ h2
  rw [q1, q2]
  have he : ended ([] ++ []) (0 : Int) = 0 := rfl
  simp only
  rw [he]
  unfold finE
  rw [if_pos rfl]
  have hb : badE ⟨e.seq, e.slot, e.sum⟩ = false := by
    have h3 := h.seq
    have h4 := h.slot
    simp only [badE, Bool.or_eq_false_iff, decide_eq_false_iff_not]
    exact ⟨⟨⟨by omega, by omega⟩, by omega⟩, by omega⟩
  rw [hb]
  rfl
/-! ### all entries, the newest first -/
abbrev Plc := EntS × Int
def newerP (p q : Plc) : Bool := decide (q.1.seq < p.1.seq) || (decide (p.1.seq = q.1.seq) && decide (p.2 = q.2))
def insP (x : Plc) : List Plc → List Plc
  | [] => [x]
  | y :: l => if newerP x y = true then x :: y :: l else y :: insP x l
def entsR (rs : List (List UInt8)) : List EntS := rs.filterMap fun b => if (parseE b).2 = 0 then some (parseE b).1 else none
def pickE (r : EntS × Int) : Option EntS := if r.2 = 0 then some r.1 else none
theorem entsR_eq (rs : List (List UInt8)) : entsR rs = rs.filterMap fun b => pickE (parseE b) := rfl
theorem entsR_snoc (rs : List (List UInt8)) (b : List UInt8) : entsR (rs ++ [b]) = entsR rs ++ (pickE (parseE b)).toList := by
  rw [entsR_eq, entsR_eq, List.filterMap_append, List.filterMap_cons, List.filterMap_nil]
  generalize pickE (parseE b) = r
  cases r <;> rfl
theorem XK (rs : List (List UInt8)) : ∀ e ∈ entsR rs, GoodE e := fun e he => by
  unfold entsR at he
  obtain ⟨b, _, hb⟩ := List.mem_filterMap.1 he
  split at hb
  · rename_i h
    injection hb with hb
    rw [← hb]; exact parseE_good b h
  · cases hb
def secE (f : FlashSt) (s : Int) : List EntS := entsR (loadR (readF f s)).1
def addP (s : Int) (l : List Plc) (es : List EntS) : List Plc := es.foldl (fun l e => insP (e, s) l) l
theorem addP_snoc (s : Int) (l : List Plc) (es : List EntS) (e : EntS) : addP s l (es ++ [e]) = insP (e, s) (addP s l es) := by simp [addP]
def allP (f : FlashSt) : List Plc := addP 1 (addP 0 [] (secE f 0)) (secE f 1)
def SrtP (s : Int) (l : List Plc) : Prop := (∀ p ∈ l, 0 ≤ p.2 ∧ p.2 ≤ s) ∧ l.Pairwise fun a b => b.1.seq < a.1.seq ∨ (b.1.seq = a.1.seq ∧ a.2 ≤ b.2)
theorem Vj (x p : Plc) : ∀ l : List Plc, p ∈ insP x l ↔ p = x ∨ p ∈ l
  | [] => by simp [insP]
  | y :: l => by
    simp only [insP]
    split
    · simp
    · simp only [List.mem_cons, Vj x p l]
      constructor
      · rintro (h | h | h) <;> simp [h]
      · rintro (h | h | h) <;> simp [h]
theorem Yv (p q : Plc) : newerP p q = true ↔ q.1.seq < p.1.seq ∨ (p.1.seq = q.1.seq ∧ p.2 = q.2) := by simp [newerP]
theorem SrtP.ins {s : Int} (hs : 0 ≤ s) {e : EntS} : ∀ {l : List Plc}, SrtP s l → SrtP s (insP (e, s) l) := by
  intro l h
  refine ⟨fun p hp => by
    rcases (Vj _ _ _).1 hp with rfl | hp
    · exact ⟨hs, Int.le_refl _⟩
    · exact h.1 p hp, ?_⟩
  obtain ⟨hle, hpw⟩ := h
  induction l with
  | nil => simp [insP]
  | cons y l ih =>
    obtain ⟨hy, hl⟩ := List.pairwise_cons.1 hpw
    simp only [insP]
    cases hn : newerP (e, s) y with
    | true =>
      rw [if_pos rfl]
      refine List.pairwise_cons.2 ⟨fun z hz => ?_, hpw⟩
      rw [Yv] at hn
      have hzs := hle z hz
      rcases List.mem_cons.1 hz with rfl | hz
      · rcases hn with hn | hn
        · exact .inl hn
        · exact .inr ⟨hn.1.symm, by rw [hn.2]; exact Int.le_refl _⟩
      · have hyz := hy z hz
        have hys := hle y (by simp)
        dsimp only at hn ⊢
        omega
    | false =>
      rw [if_neg (by simp)]
      refine List.pairwise_cons.2 ⟨fun z hz => ?_, ih (fun p hp => hle p (by simp [hp])) hl⟩
      have hn' : ¬ (y.1.seq < e.seq ∨ (e.seq = y.1.seq ∧ s = y.2)) := fun h => by
        have := (Yv (e, s) y).2 h
        rw [hn] at this; cases this
      rcases (Vj _ _ _).1 hz with rfl | hz
      · have hys := hle y (by simp)
        dsimp only
        omega
      · exact hy z hz
theorem SrtP.add {s : Int} (hs : 0 ≤ s) : ∀ (es : List EntS) {l : List Plc}, SrtP s l → SrtP s (addP s l es)
  | [], _, h => h
  | e :: es, _, h => SrtP.add hs es (h.ins hs)
theorem SrtP.up {s t : Int} (hst : s ≤ t) {l : List Plc} (h : SrtP s l) : SrtP t l := ⟨fun p hp => ⟨(h.1 p hp).1, Int.le_trans (h.1 p hp).2 hst⟩, h.2⟩
def optP (c : EntS → Bool) (o : Option Plc) (x : Plc) : Option Plc :=
  if c x.1 = true then (match o with | none => some x | some y => if newerP x y = true then some x else some y) else o
theorem find_ins (c : EntS → Bool) {s : Int} (hs : 0 ≤ s) (e : EntS) : ∀ {l : List Plc}, SrtP s l → (insP (e, s) l).find? (fun p => c p.1) = optP c (l.find? fun p => c p.1) (e, s)
  | [], _ => by
    simp only [insP, List.find?_cons, List.find?_nil, optP]
    cases c e <;> rfl
  | y :: l, h => by
    obtain ⟨hle, hpw⟩ := h
    obtain ⟨hy, hl⟩ := List.pairwise_cons.1 hpw
    have ih := find_ins c hs e (l := l) ⟨fun p hp => hle p (by simp [hp]), hl⟩
    simp only [insP]
    cases hn : newerP (e, s) y with
    | true =>
      rw [if_pos rfl]
      have hn2 := hn
      rw [Yv] at hn2
      dsimp only at hn2
      unfold optP
      rw [List.find?_cons]
      dsimp only
      cases hc : c e with
      | false => rfl
      | true =>
        rw [if_pos rfl]
        rw [List.find?_cons]
        cases hcy : c y.1 with
        | true => simp [hn]
        | false =>
          simp only
          cases hf : l.find? (fun p => c p.1) with
          | none => rfl
          | some z =>
            have hz := hy z (List.mem_of_find?_eq_some hf)
            have hys := hle y (by simp)
            have hzs := hle z (by simp [List.mem_of_find?_eq_some hf])
            have : newerP (e, s) z = true := by
              rw [Yv]
              dsimp only
              omega
            simp [this]
    | false =>
      rw [if_neg (by simp), List.find?_cons]
      cases hcy : c y.1 with
      | true =>
        simp only
        unfold optP
        rw [List.find?_cons, hcy]
        simp only
        rw [hn]
        simp
      | false =>
        simp only
        rw [ih, List.find?_cons, hcy]
theorem find_add (c : EntS → Bool) {s : Int} (hs : 0 ≤ s) : ∀ (es : List EntS) {l : List Plc}, SrtP s l → (addP s l es).find? (fun p => c p.1) = es.foldl (fun o e => optP c o (e, s)) (l.find? fun p => c p.1)
  | [], _, _ => rfl
  | e :: es, l, h => by
    show (addP s (insP (e, s) l) es).find? _ = _
    rw [find_add c hs es (h.ins hs), find_ins c hs e h]
    rfl
theorem srt0 : SrtP 0 [] := ⟨by simp, List.Pairwise.nil⟩
theorem allP_find (c : EntS → Bool) (f : FlashSt) : (allP f).find? (fun p => c p.1) = (secE f 1).foldl (fun o e => optP c o (e, 1)) ((secE f 0).foldl (fun o e => optP c o (e, 0)) none) := by
  unfold allP
  rw [find_add c (by omega) _ ((SrtP.add (by omega) _ srt0).up (by omega)), find_add c (by omega) _ srt0]
  rfl
theorem Vp (f : FlashSt) : ∀ p ∈ allP f, GoodE p.1 ∧ (p.2 = 0 ∨ p.2 = 1) := by
  have key : ∀ (s : Int) (es : List EntS) (l : List Plc), (s = 0 ∨ s = 1) → (∀ e ∈ es, GoodE e) → (∀ p ∈ l, GoodE p.1 ∧ (p.2 = 0 ∨ p.2 = 1)) → ∀ p ∈ addP s l es, GoodE p.1 ∧ (p.2 = 0 ∨ p.2 = 1) := by
    intro s es
    induction es with
    | nil => intro l _ _ hl; exact hl
    | cons e es ih =>
      intro l hs he hl
      refine ih _ hs (fun x hx => he x (by simp [hx])) fun p hp => ?_
      rcases (Vj _ _ _).1 hp with rfl | hp
      · exact ⟨he e (by simp), hs⟩
      · exact hl p hp
  unfold allP
  exact key 1 _ _ (.inr rfl) (XK _) (key 0 _ _ (.inl rfl) (XK _) (by simp))
/-! ### what boots -/
def imageP (f : FlashSt) (e : EntS) : List UInt8 × Bool :=
  if e.slot = 2 then ([], true) else match (loadR (readF f (2 + e.slot))).1 with
    | [] => ([], false)
    | x :: _ => if sha x = e.sum then (x, true) else ([], false)
def bootP (f : FlashSt) : EntS × List UInt8 := match (allP f).find? (fun p => (imageP f p.1).2) with
  | some p => (p.1, (imageP f p.1).1)
  | none => (entF, [])
def stepB (f : FlashSt) (first : Bool) (was : Int) (st : EntS × List UInt8) (e : EntS) : EntS × List UInt8 :=
  if (decide (e.seq < st.1.seq) || (first && decide (e.seq = was))) = true then st else if (imageP f e).2 = true then (e, (imageP f e).1) else st
def boot0 (f : FlashSt) : EntS × List UInt8 := (secE f 0).foldl (stepB f false 0) (entF, [])
def bootR (f : FlashSt) : EntS × List UInt8 := (secE f 1).foldl (stepB f (decide (0 < (boot0 f).1.seq)) (boot0 f).1.seq) (boot0 f)
def ofO (f : FlashSt) : Option Plc → EntS × List UInt8
  | some p => (p.1, (imageP f p.1).1)
  | none => (entF, [])
theorem fold0 (f : FlashSt) : ∀ (es : List EntS) (o : Option Plc), (∀ e ∈ es, 1 ≤ e.seq) → (∀ p, o = some p → 1 ≤ p.1.seq ∧ p.2 = 0) →
    es.foldl (stepB f false 0) (ofO f o) = ofO f (es.foldl (fun o e => optP (fun e => (imageP f e).2) o (e, 0)) o) ∧ ∀ p, es.foldl (fun o e => optP (fun e => (imageP f e).2) o (e, 0)) o = some p → 1 ≤ p.1.seq ∧ p.2 = 0
  | [], o, _, ho => ⟨rfl, ho⟩
  | e :: es, o, he, ho => by
    have h1 := he e (by simp)
    have hstep : stepB f false 0 (ofO f o) e = ofO f (optP (fun e => (imageP f e).2) o (e, 0)) := by
      unfold stepB optP
      cases o with
      | none =>
        have : decide (e.seq < (ofO f none).1.seq) = false := by rw [decide_eq_false_iff_not]; show ¬ e.seq < 0; omega
        rw [this]
        simp only [Bool.false_and, Bool.or_false]
        rw [if_neg (by simp)]
        split <;> rfl
      | some y =>
        have hy := ho y rfl
        simp only [Bool.false_and, Bool.or_false]
        show (if decide (e.seq < y.1.seq) = true then _ else _) = _
        by_cases hlt : e.seq < y.1.seq
        · rw [if_pos (decide_eq_true hlt)]
          have hn : newerP (e, 0) y = false := by
            rw [Bool.eq_false_iff]
            intro h
            rw [Yv] at h
            dsimp only at h
            omega
          rw [hn]
          split <;> rfl
        · rw [if_neg (by rw [decide_eq_true_eq]; exact hlt)]
          have hn : newerP (e, 0) y = true := by
            rw [Yv]
            dsimp only
            omega
          rw [hn]
          simp only [if_true]
          split <;> rfl
    have ho' : ∀ p, optP (fun e => (imageP f e).2) o (e, 0) = some p → 1 ≤ p.1.seq ∧ p.2 = 0 := fun p hp => by
      unfold optP at hp
      dsimp only at hp
      split at hp
      · split at hp
        · injection hp with hp; subst hp; exact ⟨h1, rfl⟩
        · rename_i y
          split at hp
          · injection hp with hp; subst hp; exact ⟨h1, rfl⟩
          · injection hp with hp; subst hp; exact ho y rfl
      · exact ho p hp
    simp only [List.foldl_cons]
    rw [hstep]
    exact fold0 f es _ (fun x hx => he x (by simp [hx])) ho'
theorem fold1 (f : FlashSt) (b0 : Option Plc) (hb0 : ∀ p, b0 = some p → 1 ≤ p.1.seq ∧ p.2 = 0) : ∀ (es : List EntS) (o : Option Plc), (∀ e ∈ es, 1 ≤ e.seq) →
    (o = b0 ∨ ∃ p, o = some p ∧ p.2 = 1 ∧ 1 ≤ p.1.seq ∧ (∀ q, b0 = some q → q.1.seq < p.1.seq)) →
    es.foldl (stepB f (decide (0 < (ofO f b0).1.seq)) (ofO f b0).1.seq) (ofO f o) = ofO f (es.foldl (fun o e => optP (fun e => (imageP f e).2) o (e, 1)) o)
  | [], o, _, _ => rfl
  | e :: es, o, he, ho => by
    have h1 := he e (by simp)
    have hkey : stepB f (decide (0 < (ofO f b0).1.seq)) (ofO f b0).1.seq (ofO f o) e = ofO f (optP (fun e => (imageP f e).2) o (e, 1)) ∧
        (optP (fun e => (imageP f e).2) o (e, 1) = b0 ∨ ∃ p, optP (fun e => (imageP f e).2) o (e, 1) = some p ∧ p.2 = 1 ∧ 1 ≤ p.1.seq ∧ (∀ q, b0 = some q → q.1.seq < p.1.seq)) := by
      unfold stepB optP
      dsimp only
      rcases ho with rfl | ⟨y, rfl, hy2, hy1, hyq⟩
      · cases o with
        | none =>
          have e1 : decide (e.seq < (ofO f none).1.seq) = false := by rw [decide_eq_false_iff_not]; show ¬ e.seq < 0; omega
          have e2 : decide (0 < (ofO f none).1.seq) = false := rfl
          rw [e1, e2]
          simp only [Bool.false_and, Bool.or_false]
          rw [if_neg (by simp)]
          cases hi : (imageP f e).2 with
          | true => exact ⟨rfl, .inr ⟨(e, 1), rfl, rfl, h1, fun q hq => by cases hq⟩⟩
          | false => exact ⟨rfl, .inl rfl⟩
        | some y =>
          obtain ⟨hy1, hy2⟩ := hb0 y rfl
          have e2 : decide (0 < (ofO f (some y)).1.seq) = true := by rw [decide_eq_true_eq]; show 0 < y.1.seq; omega
          rw [e2]
          simp only [Bool.true_and]
          show (if (decide (e.seq < y.1.seq) || decide (e.seq = y.1.seq)) = true then _ else _) = _ ∧ _
          by_cases hlt : y.1.seq < e.seq
          · have hn : newerP (e, 1) y = true := by rw [Yv]; exact .inl hlt
            rw [if_neg (by simp; omega), hn]
            cases hi : (imageP f e).2 with
            | true => exact ⟨rfl, .inr ⟨(e, 1), rfl, rfl, h1, fun q hq => by injection hq with hq; subst hq; exact hlt⟩⟩
            | false => exact ⟨rfl, .inl rfl⟩
          · have hn : newerP (e, 1) y = false := by
              rw [Bool.eq_false_iff]
              intro h
              rw [Yv] at h
              dsimp only at h
              omega
            rw [if_pos (by simp; omega), hn]
            cases hi : (imageP f e).2 with
            | true => exact ⟨rfl, .inl rfl⟩
            | false => exact ⟨rfl, .inl rfl⟩
      · show (if (decide (e.seq < y.1.seq) || _) = true then _ else _) = _ ∧ _
        by_cases hlt : e.seq < y.1.seq
        · have hn : newerP (e, 1) y = false := by
            rw [Bool.eq_false_iff]
            intro h
            rw [Yv] at h
            dsimp only at h
            omega
          rw [if_pos (by simp [hlt])]
          dsimp only
          rw [hn]
          simp only [Bool.false_eq_true, if_false, ite_self, true_and]
          exact .inr ⟨y, rfl, hy2, hy1, hyq⟩
        · have hn : newerP (e, 1) y = true := by rw [Yv]; dsimp only; omega
          have hne : ¬ ((0 < (ofO f b0).1.seq) ∧ e.seq = (ofO f b0).1.seq) := by
            rintro ⟨ha, hb⟩
            cases b0 with
            | none => exact absurd ha (by show ¬ (0 : Int) < 0; omega)
            | some q =>
              have h2 := hyq q rfl
              have h3 : e.seq = q.1.seq := hb
              omega
          rw [if_neg (by
            simp only [Bool.or_eq_true, Bool.and_eq_true, decide_eq_true_eq]
            rintro (h | h)
            · exact hlt h
            · exact hne h)]
          dsimp only
          rw [hn]
          by_cases hi : (imageP f e).2 = true
          · simp only [hi, if_true]
            exact ⟨rfl, .inr ⟨(e, 1), rfl, rfl, h1, fun q hq => by have := hyq q hq; dsimp only; omega⟩⟩
          · simp only [hi, if_false]
            exact ⟨rfl, .inr ⟨y, rfl, hy2, hy1, hyq⟩⟩
    simp only [List.foldl_cons]
    rw [hkey.1]
    exact fold1 f b0 hb0 es _ (fun x hx => he x (by simp [hx])) hkey.2
theorem secE_seq (f : FlashSt) (s : Int) : ∀ e ∈ secE f s, 1 ≤ e.seq := fun e he => (XK _ e he).seq.1
theorem boot_eq (f : FlashSt) : bootR f = bootP f := by
  have h0 := fold0 f (secE f 0) none (secE_seq f 0) (by simp)
  have e0 : boot0 f = ofO f ((secE f 0).foldl (fun o e => optP (fun e => (imageP f e).2) o (e, 0)) none) := h0.1
  have e1 : bootP f = ofO f ((allP f).find? (fun p => (imageP f p.1).2)) := by
    unfold bootP
    split <;> rename_i h <;> rw [h] <;> rfl
  rw [e1, allP_find (fun e => (imageP f e).2)]
  unfold bootR
  rw [e0]
  exact fold1 f _ h0.2 (secE f 1) _ (secE_seq f 1) (.inl rfl)
/-! ### an entry is marked, an image is stored -/
def lastP (f : FlashSt) : Int × Int := match allP f with
  | [] => (0, 0)
  | p :: _ => (p.1.seq, p.2)
def stepM (s : Int) (st : Int × Int) (e : EntS) : Int × Int := if st.1 < e.seq then (e.seq, s) else st
def lastR (f : FlashSt) : Int × Int := (secE f 1).foldl (stepM 1) ((secE f 0).foldl (stepM 0) (0, 0))
def ofM : Option Plc → Int × Int
  | some p => (p.1.seq, p.2)
  | none => (0, 0)
theorem foldM (s : Int) : ∀ (es : List EntS) (o : Option Plc), (∀ e ∈ es, 1 ≤ e.seq) → (∀ p, o = some p → 1 ≤ p.1.seq) →
    es.foldl (stepM s) (ofM o) = ofM (es.foldl (fun o e => optP (fun _ => true) o (e, s)) o) ∧ ∀ p, es.foldl (fun o e => optP (fun _ => true) o (e, s)) o = some p → 1 ≤ p.1.seq
  | [], o, _, ho => ⟨rfl, ho⟩
  | e :: es, o, he, ho => by
    have h1 := he e (by simp)
    have hkey : stepM s (ofM o) e = ofM (optP (fun _ => true) o (e, s)) ∧ ∀ p, optP (fun _ => true) o (e, s) = some p → 1 ≤ p.1.seq := by
      unfold stepM optP
      dsimp only
      rw [if_pos rfl]
      cases o with
      | none =>
        refine ⟨by rw [if_pos (show (ofM none).1 < e.seq from by show (0 : Int) < e.seq; omega)]; rfl, fun p hp => by injection hp with hp; subst hp; exact h1⟩
      | some y =>
        have hy := ho y rfl
        show (if y.1.seq < e.seq then _ else _) = ofM (if newerP (e, s) y = true then some (e, s) else some y) ∧ ∀ p, (if newerP (e, s) y = true then some (e, s) else some y) = some p → 1 ≤ p.1.seq
        by_cases hlt : y.1.seq < e.seq
        · have hn : newerP (e, s) y = true := by rw [Yv]; exact .inl hlt
          rw [if_pos hlt, hn]
          exact ⟨rfl, fun p hp => by injection hp with hp; subst hp; exact h1⟩
        · rw [if_neg hlt]
          cases hn : newerP (e, s) y with
          | true =>
            rw [Yv] at hn
            dsimp only at hn
            rw [if_pos rfl]
            refine ⟨?_, fun p hp => by injection hp with hp; subst hp; exact h1⟩
            show (y.1.seq, y.2) = (e.seq, s)
            rcases hn with hn | hn
            · omega
            · rw [hn.1, hn.2]
          | false => exact ⟨rfl, fun p hp => by injection hp with hp; subst hp; exact hy⟩
    simp only [List.foldl_cons]
    rw [hkey.1]
    exact foldM s es _ (fun x hx => he x (by simp [hx])) hkey.2
theorem last_eq (f : FlashSt) : lastR f = lastP f := by
  have h0 := foldM 0 (secE f 0) none (secE_seq f 0) (by simp)
  have h1 := foldM 1 (secE f 1) _ (secE_seq f 1) h0.2
  have e1 : lastP f = ofM ((allP f).find? fun _ => true) := by
    unfold lastP
    cases allP f <;> rfl
  rw [e1, allP_find (fun _ => true)]
  unfold lastR
  have h00 : (secE f 0).foldl (stepM 0) (0, 0) = ofM ((secE f 0).foldl (fun o e => optP (fun _ => true) o (e, 0)) none) := h0.1
  rw [h00]
  exact h1.1
theorem lastP_bds (f : FlashSt) : 0 ≤ (lastP f).1 ∧ (lastP f).1 ≤ 1073741824 ∧ ((lastP f).2 = 0 ∨ (lastP f).2 = 1) := by
  have h := Vp f
  unfold lastP
  cases hl : allP f with
  | nil => exact ⟨by simp, by simp, .inl rfl⟩
  | cons p l =>
    have := h p (by rw [hl]; simp)
    have h2 := this.1.seq
    exact ⟨by show 0 ≤ p.1.seq; omega, by show p.1.seq ≤ _; omega, this.2⟩
def writeP (f : FlashSt) (s : Int) (b : List UInt8) : Int × FlashSt :=
  if (appendP f s b).1 ≠ 4 then appendP f s b
  else if (eraseF (appendP f s b).2 (1 - s)).1 ≠ 0 then eraseF (appendP f s b).2 (1 - s)
  else appendP (eraseF (appendP f s b).2 (1 - s)).2 (1 - s) b
def markP (f : FlashSt) (slot : Int) (sum : List UInt8) : Int × FlashSt :=
  if slot < 0 ∨ 2 < slot then (1, f)
  else if 1073741824 ≤ (lastP f).1 then (11, f)
  else writeP f (lastP f).2 (bytesE ⟨(lastP f).1 + 1, slot, sum⟩)
def storeP (f : FlashSt) (slot : Int) (img : List UInt8) : Int × FlashSt :=
  if slot < 0 ∨ 2 ≤ slot then (1, f)
  else if 1000 < img.length then (5, f)
  else if (eraseF f (2 + slot)).1 ≠ 0 then eraseF f (2 + slot)
  else appendP (eraseF f (2 + slot)).2 (2 + slot) img
end Go.Proofs.Ytkncomkncfcecaa
