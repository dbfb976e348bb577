/- A walk over a frame of which only the slots that are named are known: the cost of a step hangs on these alone, however wide the frame is. No program in sight. -/
import Derived.Test.YtcpifcdndhhmgaaRegion
set_option linter.unusedVariables false
set_option linter.unusedSimpArgs false
namespace Go.Proofs.Ytcpifcdndhhmgaa
open Go.RowKit

/-! ### what is known of slots -/
abbrev Slots := List (Nat × Value)
def lk : Slots → Nat → Option Value
  | [], _ => none
  | (a, v) :: L, t => bif a == t then some v else lk L t
def ev (L : Slots) : Operand → Value
  | .tmp t => (lk L t).getD undef
  | .const v => v
  | .global g => .pointer (some ⟨g, 0, none⟩)
  | .func f => .func (.func f) #[] #[]
structure Kn (n : Nat) (L : Slots) (a : Act) : Prop where
  size : a.tmps.size = n
  def_ : a.defers = []
  all : ∀ t v, lk L t = some v → a.tmps.getD t undef = v

theorem lk_hit (L : Slots) (t : Nat) (v : Value) : lk ((t, v) :: L) t = some v := by simp [lk]
theorem lk_miss (L : Slots) (a t : Nat) (v : Value) (h : (a == t) = false) : lk ((a, v) :: L) t = lk L t := by simp [lk, h]
theorem look_tmp (A : Act) (t : Nat) : look A (.tmp t) = A.tmps[t]?.getD undef := rfl
theorem look_const (A : Act) (v : Value) : look A (.const v) = v := rfl
theorem look_global (A : Act) (g : Nat) : look A (.global g) = .pointer (some ⟨g, 0, none⟩) := rfl
theorem look_func (A : Act) (f : Nat) : look A (.func f) = .func (.func f) #[] #[] := rfl
theorem ev_tmp (L : Slots) (t : Nat) : ev L (.tmp t) = (lk L t).getD undef := rfl
theorem ev_const (L : Slots) (v : Value) : ev L (.const v) = v := rfl
theorem ev_global (L : Slots) (g : Nat) : ev L (.global g) = .pointer (some ⟨g, 0, none⟩) := rfl
theorem ev_func (L : Slots) (f : Nat) : ev L (.func f) = .func (.func f) #[] #[] := rfl

def okx (L : Slots) : Operand → Bool
  | .tmp t => (lk L t).isSome
  | _ => true
theorem Kn.eval {n : Nat} {L : Slots} {a : Act} (h : Kn n L a) {x : Operand} (hx : okx L x = true) : a.eval x = ev L x := by
  cases x with
  | tmp t =>
    simp only [okx, Option.isSome_iff_exists] at hx
    obtain ⟨v, hv⟩ := hx
    show a.tmps.getD t undef = (lk L t).getD undef
    rw [hv, h.all t v hv]; rfl
  | _ => rfl

/-- the operations that the rule looks into -/
def okop (L : Slots) : Op → Bool
  | .move x | .assign x => okx L x
  | .pick c a b => okx L c && okx L a && okx L b
  | .alloc _ => false
  | .box _ x => okx L x
  | .build _ ps | .buildSlice _ _ ps => ps.toList.all fun p => okx L p.2
  | .load _ x => okx L x
  | .store _ x y => okx L x && okx L y
  | .nilCheck x => okx L x
  | .binOp _ _ x y _ => okx L x && okx L y
  | .unOp _ _ x => okx L x
  | .convert _ _ x => okx L x
  | .makeInterface _ x => okx L x
  | .makeSlice _ x y => okx L x && okx L y
  | .makeFunc _ ps qs => ps.toList.all (okx L) && qs.toList.all (okx L)
  | .slice _ x l h m => okx L x && l.all (okx L) && h.all (okx L) && m.all (okx L)
  | .fieldAddr _ x _ | .field _ x _ => okx L x
  | .indexAddr _ x y | .index _ x y => okx L x && okx L y
  | .range _ x | .next x _ | .extract x _ => okx L x
  | .call c => c.args.toList.all (okx L) && (match c.callee with | .value f => okx L f | .invoke r _ => okx L r | .builtin _ => true)
  | _ => false

theorem map_eval {n : Nat} {L : Slots} {a : Act} (h : Kn n L a) (xs : Array Operand) (hx : xs.toList.all (okx L) = true) : xs.map a.eval = xs.map (ev L) := by
  apply Array.ext'
  simp only [Array.toList_map]
  apply List.map_congr_left
  intro x hm
  exact h.eval (List.all_eq_true.1 hx x hm)
theorem map_eval2 {n : Nat} {L : Slots} {a : Act} (h : Kn n L a) (xs : Array (Nat × Operand)) (hx : (xs.toList.all fun p => okx L p.2) = true) :
    (xs.map fun (i, x) => (i, a.eval x)) = xs.map fun (i, x) => (i, ev L x) := by
  apply Array.ext'
  simp only [Array.toList_map]
  apply List.map_congr_left
  intro x hm
  have := h.eval (List.all_eq_true.1 hx x hm)
  rw [this]
theorem omap_eval {n : Nat} {L : Slots} {a : Act} (h : Kn n L a) (x : Option Operand) (hx : x.all (okx L) = true) : x.map a.eval = x.map (ev L) := by
  cases x with
  | none => rfl
  | some x => exact congrArg some (h.eval hx)

theorem Kn.exec {n : Nat} {L : Slots} {a : Act} (h : Kn n L a) {o : Oper} (ho : okop L o.op = true) : execOp a.eval o = execOp (ev L) o := by
  obtain ⟨dst, op, type, pos, after, guard⟩ := o
  cases op <;> simp only [okop, Bool.and_eq_true, Bool.false_eq_true] at ho <;> try (simp only [execOp, h.eval ho]; done)
  all_goals first
    | rfl
    | (obtain ⟨h1, h2⟩ := ho; simp only [execOp, h.eval h1, h.eval h2]; done)
    | (obtain ⟨⟨h1, h2⟩, h3⟩ := ho; simp only [execOp, h.eval h1, h.eval h2, h.eval h3]; done)
    | (simp only [execOp]; rw [map_eval2 h _ ho]; done)
    | (obtain ⟨h1, h2⟩ := ho; simp only [execOp]; rw [map_eval h _ h1, map_eval h _ h2]; done)
    | (obtain ⟨⟨⟨h1, h2⟩, h3⟩, h4⟩ := ho; simp only [execOp, h.eval h1]; rw [omap_eval h _ h2, omap_eval h _ h3, omap_eval h _ h4]; done)
    | skip
  case call c =>
    obtain ⟨callee, args, ts⟩ := c
    obtain ⟨h1, h2⟩ := ho
    have hm := map_eval h args h1
    cases callee with
    | value f => simp only [execOp, resolve, hm, h.eval h2]
    | invoke r nm => simp only [execOp, resolve, hm, h.eval h2]
    | builtin b => simp only [execOp, resolve, hm]

theorem Kn.put {n : Nat} {L : Slots} {a : Act} (h : Kn n L a) (d : Nat) (v : Value) (hd : Nat.blt d n = true) : Kn n ((d, v) :: L) (a.put (some d) v) := by
  have hd' : d < n := by simpa using hd
  refine ⟨by simp [Act.put, h.size], h.def_, fun t u ht => ?_⟩
  simp only [lk] at ht
  by_cases hdt : d = t
  · subst hdt
    simp at ht
    subst ht
    exact tmps_put_self a d _ (by rw [h.size]; exact hd')
  · have : (d == t) = false := beq_eq_false_iff_ne.2 hdt
    rw [this] at ht
    rw [tmps_put_ne a d t v hdt]
    exact h.all t u ht
/-- fewer slots -/
def nrm (L : Slots) : List Nat → Slots
  | [] => []
  | t :: ts => match lk L t with
    | some v => (t, v) :: nrm L ts
    | none => nrm L ts
theorem lk_nrm (L : Slots) (ts : List Nat) (t : Nat) (v : Value) (h : lk (nrm L ts) t = some v) : lk L t = some v := by
  induction ts with
  | nil => simp [nrm, lk] at h
  | cons s ts ih =>
    simp only [nrm] at h
    cases hs : lk L s with
    | none => rw [hs] at h; exact ih h
    | some u =>
      rw [hs] at h
      simp only [lk] at h
      cases hb : s == t with
      | false => rw [hb] at h; exact ih h
      | true =>
        rw [hb] at h
        simp at h
        rw [← (beq_iff_eq.1 hb), hs, h]
theorem Kn.less {n : Nat} {L : Slots} {a : Act} (h : Kn n L a) (ts : List Nat) : Kn n (nrm L ts) a := ⟨h.size, h.def_, fun t v ht => h.all t v (lk_nrm L ts t v ht)⟩

/-! ### code -/
structure KW (P : Program) (c : Code) (Q : Exit → Act → World → Prop) (n : Nat) (L : Slots) (w : World) : Prop where
  h : ∀ a, Kn n L a → Code.wp P c Q a w
structure KQ (Q : Exit → Act → World → Prop) (e : Exit) (n : Nat) (L : Slots) (w : World) : Prop where
  h : ∀ a, Kn n L a → Q e a w
structure KL (P : Program) (ops : Array Oper) (Q : Exit → Act → World → Prop) (l : List Oper) (n : Nat) (L : Slots) (w : World) : Prop where
  h : ∀ a, Kn n L a → wpList P ops Q l a w

section
variable {P : Program} {Q : Exit → Act → World → Prop} {n : Nat} {L : Slots} {w : World}
theorem KW.less {c : Code} (ts : List Nat) (h : KW P c Q n (nrm L ts) w) : KW P c Q n L w := ⟨fun a k => h.h a (k.less ts)⟩
theorem KQ.less {e : Exit} (ts : List Nat) (h : KQ Q e n (nrm L ts) w) : KQ Q e n L w := ⟨fun a k => h.h a (k.less ts)⟩
theorem KL.less {ops : Array Oper} {l : List Oper} (ts : List Nat) (h : KL P ops Q l n (nrm L ts) w) : KL P ops Q l n L w := ⟨fun a k => h.h a (k.less ts)⟩
theorem kw_seq {x y : Code} (h : KW P x (Exit.then (y.wp P Q) Q) n L w) : KW P (.seq x y) Q n L w := ⟨fun a k => wp_seq (h.h a k)⟩
theorem kw_skip (h : KQ Q .normal n L w) : KW P .skip Q n L w := ⟨fun a k => wp_skip (h.h a k)⟩
theorem kw_ret (h : KQ Q .ret n L w) : KW P .ret Q n L w := ⟨fun a k => wp_ret (h.h a k)⟩
theorem kw_exit {id : Nat} (h : KQ Q (.exit id) n L w) : KW P (.exit id) Q n L w := ⟨fun a k => wp_exit (h.h a k)⟩
theorem kw_block {id : Nat} {c : Code} (h : KW P c (Exit.inBlock id Q) n L w) : KW P (.block id c) Q n L w := ⟨fun a k => wp_block (h.h a k)⟩
theorem kw_ift {t : Tmp} {x y : Code} (hc : lk L t = some (.bool true)) (h : KW P x Q n L w) : KW P (.cond (.tmp t) x y) Q n L w := ⟨fun a k => wp_cond_true (k.all t _ hc) (h.h a k)⟩
theorem kw_iff {t : Tmp} {x y : Code} (hc : lk L t = some (.bool false)) (h : KW P y Q n L w) : KW P (.cond (.tmp t) x y) Q n L w := ⟨fun a k => wp_cond_false (k.all t _ hc) (h.h a k)⟩
theorem kq_then {x : Code} (h : KW P x Q n L w) : KQ (Exit.then (x.wp P Q) Q) .normal n L w := ⟨fun a k => h.h a k⟩
theorem kq_then_ret {N : Act → World → Prop} (h : KQ Q .ret n L w) : KQ (Exit.then N Q) .ret n L w := ⟨fun a k => h.h a k⟩
theorem kq_then_exit {N : Act → World → Prop} {id : Nat} (h : KQ Q (.exit id) n L w) : KQ (Exit.then N Q) (.exit id) n L w := ⟨fun a k => h.h a k⟩
theorem kq_block {id : Nat} (h : KQ Q .normal n L w) : KQ (Exit.inBlock id Q) .normal n L w := ⟨fun a k => h.h a k⟩
theorem kq_block_ret {id : Nat} (h : KQ Q .ret n L w) : KQ (Exit.inBlock id Q) .ret n L w := ⟨fun a k => h.h a k⟩
theorem kq_block_here {id id' : Nat} (hi : Nat.beq id' id = true) (h : KQ Q .normal n L w) : KQ (Exit.inBlock id Q) (.exit id') n L w := ⟨fun a k => by
  show if id' = id then Q .normal a w else Q (.exit id') a w
  rw [if_pos (Nat.eq_of_beq_eq_true hi)]; exact h.h a k⟩
theorem kq_block_far {id id' : Nat} (hi : Nat.beq id' id = false) (h : KQ Q (.exit id') n L w) : KQ (Exit.inBlock id Q) (.exit id') n L w := ⟨fun a k => by
  show if id' = id then Q .normal a w else Q (.exit id') a w
  rw [if_neg (fun e => by rw [e] at hi; simp at hi)]; exact h.h a k⟩
/-- a loop: the relation, over what is known and the world, with a number that goes down -/
def Again (Q : Exit → Act → World → Prop) (I : Nat → Slots → World → Prop) (n m : Nat) : Exit → Act → World → Prop :=
  Exit.then (fun a w' => ∃ m' L', m' < m ∧ I m' L' w' ∧ Kn n L' a) Q
theorem kw_loop {c : Code} (I : Nat → Slots → World → Prop) {m : Nat} (h0 : I m L w) (round : ∀ m L' w', I m L' w' → KW P c (Again Q I n m) n L' w') : KW P (.loop c) Q n L w := ⟨fun a k => by
  classical
  have hex : ∀ (a : Act) (w : World), (∃ m L', I m L' w ∧ Kn n L' a) → ∃ m, (∃ L', I m L' w ∧ Kn n L' a) ∧ ∀ m', (∃ L', I m' L' w ∧ Kn n L' a) → m ≤ m' := by
    intro a w h
    obtain ⟨m, hm⟩ := h
    induction m using Nat.strongRecOn with
    | _ m ih =>
      by_cases hl : ∃ m', m' < m ∧ ∃ L', I m' L' w ∧ Kn n L' a
      · obtain ⟨m', h1, h2⟩ := hl
        exact ih m' h1 h2
      · exact ⟨m, hm, fun m' h' => Nat.le_of_not_lt fun hlt => hl ⟨m', hlt, h'⟩⟩
  let mu : Act → World → Nat := fun a w => if h : ∃ m L', I m L' w ∧ Kn n L' a then Classical.choose (hex a w h) else 0
  refine wp_loop (fun a w => ∃ m L', I m L' w ∧ Kn n L' a) mu ⟨m, L, h0, k⟩ fun a w' hI => ?_
  have hmu : mu a w' = Classical.choose (hex a w' hI) := dif_pos hI
  obtain ⟨⟨L1, hI1, k1⟩, hmin⟩ := Classical.choose_spec (hex a w' hI)
  rw [hmu]
  refine Code.wp_mono (fun e a2 w2 hq => ?_) ((round _ L1 w' hI1).h a k1)
  cases e with
  | normal =>
    obtain ⟨m2, L2, hlt, hI2, k2⟩ := hq
    have h2 : ∃ m L', I m L' w2 ∧ Kn n L' a2 := ⟨m2, L2, hI2, k2⟩
    refine ⟨h2, ?_⟩
    have : mu a2 w2 = Classical.choose (hex a2 w2 h2) := dif_pos h2
    rw [this]
    exact Nat.lt_of_le_of_lt ((Classical.choose_spec (hex a2 w2 h2)).2 m2 ⟨L2, hI2, k2⟩) hlt
  | _ => exact hq⟩
theorem kq_again {I : Nat → Slots → World → Prop} {m : Nat} (m' : Nat) (ts : List Nat) (hlt : m' < m) (hI : I m' (nrm L ts) w) : KQ (Again Q I n m) .normal n L w :=
  ⟨fun a k => ⟨m', _, hlt, hI, k.less ts⟩⟩
theorem kq_again_exit {I : Nat → Slots → World → Prop} {m id : Nat} (h : KQ Q (.exit id) n L w) : KQ (Again Q I n m) (.exit id) n L w := ⟨fun a k => h.h a k⟩
theorem kq_again_ret {I : Nat → Slots → World → Prop} {m : Nat} (h : KQ Q .ret n L w) : KQ (Again Q I n m) .ret n L w := ⟨fun a k => h.h a k⟩

/-! ### operations in their order -/
theorem kw_region {id : Nat} {l : List Oper} (h : KL P l.toArray Q l n L w) : KW P (.region id l.toArray false) Q n L w := ⟨fun a k => wp_region_lit (h.h a k)⟩
variable {ops : Array Oper} {rest : List Oper} {o : Oper}
theorem kl_nil (h : KQ Q .normal n L w) : KL P ops Q [] n L w := ⟨fun a k => h.h a k⟩
/-- what is done with what an operation gives -/
def uponK (P : Program) (K : Value → World → Prop) (N : World → Prop) : Result Next → Prop
  | .ok (.value v) w' => K v w'
  | .ok .skip w' => N w'
  | .ok (.enter f args) w' => Calls P f args w' fun e w'' => ∃ v, e = .returned v ∧ K v w''
  | _ => False
theorem uponK_value (K : Value → World → Prop) (N : World → Prop) (v : Value) (w' : World) : uponK P K N (.ok (.value v) w') = K v w' := rfl
theorem uponK_skip (K : Value → World → Prop) (N : World → Prop) (w' : World) : uponK P K N (.ok .skip w') = N w' := rfl
theorem upon_of {a : Act} {K : Value → World → Prop} {N : World → Prop} {r : Result Next} {next : Act → World → Prop} (hK : ∀ v w', K v w' → next (a.put o.dst v) w') (hN : ∀ w', N w' → next (a.put o.dst undef) w')
    (h : uponK P K N r) : o.upon P a next Q r := by
  cases r with
  | halt _ _ => exact h.elim
  | ok x w' =>
    cases x <;> try exact h.elim
    · exact hK _ _ h
    · exact hN _ h
    · refine Calls.mono h ?_
      rintro e w'' ⟨v, rfl, hv⟩
      exact hK _ _ hv
theorem kl_step {d : Nat} (hd : o.dst = some d) (hg : o.guard = none) (hk : (okop L o.op && Nat.blt d n) = true)
    (h : ∀ K : Value → World → Prop, (∀ v w', KL P ops Q rest n ((d, v) :: L) w' → K v w') → uponK P K (fun _ => False) ((execOp (ev L) o).run P w)) : KL P ops Q (o :: rest) n L w := ⟨fun a k => by
  simp only [Bool.and_eq_true] at hk
  refine wpList_plain hg fun K hK => ?_
  unfold Oper.wp
  rw [k.exec hk.1]
  exact upon_of (fun v w' h' => hK _ _ (by rw [hd]; exact h'.h _ (k.put d v hk.2))) (fun w' h' => h'.elim) (h _ fun v w' h => h)⟩
theorem kl_step0 (hd : o.dst = none) (hg : o.guard = none) (hk : okop L o.op = true)
    (h : ∀ N : World → Prop, (∀ w', KL P ops Q rest n L w' → N w') → uponK P (fun _ w' => N w') N ((execOp (ev L) o).run P w)) : KL P ops Q (o :: rest) n L w := ⟨fun a k => by
  refine wpList_plain hg fun K hK => ?_
  unfold Oper.wp
  rw [k.exec hk]
  exact upon_of (fun v w' h' => hK _ _ (by rw [hd]; exact h'.h _ k)) (fun w' h' => hK _ _ (by rw [hd]; exact h'.h _ k)) (h _ fun w' h => h)⟩
/-! guards -/
def boolOf : Value → Option Bool
  | .bool c => some c
  | _ => none
def gdv (ops : Array Oper) (L : Slots) (g : Option (Nat × Bool)) : Option Bool :=
  match g with
  | none => some true
  | some (j, b) => match (ops[j]?).bind (·.dst) with
    | some e => match lk L e with
      | some (.bool c) => some (c == b)
      | some _ => some false
      | none => none
    | none => none
theorem wanted_of {a : Act} (k : Kn n L a) {b : Bool} (h : gdv ops L o.guard = some b) : Region.wanted o (yielded ops a.tmps) = b := by
  unfold Region.wanted
  cases hg : o.guard with
  | none => rw [hg] at h; simp [gdv] at h; simp [h]
  | some jb =>
    obtain ⟨j, b'⟩ := jb
    rw [hg] at h
    simp only [gdv] at h
    cases he : (ops[j]?).bind (·.dst) with
    | none => rw [he] at h; simp at h
    | some e =>
      rw [he] at h
      simp only at h
      cases hl : lk L e with
      | none => rw [hl] at h; simp at h
      | some v =>
        rw [hl] at h
        have ht : a.tmps[e]?.getD undef = v := by
          have := k.all e _ hl
          rwa [Array.getD_eq_getD_getElem?] at this
        have hyd : yielded ops a.tmps j = boolOf v := by
          unfold yielded
          rw [he]
          simp only [Option.bind_some]
          cases hq : a.tmps[e]? with
          | none =>
            rw [hq] at ht
            simp only [Option.getD_none] at ht
            rw [← ht]
            rfl
          | some x =>
            rw [hq] at ht
            simp only [Option.getD_some] at ht
            rw [← ht]
            cases x <;> rfl
        simp only [hyd]
        clear hyd ht hl
        cases v <;> simp [boolOf] at h ⊢ <;> first | exact h | (rename_i c; rw [← h]; cases c <;> cases b' <;> rfl) | skip
theorem kl_ung {jb : Nat × Bool} (hg : o.guard = some jb) (hw : gdv ops L (some jb) = some true) (h : KL P ops Q (⟨o.dst, o.op, o.type, o.pos, o.after, none⟩ :: rest) n L w) : KL P ops Q (o :: rest) n L w := ⟨fun a k => by
  have h' := h.h a k
  have hwt : Region.wanted o (yielded ops a.tmps) = true := wanted_of k (by rw [hg]; exact hw)
  obtain ⟨dst, op, type, pos, after, guard⟩ := o
  unfold wpList at h' ⊢
  rw [if_pos (by simp [Region.wanted])] at h'
  rw [if_pos hwt]
  exact h'⟩
theorem kl_skipg {d : Nat} {jb : Nat × Bool} (hg : o.guard = some jb) (hw : gdv ops L (some jb) = some false) (hd : o.dst = some d) (hn : Nat.blt d n = true) (h : KL P ops Q rest n ((d, undef) :: L) w) : KL P ops Q (o :: rest) n L w := ⟨fun a k => by
  have hwt : Region.wanted o (yielded ops a.tmps) = false := wanted_of k (by rw [hg]; exact hw)
  refine wpList_step fun K hK => ?_
  rw [if_neg (by rw [hwt]; simp)]
  exact hK _ _ (by rw [hd]; exact h.h _ (k.put d undef hn))⟩
theorem kl_skipg0 {jb : Nat × Bool} (hg : o.guard = some jb) (hw : gdv ops L (some jb) = some false) (hd : o.dst = none) (h : KL P ops Q rest n L w) : KL P ops Q (o :: rest) n L w := ⟨fun a k => by
  have hwt : Region.wanted o (yielded ops a.tmps) = false := wanted_of k (by rw [hg]; exact hw)
  refine wpList_step fun K hK => ?_
  rw [if_neg (by rw [hwt]; simp)]
  exact hK _ _ (by rw [hd]; exact h.h _ k)⟩
/-- an operation whose run is known -/
theorem kl_run {d : Nat} {v : Value} {w' : World} (hd : o.dst = some d) (hg : o.guard = none) (hk : (okop L o.op && Nat.blt d n) = true)
    (hr : (execOp (ev L) o).run P w = .ok (.value v) w') (h : KL P ops Q rest n ((d, v) :: L) w') : KL P ops Q (o :: rest) n L w :=
  kl_step hd hg hk fun K hK => by rw [hr]; exact hK _ _ h
/-- a move -/
theorem kl_move {d t : Nat} {v : Value} (hd : o.dst = some d) (hg : o.guard = none) (ho : o.op = .move (.tmp t) ∨ o.op = .assign (.tmp t)) (hv : lk L t = some v) (hn : Nat.blt d n = true)
    (h : KL P ops Q rest n ((d, v) :: L) w) : KL P ops Q (o :: rest) n L w := by
  have hx : okx L (.tmp t) = true := by simp [okx, hv]
  refine kl_run hd hg (v := v) (w' := w) ?_ ?_ h
  · rcases ho with ho | ho <;> simp [ho, okop, hx, hn]
  · have he : ev L (.tmp t) = v := by simp [ev, hv]
    rcases ho with ho | ho <;> simp [execOp, ho, he, Sem.run_pure]
theorem kl_const {d : Nat} {v : Value} (hd : o.dst = some d) (hg : o.guard = none) (ho : o.op = .move (.const v) ∨ o.op = .assign (.const v)) (hn : Nat.blt d n = true)
    (h : KL P ops Q rest n ((d, v) :: L) w) : KL P ops Q (o :: rest) n L w := by
  refine kl_run hd hg (v := v) (w' := w) ?_ ?_ h
  · rcases ho with ho | ho <;> simp [ho, okop, okx, hn]
  · rcases ho with ho | ho <;> simp [execOp, ho, Sem.run_pure, ev]
/-- a call of a Go function -/
theorem kl_call {d : Nat} {f : FuncId} {fn : Func} {c : Code} {xs : List Operand} {ts : Array TypeId} (hd : o.dst = some d) (hg : o.guard = none) (ho : o.op = .call { callee := .value (.func f), args := xs.toArray, argTypes := ts })
    (hf : P.funcs[f]? = some fn) (hb : fn.body = some c) (hn : (fn.name == "runtime.NumGoroutine") = false) (hk : (xs.all (okx L) && Nat.blt d n) = true)
    (h : Calls P f (xs.map (ev L)).toArray w fun e w' => ∃ v, e = .returned v ∧ KL P ops Q rest n ((d, v) :: L) w') : KL P ops Q (o :: rest) n L w := by
  have hk' := hk
  simp only [Bool.and_eq_true] at hk'
  refine kl_step hd hg ?_ fun K hK => ?_
  · simp only [ho, okop, okx, Bool.and_eq_true, Bool.and_true]
    exact ⟨hk'.1, hk'.2⟩
  · have he : execOp (ev L) o = callFunc f (#[] ++ xs.toArray.map (ev L) ++ #[]) := by
      obtain ⟨dst, op, type, pos, after, guard⟩ := o
      subst ho
      rfl
    rw [he, run_callFunc hf hb hn]
    simp only [Array.empty_append, Array.append_empty, List.map_toArray]
    refine Calls.mono h ?_
    rintro e w'' ⟨v, rfl, hv⟩
    exact ⟨v, rfl, hK _ _ hv⟩
end

/-! ### to and from the laws at a list of operations -/
section
variable {P : Program} {Q : Exit → Act → World → Prop} {n : Nat} {L : Slots} {w : World} {ops : Array Oper} {rest : List Oper} {o : Oper}
theorem Kn.ev {a : Act} {t : Nat} {v : Value} (k : Kn n L a) (h : lk L t = some v) : a.eval (.tmp t) = v := k.all t v h
theorem kl_back {a : Act} {d : Nat} {v : Value} (k : Kn n L a) (hd : o.dst = some d) (hn : Nat.blt d n = true) (h : KL P ops Q rest n ((d, v) :: L) w) : wpList P ops Q rest (a.put o.dst v) w := by
  rw [hd]; exact h.h _ (k.put d v hn)
theorem kl_back0 {a : Act} {v : Value} (k : Kn n L a) (hd : o.dst = none) (h : KL P ops Q rest n L w) : wpList P ops Q rest (a.put o.dst v) w := by
  rw [hd]; exact h.h _ k
end

/-! ### a function -/
theorem kn_enter (args : List Value) (m : Nat) (L : Slots) (hL : (L = (List.range args.length).zip args)) : Kn (args.length + m) L { tmps := args.toArray ++ Array.replicate m undef, defers := [] } := by
  subst hL
  refine ⟨by simp, rfl, fun t v h => ?_⟩
  have key : ∀ (l : List Value) (k : Nat), lk ((List.range' k l.length).zip l) t = some v → k ≤ t ∧ l[t - k]? = some v := by
    intro l
    induction l with
    | nil => intro k h; simp [lk] at h
    | cons x l ih =>
      intro k h
      simp only [List.length_cons, List.range'_succ, List.zip_cons_cons, lk] at h
      cases hb : k == t with
      | true =>
        rw [hb] at h
        have := (beq_iff_eq.1 hb)
        subst this
        simp at h
        subst h
        simp
      | false =>
        rw [hb] at h
        obtain ⟨h1, h2⟩ := ih (k + 1) h
        refine ⟨by omega, ?_⟩
        rw [show t - k = (t - (k + 1)) + 1 by omega]
        simpa using h2
  rw [List.range_eq_range'] at h
  obtain ⟨_, h2⟩ := key args 0 h
  simp at h2
  have hlt : t < args.length := (List.getElem?_eq_some_iff.1 h2).1
  rw [Array.getD_eq_getD_getElem?, Array.getElem?_append_left (by simpa using hlt)]
  simp [h2]
theorem calls_kw {P : Program} {f : FuncId} {fn : Func} {c : Code} {args : List Value} {w : World} {R : Ending → World → Prop} (hf : P.funcs[f]? = some fn) (hb : fn.body = some c) {n : Nat} (hn : fn.ntmps = n) (hle : Nat.ble args.length n = true)
    (L : Slots) (hL : L = (List.range args.length).zip args) (h : KW P c (bodyPost P fn R) n L w) : Calls P f args.toArray w R := by
  have hle' := Nat.le_of_ble_eq_true hle
  refine calls_of_wp hf hb (h.h _ ?_)
  have := kn_enter args (n - args.length) L hL
  rw [show args.length + (n - args.length) = n by omega] at this
  rw [hn]
  simpa using this
section
variable {P : Program} {fn : Func} {R : Ending → World → Prop} {n : Nat} {L : Slots} {w : World}
/-- one result, in a slot -/
theorem kq_ret1 {t : Tmp} {v : Value} (hr : fn.results = #[.tmp t]) (hv : lk L t = some v) (hR : R (.returned v) w) : KQ (bodyPost P fn R) .ret n L w := ⟨fun a k =>
  bodyPost_ret (results_tmp hr _ _ _) k.def_ (by rw [k.all t v hv]; exact hR)⟩
theorem kq_ret2 {t u : Tmp} {v v' : Value} (hr : fn.results = #[.tmp t, .tmp u]) (hv : lk L t = some v) (hv' : lk L u = some v') (hR : R (.returned (.tuple #[v, v'])) w) : KQ (bodyPost P fn R) .ret n L w := ⟨fun a k =>
  bodyPost_ret (results_tmp2 hr _ _ _) k.def_ (by rw [k.all t v hv, k.all u v' hv']; exact hR)⟩
theorem kq_ret0 (hr : fn.results = #[]) (hR : R (.returned (.tuple #[])) w) : KQ (bodyPost P fn R) .ret n L w := ⟨fun a k => bodyPost_ret (results_none hr _ _ _) k.def_ hR⟩
theorem kq_end0 (hr : fn.results = #[]) (hR : R (.returned (.tuple #[])) w) : KQ (bodyPost P fn R) .normal n L w := ⟨fun a k => bodyPost_end (results_none hr _ _ _) k.def_ hR⟩
end

/-! ### regions that draw their order, over what is known -/
section
variable {P : Program} {ops : List Oper} {Q : Exit → Act → World → Prop} {n : Nat} {L : Slots} {w : World} {Ss : List (World → Value → Prop)}
/-- sources: known ahead of the region (its value), or an operation's of the region -/
def SrcK (L : Slots) (Ss : List (World → Value → Prop)) (A : Act) (W : World) : List (Nat × Option Nat) → Prop
  | [] => True
  | (t, none) :: r => (∀ v, lk L t = some v → A.tmps[t]?.getD undef = v) ∧ SrcK L Ss A W r
  | (t, some j) :: r => SL Ss j W (A.tmps[t]?.getD undef) ∧ SrcK L Ss A W r
/-- an operation of such a region -/
def VK (P : Program) (L : Slots) (Ss : List (World → Value → Prop)) (w : World) (src : List (Nat × Option Nat)) (i : Nat) (o : Oper) : Prop :=
  ∀ (A : Act) (W : World) (N : Value → World → Prop), Below w.heap.size w W → SrcK L Ss A W src → (∀ v W', Below W.heap.size W W' → SL Ss i W' v → N v W') →
    if Region.wanted o (yielded ops.toArray A.tmps) = true then uponK P N (fun W' => N undef W') ((execOp A.eval o).run P W) else N undef W
def VKs (P : Program) (ops : List Oper) (L : Slots) (Ss : List (World → Value → Prop)) (w : World) : Nat → List (List (Nat × Option Nat)) → List Oper → Prop
  | _, _, [] => True
  | i, srcs, o :: rest => VK (ops := ops) P L Ss w (srcs.headD []) i o ∧ VKs P ops L Ss w (i + 1) srcs.tail rest
/-- the slots that stay known -/
def allIn (L L' : Slots) (hops : List Oper) : Bool := L'.all fun p => noDst hops p.1
theorem Kn.slot {a : Act} (k : Kn n L a) (t : Nat) {v : Value} (h : lk L t = some v) : a.tmps.getD t undef = v := k.all t v h
/-- what is said of each operation: nothing yet (its value is found on the way), or this -/
def ExS : List (Option (World → Value → Prop)) → (List (World → Value → Prop) → Prop) → Prop
  | [], F => F []
  | none :: r, F => ∃ v, ExS r (fun l => F (Is v :: l))
  | some p :: r, F => ExS r (fun l => F (p :: l))
def MonoO : List (Option (World → Value → Prop)) → Prop
  | [] => True
  | none :: r => MonoO r
  | some p :: r => MonoP p ∧ MonoO r
/-- a slot of the region becomes known -/
theorem Kn.more {a : Act} (h : Kn n L a) (d : Nat) (v : Value) (hv : a.tmps[d]?.getD undef = v) : Kn n ((d, v) :: L) a := ⟨h.size, h.def_, fun t u ht => by
  simp only [lk] at ht
  cases hb : d == t with
  | true => rw [hb] at ht; simp at ht; subst ht; rw [← (beq_iff_eq.1 hb), Array.getD_eq_getD_getElem?]; exact hv
  | false => rw [hb] at ht; exact h.all t u ht⟩
variable {src : List (Nat × Option Nat)} {i : Nat} {o : Oper}
/-- what it reads as a frame that is known -/
def evs (A : Act) : List Nat → Slots := fun ts => ts.map fun t => (t, A.tmps[t]?.getD undef)
end
end Go.Proofs.Ytcpifcdndhhmgaa
