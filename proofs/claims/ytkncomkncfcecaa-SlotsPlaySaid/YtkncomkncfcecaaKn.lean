/- A walk over a frame of which only the slots that are named are known: the cost of a step hangs on these alone, however wide the frame is. No program in sight. -/
import Derived.Test.YtkncomkncfcecaaRegion
set_option linter.unusedVariables false
set_option linter.unusedSimpArgs false
namespace Go.Proofs.Ytkncomkncfcecaa
open Go.RowKit
/-! ### what is known of slots -/
abbrev Slots := List (Nat × Value)
def lk : Slots → Nat → Option Value
  | [], _ => none
  | (a, v) :: L, t => bif a == t then some v else lk L t
def ev (L : Slots) : Operand → Value
  | .tmp t => (lk L t).getD undef
  | .const v => v
  | .global g => .pointer (some ⟨g, 0, none⟩)
  | .func f => .func (.func f) #[] #[]
structure Kn (n : Nat) (L : Slots) (a : Act) : Prop where
  size : a.tmps.size = n
  def_ : a.defers = []
  all : ∀ t v, lk L t = some v → a.tmps.getD t undef = v
theorem Yy (L : Slots) (t : Nat) (v : Value) : lk ((t, v) :: L) t = some v := by simp [lk]
theorem Yo (L : Slots) (a t : Nat) (v : Value) (h : (a == t) = false) : lk ((a, v) :: L) t = lk L t := by simp [lk, h]
theorem Yi (A : Act) (t : Nat) : look A (.tmp t) = A.tmps[t]?.getD undef := rfl
theorem ZN (A : Act) (v : Value) : look A (.const v) = v := rfl
theorem ZH (A : Act) (g : Nat) : look A (.global g) = .pointer (some ⟨g, 0, none⟩) := rfl
theorem ZU (A : Act) (f : Nat) : look A (.func f) = .func (.func f) #[] #[] := rfl
theorem Y1 (L : Slots) (t : Nat) : ev L (.tmp t) = (lk L t).getD undef := rfl
theorem Yl (L : Slots) (v : Value) : ev L (.const v) = v := rfl
theorem ZT (L : Slots) (g : Nat) : ev L (.global g) = .pointer (some ⟨g, 0, none⟩) := rfl
theorem Yp (L : Slots) (f : Nat) : ev L (.func f) = .func (.func f) #[] #[] := rfl
def okx (L : Slots) : Operand → Bool
  | .tmp t => (lk L t).isSome
  | _ => true
theorem Kn.eval {n : Nat} {L : Slots} {a : Act} (h : Kn n L a) {x : Operand} (hx : okx L x = true) : a.eval x = ev L x := by
  cases x with
  | tmp t =>
    simp only [okx, Option.isSome_iff_exists] at hx
    obtain ⟨v, hv⟩ := hx
    show a.tmps.getD t undef = (lk L t).getD undef
    rw [hv, h.all t v hv]; rfl
  | _ => rfl
def okop (L : Slots) : Op → Bool
  | .move x | .assign x => okx L x
  | .pick c a b => okx L c && okx L a && okx L b
  | .alloc _ => false
  | .box _ x => okx L x
  | .build _ ps | .buildSlice _ _ ps => ps.toList.all fun p => okx L p.2
  | .load _ x => okx L x
  | .store _ x y => okx L x && okx L y
  | .nilCheck x => okx L x
  | .binOp _ _ x y _ => okx L x && okx L y
  | .unOp _ _ x => okx L x
  | .convert _ _ x => okx L x
  | .makeInterface _ x => okx L x
  | .makeSlice _ x y => okx L x && okx L y
  | .makeFunc _ ps qs => ps.toList.all (okx L) && qs.toList.all (okx L)
  | .slice _ x l h m => okx L x && l.all (okx L) && h.all (okx L) && m.all (okx L)
  | .fieldAddr _ x _ | .field _ x _ => okx L x
  | .indexAddr _ x y | .index _ x y => okx L x && okx L y
  | .range _ x | .next x _ | .extract x _ => okx L x
  | .call c => c.args.toList.all (okx L) && (match c.callee with | .value f => okx L f | .invoke r _ => okx L r | .builtin _ => true)
  | _ => false
theorem map_eval {n : Nat} {L : Slots} {a : Act} (h : Kn n L a) (xs : Array Operand) (hx : xs.toList.all (okx L) = true) : xs.map a.eval = xs.map (ev L) := by
  apply Array.ext'
  simp only [Array.toList_map]
  apply List.map_congr_left
  intro x hm
  exact h.eval (List.all_eq_true.1 hx x hm)
theorem map_eval2 {n : Nat} {L : Slots} {a : Act} (h : Kn n L a) (xs : Array (Nat × Operand)) (hx : (xs.toList.all fun p => okx L p.2) = true) :
    (xs.map fun (i, x) => (i, a.eval x)) = xs.map fun (i, x) => (i, ev L x) := by
  apply Array.ext'
  simp only [Array.toList_map]
  apply List.map_congr_left
  intro x hm
  have := h.eval (List.all_eq_true.1 hx x hm)
  rw [this]
theorem omap_eval {n : Nat} {L : Slots} {a : Act} (h : Kn n L a) (x : Option Operand) (hx : x.all (okx L) = true) : x.map a.eval = x.map (ev L) := by
  cases x with
  | none => rfl
  | some x => exact congrArg some (h.eval hx)
theorem Kn.exec {n : Nat} {L : Slots} {a : Act} (h : Kn n L a) {o : Oper} (ho : okop L o.op = true) : execOp a.eval o = execOp (ev L) o := by
  obtain ⟨dst, op, type, pos, after, guard⟩ := o
  cases op <;> simp only [okop, Bool.and_eq_true, Bool.false_eq_true] at ho <;> try (simp only [execOp, h.eval ho]; done)
  all_goals first
    | rfl
    | (obtain ⟨h1, h2⟩ := ho; simp only [execOp, h.eval h1, h.eval h2]; done)
    | (obtain ⟨⟨h1, h2⟩, h3⟩ := ho; simp only [execOp, h.eval h1, h.eval h2, h.eval h3]; done)
    | (simp only [execOp]; rw [map_eval2 h _ ho]; done)
    | (obtain ⟨h1, h2⟩ := ho; simp only [execOp]; rw [map_eval h _ h1, map_eval h _ h2]; done)
    | (obtain ⟨⟨⟨h1, h2⟩, h3⟩, h4⟩ := ho; simp only [execOp, h.eval h1]; rw [omap_eval h _ h2, omap_eval h _ h3, omap_eval h _ h4]; done)
    | skip
  case call c =>
    obtain ⟨callee, args, ts⟩ := c
    obtain ⟨h1, h2⟩ := ho
    have hm := map_eval h args h1
    cases callee with
    | value f => simp only [execOp, resolve, hm, h.eval h2]
    | invoke r nm => simp only [execOp, resolve, hm, h.eval h2]
    | builtin b => simp only [execOp, resolve, hm]
theorem Kn.put {n : Nat} {L : Slots} {a : Act} (h : Kn n L a) (d : Nat) (v : Value) (hd : Nat.blt d n = true) : Kn n ((d, v) :: L) (a.put (some d) v) := by
  have hd' : d < n := by simpa using hd
  refine ⟨by simp [Act.put, h.size], h.def_, fun t u ht => ?_⟩
  simp only [lk] at ht
  by_cases hdt : d = t
  · subst hdt
    simp at ht
    subst ht
    exact XW a d _ (by rw [h.size]; exact hd')
  · have : (d == t) = false := beq_eq_false_iff_ne.2 hdt
    rw [this] at ht
    rw [X1 a d t v hdt]
    exact h.all t u ht
def nrm (L : Slots) : List Nat → Slots
  | [] => []
  | t :: ts => match lk L t with
    | some v => (t, v) :: nrm L ts
    | none => nrm L ts
theorem lk_nrm (L : Slots) (ts : List Nat) (t : Nat) (v : Value) (h : lk (nrm L ts) t = some v) : lk L t = some v := by
  induction ts with
  | nil => simp [nrm, lk] at h
  | cons s ts ih =>
    simp only [nrm] at h
    cases hs : lk L s with
    | none => rw [hs] at h; exact ih h
    | some u =>
      rw [hs] at h
      simp only [lk] at h
      cases hb : s == t with
      | false => rw [hb] at h; exact ih h
      | true =>
        rw [hb] at h
        simp at h
        rw [← (beq_iff_eq.1 hb), hs, h]
theorem Kn.less {n : Nat} {L : Slots} {a : Act} (h : Kn n L a) (ts : List Nat) : Kn n (nrm L ts) a := ⟨h.size, h.def_, fun t v ht => h.all t v (lk_nrm L ts t v ht)⟩
/-! ### code -/
structure KW (P : Program) (c : Code) (Q : Exit → Act → World → Prop) (n : Nat) (L : Slots) (w : World) : Prop where
  h : ∀ a, Kn n L a → Code.wp P c Q a w
structure KQ (Q : Exit → Act → World → Prop) (e : Exit) (n : Nat) (L : Slots) (w : World) : Prop where
  h : ∀ a, Kn n L a → Q e a w
structure KL (P : Program) (ops : Array Oper) (Q : Exit → Act → World → Prop) (l : List Oper) (n : Nat) (L : Slots) (w : World) : Prop where
  h : ∀ a, Kn n L a → wpList P ops Q l a w
section
variable {P : Program} {Q : Exit → Act → World → Prop} {n : Nat} {L : Slots} {w : World}
theorem KW.less {c : Code} (ts : List Nat) (h : KW P c Q n (nrm L ts) w) : KW P c Q n L w := ⟨fun a k => h.h a (k.less ts)⟩
theorem KQ.less {e : Exit} (ts : List Nat) (h : KQ Q e n (nrm L ts) w) : KQ Q e n L w := ⟨fun a k => h.h a (k.less ts)⟩
theorem KL.less {ops : Array Oper} {l : List Oper} (ts : List Nat) (h : KL P ops Q l n (nrm L ts) w) : KL P ops Q l n L w := ⟨fun a k => h.h a (k.less ts)⟩
theorem Zv {x y : Code} (h : KW P x (Exit.then (y.wp P Q) Q) n L w) : KW P (.seq x y) Q n L w := ⟨fun a k => wp_seq (h.h a k)⟩
theorem Zu (h : KQ Q .normal n L w) : KW P .skip Q n L w := ⟨fun a k => wp_skip (h.h a k)⟩
theorem Z3 (h : KQ Q .ret n L w) : KW P .ret Q n L w := ⟨fun a k => wp_ret (h.h a k)⟩
theorem Zw {id : Nat} (h : KQ Q (.exit id) n L w) : KW P (.exit id) Q n L w := ⟨fun a k => wp_exit (h.h a k)⟩
theorem Zs {id : Nat} {c : Code} (h : KW P c (Exit.inBlock id Q) n L w) : KW P (.block id c) Q n L w := ⟨fun a k => wp_block (h.h a k)⟩
theorem Zy {t : Tmp} {x y : Code} (hc : lk L t = some (.bool true)) (h : KW P x Q n L w) : KW P (.cond (.tmp t) x y) Q n L w := ⟨fun a k => wp_cond_true (k.all t _ hc) (h.h a k)⟩
theorem Zx {t : Tmp} {x y : Code} (hc : lk L t = some (.bool false)) (h : KW P y Q n L w) : KW P (.cond (.tmp t) x y) Q n L w := ⟨fun a k => wp_cond_false (k.all t _ hc) (h.h a k)⟩
theorem Zm {x : Code} (h : KW P x Q n L w) : KQ (Exit.then (x.wp P Q) Q) .normal n L w := ⟨fun a k => h.h a k⟩
theorem Zk {N : Act → World → Prop} (h : KQ Q .ret n L w) : KQ (Exit.then N Q) .ret n L w := ⟨fun a k => h.h a k⟩
theorem Zf {N : Act → World → Prop} {id : Nat} (h : KQ Q (.exit id) n L w) : KQ (Exit.then N Q) (.exit id) n L w := ⟨fun a k => h.h a k⟩
theorem Zp {id : Nat} (h : KQ Q .normal n L w) : KQ (Exit.inBlock id Q) .normal n L w := ⟨fun a k => h.h a k⟩
theorem Zg {id : Nat} (h : KQ Q .ret n L w) : KQ (Exit.inBlock id Q) .ret n L w := ⟨fun a k => h.h a k⟩
theorem Zd {id id' : Nat} (hi : Nat.beq id' id = true) (h : KQ Q .normal n L w) : KQ (Exit.inBlock id Q) (.exit id') n L w := ⟨fun a k => by
  show if id' = id then Q .normal a w else Q (.exit id') a w
  rw [if_pos (Nat.eq_of_beq_eq_true hi)]; exact h.h a k⟩
theorem Zj {id id' : Nat} (hi : Nat.beq id' id = false) (h : KQ Q (.exit id') n L w) : KQ (Exit.inBlock id Q) (.exit id') n L w := ⟨fun a k => by
  show if id' = id then Q .normal a w else Q (.exit id') a w
  rw [if_neg (fun e => by rw [e] at hi; simp at hi)]; exact h.h a k⟩
def Again (Q : Exit → Act → World → Prop) (I : Nat → Slots → World → Prop) (n m : Nat) : Exit → Act → World → Prop :=
  Exit.then (fun a w' => ∃ m' L', m' < m ∧ I m' L' w' ∧ Kn n L' a) Q
theorem Yw {c : Code} (I : Nat → Slots → World → Prop) {m : Nat} (h0 : I m L w) (round : ∀ m L' w', I m L' w' → KW P c (Again Q I n m) n L' w') : KW P (.loop c) Q n L w := ⟨fun a k => by
  classical
  have hex : ∀ (a : Act) (w : World), (∃ m L', I m L' w ∧ Kn n L' a) → ∃ m, (∃ L', I m L' w ∧ Kn n L' a) ∧ ∀ m', (∃ L', I m' L' w ∧ Kn n L' a) → m ≤ m' := by
    intro a w h
    obtain ⟨m, hm⟩ := h
    induction m using Nat.strongRecOn with
    | _ m ih =>
      by_cases hl : ∃ m', m' < m ∧ ∃ L', I m' L' w ∧ Kn n L' a
      · obtain ⟨m', h1, h2⟩ := hl
        exact ih m' h1 h2
      · exact ⟨m, hm, fun m' h' => Nat.le_of_not_lt fun hlt => hl ⟨m', hlt, h'⟩⟩
  let mu : Act → World → Nat := fun a w => if h : ∃ m L', I m L' w ∧ Kn n L' a then Classical.choose (hex a w h) else 0
  refine wp_loop (fun a w => ∃ m L', I m L' w ∧ Kn n L' a) mu ⟨m, L, h0, k⟩ fun a w' hI => ?_
  have hmu : mu a w' = Classical.choose (hex a w' hI) := dif_pos hI
  obtain ⟨⟨L1, hI1, k1⟩, hmin⟩ := Classical.choose_spec (hex a w' hI)
  rw [hmu]
  refine Code.wp_mono (fun e a2 w2 hq => ?_) ((round _ L1 w' hI1).h a k1)
  cases e with
  | normal =>
    obtain ⟨m2, L2, hlt, hI2, k2⟩ := hq
    have h2 : ∃ m L', I m L' w2 ∧ Kn n L' a2 := ⟨m2, L2, hI2, k2⟩
    refine ⟨h2, ?_⟩
    have : mu a2 w2 = Classical.choose (hex a2 w2 h2) := dif_pos h2
    rw [this]
    exact Nat.lt_of_le_of_lt ((Classical.choose_spec (hex a2 w2 h2)).2 m2 ⟨L2, hI2, k2⟩) hlt
  | _ => exact hq⟩
theorem Yk {I : Nat → Slots → World → Prop} {m : Nat} (m' : Nat) (ts : List Nat) (hlt : m' < m) (hI : I m' (nrm L ts) w) : KQ (Again Q I n m) .normal n L w :=
  ⟨fun a k => ⟨m', _, hlt, hI, k.less ts⟩⟩
theorem Ze {I : Nat → Slots → World → Prop} {m id : Nat} (h : KQ Q (.exit id) n L w) : KQ (Again Q I n m) (.exit id) n L w := ⟨fun a k => h.h a k⟩
theorem Zi {I : Nat → Slots → World → Prop} {m : Nat} (h : KQ Q .ret n L w) : KQ (Again Q I n m) .ret n L w := ⟨fun a k => h.h a k⟩
/-! ### operations in their order -/
theorem Zc {id : Nat} {l : List Oper} (h : KL P l.toArray Q l n L w) : KW P (.region id l.toArray false) Q n L w := ⟨fun a k => wp_region_lit (h.h a k)⟩
variable {ops : Array Oper} {rest : List Oper} {o : Oper}
theorem Zq (h : KQ Q .normal n L w) : KL P ops Q [] n L w := ⟨fun a k => h.h a k⟩
def uponK (P : Program) (K : Value → World → Prop) (N : World → Prop) : Result Next → Prop
  | .ok (.value v) w' => K v w'
  | .ok .skip w' => N w'
  | .ok (.enter f args) w' => Calls P f args w' fun e w'' => ∃ v, e = .returned v ∧ K v w''
  | _ => False
theorem ZI (K : Value → World → Prop) (N : World → Prop) (v : Value) (w' : World) : uponK P K N (.ok (.value v) w') = K v w' := rfl
theorem ZO (K : Value → World → Prop) (N : World → Prop) (w' : World) : uponK P K N (.ok .skip w') = N w' := rfl
theorem upon_of {a : Act} {K : Value → World → Prop} {N : World → Prop} {r : Result Next} {next : Act → World → Prop} (hK : ∀ v w', K v w' → next (a.put o.dst v) w') (hN : ∀ w', N w' → next (a.put o.dst undef) w')
    (h : uponK P K N r) : o.upon P a next Q r := by
  cases r with
  | halt _ _ => exact h.elim
  | ok x w' =>
    cases x <;> try exact h.elim
    · exact hK _ _ h
    · exact hN _ h
    · refine Calls.mono h ?_
      rintro e w'' ⟨v, rfl, hv⟩
      exact hK _ _ hv
theorem Zn {d : Nat} (hd : o.dst = some d) (hg : o.guard = none) (hk : (okop L o.op && Nat.blt d n) = true)
    (h : ∀ K : Value → World → Prop, (∀ v w', KL P ops Q rest n ((d, v) :: L) w' → K v w') → uponK P K (fun _ => False) ((execOp (ev L) o).run P w)) : KL P ops Q (o :: rest) n L w := ⟨fun a k => by
  simp only [Bool.and_eq_true] at hk
  refine wpList_plain hg fun K hK => ?_
  unfold Oper.wp
  rw [k.exec hk.1]
  exact upon_of (fun v w' h' => hK _ _ (by rw [hd]; exact h'.h _ (k.put d v hk.2))) (fun w' h' => h'.elim) (h _ fun v w' h => h)⟩
theorem Zh (hd : o.dst = none) (hg : o.guard = none) (hk : okop L o.op = true)
    (h : ∀ N : World → Prop, (∀ w', KL P ops Q rest n L w' → N w') → uponK P (fun _ w' => N w') N ((execOp (ev L) o).run P w)) : KL P ops Q (o :: rest) n L w := ⟨fun a k => by
  refine wpList_plain hg fun K hK => ?_
  unfold Oper.wp
  rw [k.exec hk]
  exact upon_of (fun v w' h' => hK _ _ (by rw [hd]; exact h'.h _ k)) (fun w' h' => hK _ _ (by rw [hd]; exact h'.h _ k)) (h _ fun w' h => h)⟩
/-! guards -/
def boolOf : Value → Option Bool
  | .bool c => some c
  | _ => none
def gdv (ops : Array Oper) (L : Slots) (g : Option (Nat × Bool)) : Option Bool :=
  match g with
  | none => some true
  | some (j, b) => match (ops[j]?).bind (·.dst) with
    | some e => match lk L e with
      | some (.bool c) => some (c == b)
      | some _ => some false
      | none => none
    | none => none
theorem Wn {a : Act} (k : Kn n L a) {b : Bool} (h : gdv ops L o.guard = some b) : Region.wanted o (yielded ops a.tmps) = b := by
  unfold Region.wanted
  cases hg : o.guard with
  | none => rw [hg] at h; simp [gdv] at h; simp [h]
  | some jb =>
    obtain ⟨j, b'⟩ := jb
    rw [hg] at h
    simp only [gdv] at h
    cases he : (ops[j]?).bind (·.dst) with
    | none => rw [he] at h; simp at h
    | some e =>
      rw [he] at h
      simp only at h
      cases hl : lk L e with
      | none => rw [hl] at h; simp at h
      | some v =>
        rw [hl] at h
        have ht : a.tmps[e]?.getD undef = v := by
          have := k.all e _ hl
          rwa [Array.getD_eq_getD_getElem?] at this
        have hyd : yielded ops a.tmps j = boolOf v := by
          unfold yielded
          rw [he]
          simp only [Option.bind_some]
          cases hq : a.tmps[e]? with
          | none =>
            rw [hq] at ht
            simp only [Option.getD_none] at ht
            rw [← ht]
            rfl
          | some x =>
            rw [hq] at ht
            simp only [Option.getD_some] at ht
            rw [← ht]
            cases x <;> rfl
        simp only [hyd]
        clear hyd ht hl
        cases v <;> simp [boolOf] at h ⊢ <;> first | exact h | (rename_i c; rw [← h]; cases c <;> cases b' <;> rfl) | skip
theorem Zz {jb : Nat × Bool} (hg : o.guard = some jb) (hw : gdv ops L (some jb) = some true) (h : KL P ops Q (⟨o.dst, o.op, o.type, o.pos, o.after, none⟩ :: rest) n L w) : KL P ops Q (o :: rest) n L w := ⟨fun a k => by
  have h' := h.h a k
  have hwt : Region.wanted o (yielded ops a.tmps) = true := Wn k (by rw [hg]; exact hw)
  obtain ⟨dst, op, type, pos, after, guard⟩ := o
  unfold wpList at h' ⊢
  rw [if_pos (by simp [Region.wanted])] at h'
  rw [if_pos hwt]
  exact h'⟩
theorem Zt {d : Nat} {jb : Nat × Bool} (hg : o.guard = some jb) (hw : gdv ops L (some jb) = some false) (hd : o.dst = some d) (hn : Nat.blt d n = true) (h : KL P ops Q rest n ((d, undef) :: L) w) : KL P ops Q (o :: rest) n L w := ⟨fun a k => by
  have hwt : Region.wanted o (yielded ops a.tmps) = false := Wn k (by rw [hg]; exact hw)
  refine wpList_step fun K hK => ?_
  rw [if_neg (by rw [hwt]; simp)]
  exact hK _ _ (by rw [hd]; exact h.h _ (k.put d undef hn))⟩
theorem Zr {jb : Nat × Bool} (hg : o.guard = some jb) (hw : gdv ops L (some jb) = some false) (hd : o.dst = none) (h : KL P ops Q rest n L w) : KL P ops Q (o :: rest) n L w := ⟨fun a k => by
  have hwt : Region.wanted o (yielded ops a.tmps) = false := Wn k (by rw [hg]; exact hw)
  refine wpList_step fun K hK => ?_
  rw [if_neg (by rw [hwt]; simp)]
  exact hK _ _ (by rw [hd]; exact h.h _ k)⟩
theorem kl_run {d : Nat} {v : Value} {w' : World} (hd : o.dst = some d) (hg : o.guard = none) (hk : (okop L o.op && Nat.blt d n) = true)
    (hr : (execOp (ev L) o).run P w = .ok (.value v) w') (h : KL P ops Q rest n ((d, v) :: L) w') : KL P ops Q (o :: rest) n L w :=
  Zn hd hg hk fun K hK => by rw [hr]; exact hK _ _ h
theorem Zb {d t : Nat} {v : Value} (hd : o.dst = some d) (hg : o.guard = none) (ho : o.op = .move (.tmp t) ∨ o.op = .assign (.tmp t)) (hv : lk L t = some v) (hn : Nat.blt d n = true)
    (h : KL P ops Q rest n ((d, v) :: L) w) : KL P ops Q (o :: rest) n L w := by
  have hx : okx L (.tmp t) = true := by simp [okx, hv]
  refine kl_run hd hg (v := v) (w' := w) ?_ ?_ h
  · rcases ho with ho | ho <;> simp [ho, okop, hx, hn]
  · have he : ev L (.tmp t) = v := by simp [ev, hv]
    rcases ho with ho | ho <;> simp [execOp, ho, he, Sem.run_pure]
theorem Za {d : Nat} {v : Value} (hd : o.dst = some d) (hg : o.guard = none) (ho : o.op = .move (.const v) ∨ o.op = .assign (.const v)) (hn : Nat.blt d n = true)
    (h : KL P ops Q rest n ((d, v) :: L) w) : KL P ops Q (o :: rest) n L w := by
  refine kl_run hd hg (v := v) (w' := w) ?_ ?_ h
  · rcases ho with ho | ho <;> simp [ho, okop, okx, hn]
  · rcases ho with ho | ho <;> simp [execOp, ho, Sem.run_pure, ev]
theorem Z9 {d : Nat} {f : FuncId} {fn : Func} {c : Code} {xs : List Operand} {ts : Array TypeId} (hd : o.dst = some d) (hg : o.guard = none) (ho : o.op = .call { callee := .value (.func f), args := xs.toArray, argTypes := ts })
    (hf : P.funcs[f]? = some fn) (hb : fn.body = some c) (hn : (fn.name == "runtime.NumGoroutine") = false) (hk : (xs.all (okx L) && Nat.blt d n) = true)
    (h : Calls P f (xs.map (ev L)).toArray w fun e w' => ∃ v, e = .returned v ∧ KL P ops Q rest n ((d, v) :: L) w') : KL P ops Q (o :: rest) n L w := by
  have hk' := hk
  simp only [Bool.and_eq_true] at hk'
  refine Zn hd hg ?_ fun K hK => ?_
  · simp only [ho, okop, okx, Bool.and_eq_true, Bool.and_true]
    exact ⟨hk'.1, hk'.2⟩
  · have he : execOp (ev L) o = callFunc f (#[] ++ xs.toArray.map (ev L) ++ #[]) := by
      obtain ⟨dst, op, type, pos, after, guard⟩ := o
      subst ho
      rfl
    rw [he, XC hf hb hn]
    simp only [Array.empty_append, Array.append_empty, List.map_toArray]
    refine Calls.mono h ?_
    rintro e w'' ⟨v, rfl, hv⟩
    exact ⟨v, rfl, hK _ _ hv⟩
end
/-! ### to and from the laws at a list of operations -/
section
variable {P : Program} {Q : Exit → Act → World → Prop} {n : Nat} {L : Slots} {w : World} {ops : Array Oper} {rest : List Oper} {o : Oper}
theorem Kn.ev {a : Act} {t : Nat} {v : Value} (k : Kn n L a) (h : lk L t = some v) : a.eval (.tmp t) = v := k.all t v h
theorem XG {a : Act} {d : Nat} {v : Value} (k : Kn n L a) (hd : o.dst = some d) (hn : Nat.blt d n = true) (h : KL P ops Q rest n ((d, v) :: L) w) : wpList P ops Q rest (a.put o.dst v) w := by
  rw [hd]; exact h.h _ (k.put d v hn)
theorem kl_back0 {a : Act} {v : Value} (k : Kn n L a) (hd : o.dst = none) (h : KL P ops Q rest n L w) : wpList P ops Q rest (a.put o.dst v) w := by
  rw [hd]; exact h.h _ k
end
/-! ### a function -/
theorem kn_enter (args : List Value) (m : Nat) (L : Slots) (hL : (L = (List.range args.length).zip args)) : Kn (args.length + m) L { tmps := args.toArray ++ Array.replicate m undef, defers := [] } := by
  subst hL
  refine ⟨by simp, rfl, fun t v h => ?_⟩
  have key : ∀ (l : List Value) (k : Nat), lk ((List.range' k l.length).zip l) t = some v → k ≤ t ∧ l[t - k]? = some v := by
    intro l
    induction l with
    | nil => intro k h; simp [lk] at h
    | cons x l ih =>
      intro k h
      simp only [List.length_cons, List.range'_succ, List.zip_cons_cons, lk] at h
      cases hb : k == t with
      | true =>
        rw [hb] at h
        have := (beq_iff_eq.1 hb)
        subst this
        simp at h
        subst h
        simp
      | false =>
        rw [hb] at h
        obtain ⟨h1, h2⟩ := ih (k + 1) h
        refine ⟨by omega, ?_⟩
        rw [show t - k = (t - (k + 1)) + 1 by omega]
        simpa using h2
  rw [List.range_eq_range'] at h
  obtain ⟨_, h2⟩ := key args 0 h
  simp at h2
  have hlt : t < args.length := (List.getElem?_eq_some_iff.1 h2).1
  rw [Array.getD_eq_getD_getElem?, Array.getElem?_append_left (by simpa using hlt)]
  simp [h2]
theorem ZZ {P : Program} {f : FuncId} {fn : Func} {c : Code} {args : List Value} {w : World} {R : Ending → World → Prop} (hf : P.funcs[f]? = some fn) (hb : fn.body = some c) {n : Nat} (hn : fn.ntmps = n) (hle : Nat.ble args.length n = true)
    (L : Slots) (hL : L = (List.range args.length).zip args) (h : KW P c (bodyPost P fn R) n L w) : Calls P f args.toArray w R := by
  have hle' := Nat.le_of_ble_eq_true hle
  refine calls_of_wp hf hb (h.h _ ?_)
  have := kn_enter args (n - args.length) L hL
  rw [show args.length + (n - args.length) = n by omega] at this
  rw [hn]
  simpa using this
section
variable {P : Program} {fn : Func} {R : Ending → World → Prop} {n : Nat} {L : Slots} {w : World}
theorem ZE {t : Tmp} {v : Value} (hr : fn.results = #[.tmp t]) (hv : lk L t = some v) (hR : R (.returned v) w) : KQ (bodyPost P fn R) .ret n L w := ⟨fun a k =>
  bodyPost_ret (results_tmp hr _ _ _) k.def_ (by rw [k.all t v hv]; exact hR)⟩
theorem YN {t u : Tmp} {v v' : Value} (hr : fn.results = #[.tmp t, .tmp u]) (hv : lk L t = some v) (hv' : lk L u = some v') (hR : R (.returned (.tuple #[v, v'])) w) : KQ (bodyPost P fn R) .ret n L w := ⟨fun a k =>
  bodyPost_ret (results_tmp2 hr _ _ _) k.def_ (by rw [k.all t v hv, k.all u v' hv']; exact hR)⟩
theorem kq_ret0 (hr : fn.results = #[]) (hR : R (.returned (.tuple #[])) w) : KQ (bodyPost P fn R) .ret n L w := ⟨fun a k => bodyPost_ret (results_none hr _ _ _) k.def_ hR⟩
theorem kq_end0 (hr : fn.results = #[]) (hR : R (.returned (.tuple #[])) w) : KQ (bodyPost P fn R) .normal n L w := ⟨fun a k => bodyPost_end (results_none hr _ _ _) k.def_ hR⟩
theorem YO {v : Value} (hr : ∀ a, Kn n L a → (results fn a.tmps).run P w = .ok v w) (hR : R (.returned v) w) : KQ (bodyPost P fn R) .ret n L w := ⟨fun a k => bodyPost_ret (hr a k) k.def_ hR⟩
end
/-! ### regions that draw their order, over what is known -/
section
variable {P : Program} {ops : List Oper} {Q : Exit → Act → World → Prop} {n : Nat} {L : Slots} {w : World} {Ss : List (World → Value → Prop)}
def SrcK (L : Slots) (Ss : List (World → Value → Prop)) (A : Act) (W : World) : List (Nat × Option Nat) → Prop
  | [] => True
  | (t, none) :: r => (∀ v, lk L t = some v → A.tmps[t]?.getD undef = v) ∧ SrcK L Ss A W r
  | (t, some j) :: r => SL Ss j W (A.tmps[t]?.getD undef) ∧ SrcK L Ss A W r
theorem srcK_of {a A : Act} {W : World} (k : Kn n L a) : ∀ src, Src (SL Ss) a A W src → SrcK L Ss A W src
  | [], _ => trivial
  | (t, none) :: r, h => ⟨fun v hv => h.1.trans (k.all t v hv), srcK_of k r h.2⟩
  | (t, some j) :: r, h => ⟨h.1, srcK_of k r h.2⟩
def VK (P : Program) (L : Slots) (Ss : List (World → Value → Prop)) (w : World) (src : List (Nat × Option Nat)) (i : Nat) (o : Oper) : Prop :=
  ∀ (A : Act) (W : World) (N : Value → World → Prop), Below w.heap.size w W → SrcK L Ss A W src → (∀ v W', Below W.heap.size W W' → SL Ss i W' v → N v W') →
    if Region.wanted o (yielded ops.toArray A.tmps) = true then uponK P N (fun W' => N undef W') ((execOp A.eval o).run P W) else N undef W
def VKs (P : Program) (ops : List Oper) (L : Slots) (Ss : List (World → Value → Prop)) (w : World) : Nat → List (List (Nat × Option Nat)) → List Oper → Prop
  | _, _, [] => True
  | i, srcs, o :: rest => VK (ops := ops) P L Ss w (srcs.headD []) i o ∧ VKs P ops L Ss w (i + 1) srcs.tail rest
theorem vcs_of_vks {a : Act} (k : Kn n L a) : ∀ (l : List Oper) (i : Nat) (srcs : List (List (Nat × Option Nat))), VKs P ops L Ss w i srcs l →
    VCs P Q a (SL Ss) (Below w.heap.size w) (fun W W' => Below W.heap.size W W') ops i srcs l
  | [], _, _, _ => trivial
  | o :: l, i, srcs, h => by
    refine ⟨?_, vcs_of_vks k l (i + 1) srcs.tail h.2⟩
    intro A W K hd hR hs hK
    have := h.1 A W (fun v W' => K (A.put o.dst v) W') hR (srcK_of k _ hs) (fun v W' hb hS => hK v W' (Z1 hR hb hR.size) hb hS)
    by_cases hw : Region.wanted o (yielded ops.toArray A.tmps) = true
    · rw [if_pos hw] at this ⊢
      exact upon_of (fun _ _ h => h) (fun _ h => h) this
    · rw [if_neg hw] at this ⊢
      exact this
def allIn (L L' : Slots) (hops : List Oper) : Bool := L'.all fun p => noDst hops p.1
theorem mem_of_nrm (L : Slots) {t : Nat} {v : Value} : ∀ ts, lk (nrm L ts) t = some v → t ∈ ts := by
  intro ts
  induction ts with
  | nil => intro h; simp [nrm, lk] at h
  | cons s ts ih =>
    intro h
    simp only [nrm] at h
    cases hs : lk L s with
    | none => rw [hs] at h; exact List.mem_cons_of_mem _ (ih h)
    | some u =>
      rw [hs] at h
      simp only [lk] at h
      cases hb : s == t with
      | true => rw [(beq_iff_eq.1 hb)]; exact List.mem_cons_self
      | false => rw [hb] at h; exact List.mem_cons_of_mem _ (ih h)
theorem kn_after {a A : Act} (k : Kn n L a) (ts : List Nat) (hts : (ts.all fun t => noDst ops t) = true) (hd : A.defers = a.defers) (hs : A.tmps.size = a.tmps.size)
    (hr : ∀ d, noDst ops d = true → A.tmps.getD d undef = a.tmps.getD d undef) : Kn n (nrm L ts) A :=
  ⟨by rw [hs, k.size], by rw [hd, k.def_], fun t v ht => by
    rw [hr t (List.all_eq_true.1 hts t (mem_of_nrm L ts ht))]
    exact k.all t v (lk_nrm L ts t v ht)⟩
theorem Kn.slot {a : Act} (k : Kn n L a) (t : Nat) {v : Value} (h : lk L t = some v) : a.tmps.getD t undef = v := k.all t v h
theorem kw_region_fresh {id : Nat} (Ss : List (World → Value → Prop)) (srcs : List (List (Nat × Option Nat))) (ts : List Nat)
    (hm : P.follows .mixedOrders = true) (hok : regionOk ops srcs n = true) (hback : edgesBack ops = true) (hts : (ts.all fun t => noDst ops t) = true)
    (mono : MonoAll Ss) (vc : VKs P ops L Ss w 0 srcs ops)
    (fin : ∀ a W, Kn n (nrm L ts) a → Below w.heap.size w W → Ends (SL Ss) a W 0 ops → Q .normal a W) : KW P (.region id ops.toArray true) Q n L w := ⟨fun a k => by
  refine Ys Ss srcs hm (by rw [k.size]; exact hok) hback mono (vcs_of_vks k _ _ _ vc) fun A W hd hs hR he hr => fin A W ⟨?_, ?_, fun t v ht => ?_⟩ hR he
  · rw [hs, k.size]
  · rw [hd, k.def_]
  · have hmem : t ∈ ts := by
      have key : ∀ ts, lk (nrm L ts) t = some v → t ∈ ts := by
        intro ts
        induction ts with
        | nil => intro h; simp [nrm, lk] at h
        | cons s ts ih =>
          intro h
          simp only [nrm] at h
          cases hs : lk L s with
          | none => rw [hs] at h; exact List.mem_cons_of_mem _ (ih h)
          | some u =>
            rw [hs] at h
            simp only [lk] at h
            cases hb : s == t with
            | true => rw [(beq_iff_eq.1 hb)]; exact List.mem_cons_self
            | false => rw [hb] at h; exact List.mem_cons_of_mem _ (ih h)
      exact key ts ht
    rw [hr t (List.all_eq_true.1 hts t hmem)]
    exact k.all t v (lk_nrm L ts t v ht)⟩
theorem WD {id : Nat} (m : Nat) (Ss : List (World → Value → Prop)) (srcs : List (List (Nat × Option Nat))) (ts : List Nat)
    (hm : P.follows .mixedOrders = true) (hok : regionOk ops srcs n = true) (hback : edgesBack ops = true)
    (htail : (decide (m < ops.length) && Region.sinkB .any ops.toArray m && Region.chainB .any ops.toArray m &&
      Region.seqB .any ops.toArray (ops.drop m).length m (List.replicate m true ++ List.replicate (ops.length - m) false).toArray) = true)
    (hts : (ts.all fun t => noDst (ops.take m) t) = true)
    (mono : MonoAll Ss) (vc : VKs P ops L Ss w 0 srcs (ops.take m))
    (fin : ∀ a W, Kn n (nrm L ts) a → Below w.heap.size w W → Ends (SL Ss) a W 0 (ops.take m) → wpList P ops.toArray Q (ops.drop m) a W) : KW P (.region id ops.toArray true) Q n L w := ⟨fun a k => by
  refine ZD m Ss srcs hm (by rw [k.size]; exact hok) hback htail mono (vcs_of_vks k _ _ _ vc) fun A W hd hs hR he hr => fin A W ⟨?_, ?_, fun t v ht => ?_⟩ hR he
  · rw [hs, k.size]
  · rw [hd, k.def_]
  · have hmem : t ∈ ts := by
      have key : ∀ ts, lk (nrm L ts) t = some v → t ∈ ts := by
        intro ts
        induction ts with
        | nil => intro h; simp [nrm, lk] at h
        | cons s ts ih =>
          intro h
          simp only [nrm] at h
          cases hs : lk L s with
          | none => rw [hs] at h; exact List.mem_cons_of_mem _ (ih h)
          | some u =>
            rw [hs] at h
            simp only [lk] at h
            cases hb : s == t with
            | true => rw [(beq_iff_eq.1 hb)]; exact List.mem_cons_self
            | false => rw [hb] at h; exact List.mem_cons_of_mem _ (ih h)
      exact key ts ht
    rw [hr t (List.all_eq_true.1 hts t hmem)]
    exact k.all t v (lk_nrm L ts t v ht)⟩
def ExS : List (Option (World → Value → Prop)) → (List (World → Value → Prop) → Prop) → Prop
  | [], F => F []
  | none :: r, F => ∃ v, ExS r (fun l => F (Is v :: l))
  | some p :: r, F => ExS r (fun l => F (p :: l))
def MonoO : List (Option (World → Value → Prop)) → Prop
  | [] => True
  | none :: r => MonoO r
  | some p :: r => MonoP p ∧ MonoO r
theorem exs_nil {F : List (World → Value → Prop) → Prop} (h : F []) : ExS [] F := h
theorem W5 {r : List (Option (World → Value → Prop))} {F : List (World → Value → Prop) → Prop} (v : Value) (h : ExS r (fun l => F (Is v :: l))) : ExS (none :: r) F := ⟨v, h⟩
theorem W8 {p : World → Value → Prop} {r : List (Option (World → Value → Prop))} {F : List (World → Value → Prop) → Prop} (h : ExS r (fun l => F (p :: l))) : ExS (some p :: r) F := h
theorem exs_get : ∀ (Os : List (Option (World → Value → Prop))) (F : List (World → Value → Prop) → Prop), MonoO Os → ExS Os F → ∃ Ss, MonoAll Ss ∧ F Ss
  | [], _, _, h => ⟨[], trivial, h⟩
  | none :: r, F, hm, ⟨v, h⟩ => by
    obtain ⟨Ss, h1, h2⟩ := exs_get r _ hm h
    exact ⟨Is v :: Ss, ⟨Zo v, h1⟩, h2⟩
  | some p :: r, F, hm, h => by
    obtain ⟨Ss, h1, h2⟩ := exs_get r _ hm.2 h
    exact ⟨p :: Ss, ⟨hm.1, h1⟩, h2⟩
theorem WP {id : Nat} (Os : List (Option (World → Value → Prop))) (srcs : List (List (Nat × Option Nat))) (ts : List Nat)
    (hm : P.follows .mixedOrders = true) (hok : regionOk ops srcs n = true) (hback : edgesBack ops = true) (hts : (ts.all fun t => noDst ops t) = true) (mono : MonoO Os)
    (h : ExS Os fun Ss => VKs P ops L Ss w 0 srcs ops ∧ ∀ a W, Kn n (nrm L ts) a → Below w.heap.size w W → Ends (SL Ss) a W 0 ops → Q .normal a W) : KW P (.region id ops.toArray true) Q n L w := by
  obtain ⟨Ss, h1, h2, h3⟩ := exs_get Os _ mono h
  exact kw_region_fresh Ss srcs ts hm hok hback hts h1 h2 h3
theorem We {id : Nat} (m : Nat) (Os : List (Option (World → Value → Prop))) (srcs : List (List (Nat × Option Nat))) (ts : List Nat)
    (hm : P.follows .mixedOrders = true) (hok : regionOk ops srcs n = true) (hback : edgesBack ops = true)
    (htail : (decide (m < ops.length) && Region.sinkB .any ops.toArray m && Region.chainB .any ops.toArray m &&
      Region.seqB .any ops.toArray (ops.drop m).length m (List.replicate m true ++ List.replicate (ops.length - m) false).toArray) = true)
    (hts : (ts.all fun t => noDst (ops.take m) t) = true) (mono : MonoO Os)
    (h : ExS Os fun Ss => VKs P ops L Ss w 0 srcs (ops.take m) ∧ ∀ a W, Kn n (nrm L ts) a → Below w.heap.size w W → Ends (SL Ss) a W 0 (ops.take m) → wpList P ops.toArray Q (ops.drop m) a W) : KW P (.region id ops.toArray true) Q n L w := by
  obtain ⟨Ss, h1, h2, h3⟩ := exs_get Os _ mono h
  exact WD m Ss srcs ts hm hok hback htail hts h1 h2 h3
theorem Kn.more {a : Act} (h : Kn n L a) (d : Nat) (v : Value) (hv : a.tmps[d]?.getD undef = v) : Kn n ((d, v) :: L) a := ⟨h.size, h.def_, fun t u ht => by
  simp only [lk] at ht
  cases hb : d == t with
  | true => rw [hb] at ht; simp at ht; subst ht; rw [← (beq_iff_eq.1 hb), Array.getD_eq_getD_getElem?]; exact hv
  | false => rw [hb] at ht; exact h.all t u ht⟩
theorem kq_of (a : Act) (W : World) (h : KQ Q .normal n L W) (k : Kn n L a) : Q .normal a W := h.h a k
theorem kl_of {l : List Oper} {aops : Array Oper} (a : Act) (W : World) (h : KL P aops Q l n L W) (k : Kn n L a) : wpList P aops Q l a W := h.h a k
variable {src : List (Nat × Option Nat)} {i : Nat} {o : Oper}
theorem ZA (hg : o.guard = none) (h : ∀ (A : Act) (W : World), Below w.heap.size w W → SrcK L Ss A W src → ∀ N : Value → World → Prop, (∀ v W', Below W.heap.size W W' → SL Ss i W' v → N v W') →
    uponK P N (fun W' => N undef W') ((execOp A.eval o).run P W)) : VK (ops := ops) P L Ss w src i o := by
  intro A W N hR hs hN
  rw [if_pos (by simp [Region.wanted, hg])]
  exact h A W hR hs N hN
def evs (A : Act) : List Nat → Slots := fun ts => ts.map fun t => (t, A.tmps[t]?.getD undef)
theorem ZV {o' : Oper} (N : Value → World → Prop) {A : Act} {W : World} (h : uponK P N (fun W' => N undef W') ((execOp (look A) o').run P W)) : uponK P N (fun W' => N undef W') ((execOp A.eval o').run P W) := by rw [look_eq]; exact h
theorem vk_run (hg : o.guard = none) (h : ∀ (A : Act) (W : World), Below w.heap.size w W → SrcK L Ss A W src → ∃ v W', (execOp (look A) o).run P W = .ok (.value v) W' ∧ Below W.heap.size W W' ∧ SL Ss i W' v) : VK (ops := ops) P L Ss w src i o :=
  ZA hg fun A W hR hs N hN => by
    obtain ⟨v, W', hr, hb, hS⟩ := h A W hR hs
    rw [look_eq, hr]
    exact hN v W' hb hS
theorem XF {f : FuncId} {fn : Func} {c : Code} {xs : List Operand} {ts : Array TypeId} (hg : o.guard = none) (ho : o.op = .call { callee := .value (.func f), args := xs.toArray, argTypes := ts })
    (hf : P.funcs[f]? = some fn) (hb : fn.body = some c) (hn : (fn.name == "runtime.NumGoroutine") = false)
    (h : ∀ (A : Act) (W : World), Below w.heap.size w W → SrcK L Ss A W src → Calls P f (xs.map (look A)).toArray W fun e W' => ∃ v, e = .returned v ∧ Below W.heap.size W W' ∧ SL Ss i W' v) : VK (ops := ops) P L Ss w src i o :=
  ZA hg fun A W hR hs N hN => by
    have he : execOp A.eval o = callFunc f (#[] ++ xs.toArray.map A.eval ++ #[]) := by
      obtain ⟨dst, op, type, pos, after, guard⟩ := o
      subst ho
      rfl
    rw [he, XC hf hb hn]
    simp only [Array.empty_append, Array.append_empty]
    rw [look_eq, List.map_toArray]
    refine Calls.mono (h A W hR hs) ?_
    rintro e W' ⟨v, rfl, hb, hS⟩
    exact ⟨v, rfl, hN v W' hb hS⟩
theorem Yz {t : Tmp} (hg : o.guard = none) (ho : o.op = .move (.tmp t) ∨ o.op = .assign (.tmp t)) (h : ∀ A W, Below w.heap.size w W → SrcK L Ss A W src → SL Ss i W (A.tmps[t]?.getD undef)) : VK (ops := ops) P L Ss w src i o :=
  vk_run hg fun A W hR hs => by
    refine ⟨A.tmps[t]?.getD undef, W, ?_, Below.refl _ _, h A W hR hs⟩
    rcases ho with ho | ho <;> simp [execOp, ho, Sem.run_pure, look]
end
end Go.Proofs.Ytkncomkncfcecaa
