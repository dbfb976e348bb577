/- A region that draws its order, its facts hanging on what was done so far (L): for calls that write what others read. No program in sight. -/
import Derived.Test.YtkgenkkcgegcbaaRegion
namespace Go.Proofs.Ytkgenkkcgegcbaa
open Go.RowKit

def upd (L : Nat → Bool) (i : Nat) : Nat → Bool := fun k => if k = i then true else L k
theorem upd_self (L : Nat → Bool) (i : Nat) : upd L i i = true := by simp [upd]
theorem upd_ne (L : Nat → Bool) {i k : Nat} (h : k ≠ i) : upd L i k = L k := by simp [upd, h]
theorem upd_true {L : Nat → Bool} {k : Nat} (i : Nat) (h : L k = true) : upd L i k = true := by
  by_cases hk : k = i
  · subst hk; exact upd_self L k
  · rw [upd_ne L hk]; exact h
/-- closed under what each operation waits for -/
def Closed (ops : List Oper) (L : Nat → Bool) : Prop := ∀ i o, ops[i]? = some o → L i = true → ∀ j, bindsTo o j = true → L j = true

/-- D names operations that come behind j: each waits for j, or for one that D names -/
def behindOk (ops : List Oper) (j : Nat) (D : List Nat) : Bool :=
  D.all fun i => ((ops[i]?).map fun o => o.after.any fun e => Region.binds .any e && (e.on == j || (decide (e.on < i) && D.contains e.on))).getD false
theorem Closed.behind {ops : List Oper} {L : Nat → Bool} (hc : Closed ops L) {j : Nat} (D : List Nat) (hD : behindOk ops j D = true) : ∀ i, i ∈ D → L i = true → L j = true := by
  intro i
  induction i using Nat.strongRecOn with
  | _ i ih =>
    intro hi hl
    have h1 := List.all_eq_true.1 hD i hi
    cases ho : ops[i]? with
    | none => rw [ho] at h1; simp at h1
    | some o =>
      rw [ho] at h1
      simp only [Option.map_some, Option.getD_some, Array.any_eq_true, Bool.and_eq_true, Bool.or_eq_true, beq_iff_eq, decide_eq_true_eq] at h1
      obtain ⟨k, hk, hb, h2⟩ := h1
      have hon : L o.after[k].on = true := hc i o ho hl _ (by
        simp only [bindsTo, Array.any_eq_true]
        exact ⟨k, hk, by simp [hb]⟩)
      rcases h2 with h2 | ⟨h2, h3⟩
      · rw [← h2]; exact hon
      · exact ih _ h2 (by simpa using h3) hon

section
variable {P : Program} {ops : List Oper} {Q : Exit → Act → World → Prop} {a : Act} {S : (Nat → Bool) → Nat → World → Value → Prop} {R : (Nat → Bool) → World → Prop}

def VL1 (P : Program) (Q : Exit → Act → World → Prop) (a : Act) (S : (Nat → Bool) → Nat → World → Value → Prop) (R : (Nat → Bool) → World → Prop) (ops : List Oper) (src : List (Nat × Option Nat)) (i : Nat) (o : Oper) : Prop :=
  ∀ (L : Nat → Bool) (A : Act) (W : World) (K : Act → World → Prop), A.defers = a.defers → Closed ops L → L i = false → (∀ j, bindsTo o j = true → L j = true) → R L W → Src (S L) a A W src →
    (∀ v W', R (upd L i) W' → (∀ j u, j ≠ i → L j = true → S L j W u → S (upd L i) j W' u) → S (upd L i) i W' v → K (A.put o.dst v) W') →
    if Region.wanted o (yielded ops.toArray A.tmps) = true then o.wp P A W K Q else K (A.put o.dst undef) W
def VLs (P : Program) (Q : Exit → Act → World → Prop) (a : Act) (S : (Nat → Bool) → Nat → World → Value → Prop) (R : (Nat → Bool) → World → Prop) (ops : List Oper) : Nat → List (List (Nat × Option Nat)) → List Oper → Prop
  | _, _, [] => True
  | i, srcs, o :: rest => VL1 P Q a S R ops (srcs.headD []) i o ∧ VLs P Q a S R ops (i + 1) srcs.tail rest
theorem VLs.get (l : List Oper) :
    ∀ (k : Nat) (srcs : List (List (Nat × Option Nat))), VLs P Q a S R ops k srcs l → ∀ i o, l[i]? = some o → VL1 P Q a S R ops (srcs.getD i []) (k + i) o := by
  induction l with
  | nil => intro k srcs _ i o h; simp at h
  | cons x l ih =>
    intro k srcs h i o hi
    obtain ⟨h1, h2⟩ := h
    cases i with
    | zero =>
      simp at hi; subst hi
      cases srcs <;> exact h1
    | succ i =>
      have := ih (k + 1) srcs.tail h2 i o (by simpa using hi)
      rw [show k + (i + 1) = k + 1 + i by omega]
      cases srcs with
      | nil => simpa using this
      | cons s srcs => simpa using this

theorem rj_stepL {S S' : Nat → World → Value → Prop} {R R' : World → Prop} {listed : Array Bool} {A : Act} {W : World} (J : RJ ops a S R listed A W) {i : Nat} {o : Oper} (hi : ops[i]? = some o) (hpre : ∀ j, bindsTo o j = true → listed.getD j false = true)
    (hap : dstsApart ops a.tmps.size = true) {v : Value} {W' : World} (hR : R' W') (hmono : ∀ j u, j ≠ i → listed.getD j false = true → S j W u → S' j W' u) (hS : ∀ d, o.dst = some d → S' i W' v) :
    RJ ops a S' R' (listed.setIfInBounds i true) (A.put o.dst v) W' := by
  have hlt : i < ops.length := (List.getElem?_eq_some_iff.1 hi).1
  refine ⟨?_, ?_, hR, by simp [J.lsize], ?_, ?_, ?_⟩
  · cases o.dst <;> exact J.def_
  · cases hd : o.dst <;> simp [Act.put, J.size]
  · intro k q hk hl j hb
    by_cases hki : k = i
    · subst hki
      rw [hi] at hk; injection hk with hk; subst hk
      have := hpre j hb
      by_cases hji : k = j
      · subst hji; rw [getD_set_self _ _ (by rw [J.lsize]; exact hlt)]
      · rw [getD_set_ne _ _ _ hji]; exact this
    · rw [getD_set_ne _ _ _ (Ne.symm hki)] at hl
      have := J.closed k q hk hl j hb
      by_cases hji : i = j
      · subst hji; rw [getD_set_self _ _ (by rw [J.lsize]; exact hlt)]
      · rw [getD_set_ne _ _ _ hji]; exact this
  · intro k q d hk hl hd
    by_cases hki : k = i
    · subst hki
      rw [hi] at hk; injection hk with hk; subst hk
      obtain ⟨hdn, _⟩ := dsts_spec hap hi hd
      rw [hd, tmps_put_self _ _ _ (by rw [J.size]; exact hdn)]
      exact hS d hd
    · rw [getD_set_ne _ _ _ (Ne.symm hki)] at hl
      have h0 := J.done k q d hk hl hd
      cases ho : o.dst with
      | none => exact hmono k _ hki hl h0
      | some e =>
        have hne : e ≠ d := fun he => by
          subst he
          exact (dsts_spec hap hi ho).2 k q hk hki hd
        rw [tmps_put_ne _ _ _ _ hne]
        exact hmono k _ hki hl h0
  · intro d hd
    have h0 := J.rest d fun k q hk hl => by
      by_cases hki : k = i
      · subst hki
        exact hd k q hk (by rw [getD_set_self _ _ (by rw [J.lsize]; exact hlt)])
      · exact hd k q hk (by rw [getD_set_ne _ _ _ (Ne.symm hki)]; exact hl)
    cases ho : o.dst with
    | none => exact h0
    | some e =>
      have hne : e ≠ d := fun he => by
        subst he
        exact hd i o hi (by rw [getD_set_self _ _ (by rw [J.lsize]; exact hlt)]) ho
      rw [tmps_put_ne _ _ _ _ hne]
      exact h0

def LL (listed : Array Bool) : Nat → Bool := fun i => listed.getD i false
theorem LL_set {listed : Array Bool} {i : Nat} (h : i < listed.size) : LL (listed.setIfInBounds i true) = upd (LL listed) i := by
  funext k
  by_cases hk : k = i
  · subst hk; rw [upd_self]; exact getD_set_self _ _ h
  · rw [upd_ne _ hk]; exact getD_set_ne _ _ _ (Ne.symm hk) _

theorem wpAny_L {srcs : List (List (Nat × Option Nat))} (hok : regionOk ops srcs a.tmps.size = true) (hback : edgesBack ops = true)
    (vc : VLs P Q a S R ops 0 srcs ops)
    (fin : ∀ A W listed, RJ ops a (S (LL listed)) (R (LL listed)) listed A W → (∀ i, i < ops.length → listed.getD i false = true) → Q .normal A W) :
    ∀ (fuel : Nat) (listed : Array Bool) (A : Act) (W : World), unlisted listed ≤ fuel → RJ ops a (S (LL listed)) (R (LL listed)) listed A W → wpAny P .any ops.toArray Q fuel listed A W := by
  intro fuel
  simp only [regionOk, Bool.and_eq_true] at hok
  obtain ⟨hap, hsrc⟩ := hok
  induction fuel with
  | zero =>
    intro listed A W hu J
    have hall : ∀ i, i < ops.length → listed.getD i false = true := by
      intro i hi
      have h0 : unlisted listed = 0 := by omega
      have hm : false ∉ listed.toList := List.count_eq_zero.1 h0
      have hi' : i < listed.size := by rw [J.lsize]; exact hi
      simp only [Array.getD, hi', dite_true]
      cases hb : listed[i] with
      | true => simp [hb]
      | false => exact absurd (by rw [← hb]; simp) hm
    refine ⟨?_, fin A W listed J hall⟩
    apply List.filter_eq_nil_iff.2
    intro i hi
    simp at hi
    have := hall i hi
    have h2 : listed.getD i true = true := by
      have hi' : i < listed.size := by rw [J.lsize]; exact hi
      simp [hi'] at this ⊢
      exact this
    simp [h2]
  | succ fuel ih =>
    intro listed A W hu J
    refine ⟨fun hr => fin A W listed J (live_ hback J.lsize hr), fun i hi => ?_⟩
    obtain ⟨o, ho, hlt, hnl, hpre⟩ := ready_mem hi
    have hnl' : listed.getD i false = false := by
      have hi' : i < listed.size := by rw [J.lsize]; exact hlt
      simp [hi'] at hnl ⊢
      exact hnl
    have hv := VLs.get ops 0 srcs vc i o ho
    rw [Nat.zero_add] at hv
    have hs1 := List.all_eq_true.1 hsrc i (List.mem_range.2 hlt)
    rw [ho] at hs1
    simp only [Option.map_some, Option.getD_some] at hs1
    have hSrc := src_spec J ho hpre hnl' _ hs1
    have hnext : ∀ v W', R (upd (LL listed) i) W' → (∀ j u, j ≠ i → LL listed j = true → S (LL listed) j W u → S (upd (LL listed) i) j W' u) → S (upd (LL listed) i) i W' v → wpAny P .any ops.toArray Q fuel (listed.setIfInBounds i true) (A.put o.dst v) W' := by
      intro v W' hR' hmono hS
      have hset := LL_set (listed := listed) (i := i) (by rw [J.lsize]; exact hlt)
      refine ih _ _ _ ?_ (rj_stepL J ho hpre hap (by rw [hset]; exact hR') (by rw [hset]; exact hmono) (by rw [hset]; exact fun _ _ => hS))
      have := unlisted_set listed i (by rw [J.lsize]; exact hlt) hnl
      omega
    refine wpOp_step (o := o) (by simpa using ho) fun K' hK' => ?_
    exact hv (LL listed) A W K' J.def_ (fun k q hk hl j hb => J.closed k q hk hl j hb) hnl' hpre J.world hSrc fun v W' h1 h2 h3 => hK' _ _ (hnext v W' h1 h2 h3)

theorem wp_region_L {id : Nat} {w : World} (S : (Nat → Bool) → Nat → World → Value → Prop) (R : (Nat → Bool) → World → Prop) (srcs : List (List (Nat × Option Nat)))
    (hm : P.follows .mixedOrders = true) (hok : regionOk ops srcs a.tmps.size = true) (hback : edgesBack ops = true) (hR : R (fun _ => false) w.drew)
    (vc : VLs P Q a S R ops 0 srcs ops)
    (fin : ∀ L A W, A.defers = a.defers → A.tmps.size = a.tmps.size → (∀ i, i < ops.length → L i = true) → R L W → Ends (S L) A W 0 ops → (∀ d, noDst ops d = true → A.tmps.getD d undef = a.tmps.getD d undef) → Q .normal A W) :
    (Code.region id ops.toArray true).wp P Q a w := by
  refine wp_region_any hm (wpAny_L hok hback vc (fun A W listed J hall => ?_) _ _ _ _ ?_ ?_)
  · refine fin (LL listed) A W J.def_ J.size hall J.world (ends_of (listed := listed) (fun i o d hi hd => J.done i o d hi (hall i (List.getElem?_eq_some_iff.1 hi).1) hd) ops 0 (fun i => by rw [Nat.zero_add])) fun d hd => ?_
    refine J.rest d fun i o hi _ he => ?_
    have := List.all_eq_true.1 hd o (List.mem_of_getElem? hi)
    rw [he] at this
    simp at this
  · simp [unlisted, List.count_replicate]
  · have h0 : LL (Array.replicate ops.toArray.size false) = fun _ => false := by
      funext i; simp only [LL]; rw [Array.getD_eq_getD_getElem?, Array.getElem?_replicate]; split <;> rfl
    rw [h0]
    exact ⟨rfl, rfl, hR, by simp, fun i o _ h => by simp [Array.getElem?_replicate] at h; split at h <;> simp at h, fun i o d _ h => by simp [Array.getElem?_replicate] at h; split at h <;> simp at h, fun d _ => rfl⟩
end

/-! ### the rule's use: facts of slots as a list, which live on as memory grows and as more is done -/
abbrev SPred := (Nat → Bool) → World → Value → Prop
def SLL (Ss : List SPred) (L : Nat → Bool) (i : Nat) (W : World) (v : Value) : Prop := (Ss.getD i (fun _ _ _ => True)) L W v
def IsL (u : Value) : SPred := fun _ _ v => v = u
def MonoL (p : SPred) : Prop := ∀ L i W W' v, Below W.heap.size W W' → p L W v → p (upd L i) W' v
def MonoAllL : List SPred → Prop
  | [] => True
  | p :: r => MonoL p ∧ MonoAllL r
theorem mono_isL (u : Value) : MonoL (IsL u) := fun _ _ _ _ _ _ h => h
theorem MonoAllL.get {Ss : List SPred} (h : MonoAllL Ss) : ∀ j L i W W' v, Below W.heap.size W W' → SLL Ss L j W v → SLL Ss (upd L i) j W' v := by
  induction Ss with
  | nil => intro j L i W W' v _ _; exact trivial
  | cons p r ih =>
    intro j
    cases j with
    | zero => exact h.1
    | succ j => exact ih h.2 j
/-- the facts while just L is done -/
def At (Ss : List SPred) (L : Nat → Bool) : List (World → Value → Prop) := Ss.map fun p => p L
theorem sl_at (Ss : List SPred) (L : Nat → Bool) (j : Nat) (W : World) (v : Value) : SL (At Ss L) j W v = SLL Ss L j W v := by
  induction Ss generalizing j with
  | nil => rfl
  | cons p r ih => cases j with
    | zero => rfl
    | succ j => exact ih j
theorem sl_at' (Ss : List SPred) (L : Nat → Bool) : SL (At Ss L) = SLL Ss L := by funext j W v; exact sl_at Ss L j W v
/-- what an operation leaves standing of the others' facts -/
def Pres (L : Nat → Bool) (i : Nat) (W W' : World) : Nat → List SPred → Prop
  | _, [] => True
  | k, p :: r => (k ≠ i → L k = true → ∀ u, p L W u → p (upd L i) W' u) ∧ Pres L i W W' (k + 1) r
theorem Pres.get {L : Nat → Bool} {i : Nat} {W W' : World} : ∀ {Ss : List SPred} {k : Nat}, Pres L i W W' k Ss → ∀ j u, k + j ≠ i → L (k + j) = true → SLL Ss L j W u → SLL Ss (upd L i) j W' u
  | [], _, _, _, _, _, _, _ => trivial
  | p :: r, k, h, j, u, hne, hl, hs => by
    cases j with
    | zero => exact h.1 hne hl u hs
    | succ j => exact Pres.get h.2 j u (by rw [show k + 1 + j = k + (j + 1) by omega]; exact hne) (by rw [show k + 1 + j = k + (j + 1) by omega]; exact hl) hs
theorem pres_is {L : Nat → Bool} {i k : Nat} {W W' : World} (v : Value) : k ≠ i → L k = true → ∀ u, IsL v L W u → IsL v (upd L i) W' u := fun _ _ _ h => h

section
variable {P : Program} {ops : List Oper} {Q : Exit → Act → World → Prop} {a : Act} {Ss : List SPred} {R : (Nat → Bool) → World → Prop}

theorem Src.monoL (mono : MonoAllL Ss) {L : Nat → Bool} (i : Nat) {A : Act} {W : World} : ∀ {src : List (Nat × Option Nat)}, Src (SLL Ss L) a A W src → Src (SLL Ss (upd L i)) a A W src
  | [], _ => trivial
  | (_, none) :: _, h => ⟨h.1, Src.monoL mono i h.2⟩
  | (_, some j) :: _, h => ⟨mono.get j L i W W _ (Below.refl _ _) h.1, Src.monoL mono i h.2⟩

/-- an operation that leaves all that was as it was -/
theorem vl_of (mono : MonoAllL Ss) {src : List (Nat × Option Nat)} {i : Nat} {o : Oper} (hR : ∀ L W W', Below W.heap.size W W' → R L W → R (upd L i) W')
    (h : ∀ L W, Closed ops L → L i = false → (∀ j, bindsTo o j = true → L j = true) → R L W → VC1 P Q a (SL (At Ss (upd L i))) (Below W.heap.size W) (fun W W' => Below W.heap.size W W') ops src i o) :
    VL1 P Q a (SLL Ss) R ops src i o := by
  intro L A W K hd hc hl hpre hR0 hs hK
  have := h L W hc hl hpre hR0 A W K hd (Below.refl _ _) (by rw [sl_at']; exact Src.monoL mono i hs)
  refine this fun v W' hb _ hS => hK v W' (hR L W W' hb hR0) (fun j u _ _ hj => mono.get j L i W W' u hb hj) ?_
  rw [sl_at'] at hS
  exact hS

theorem want_none {o : Oper} (hg : o.guard = none) (A : Act) : Region.wanted o (yielded ops.toArray A.tmps) = true := by simp [Region.wanted, hg]
theorem want_yes {o : Oper} {gj d : Nat} {b : Bool} (hg : o.guard = some (gj, b)) (hd : (ops[gj]?).bind (·.dst) = some d) {A : Act} (h : A.tmps[d]?.getD undef = .bool b) : Region.wanted o (yielded ops.toArray A.tmps) = true := by
  simp [Region.wanted, hg, yielded_of hd h]

/-- a call of a Go function that may write what others read -/
theorem vl_call {src : List (Nat × Option Nat)} {i : Nat} {o : Oper} {f : FuncId} {fn : Func} {c : Code} {xs : List Operand} {ts : Array TypeId}
    (hw : ∀ L A W, Src (SLL Ss L) a A W src → Region.wanted o (yielded ops.toArray A.tmps) = true) (ho : o.op = .call { callee := .value (.func f), args := xs.toArray, argTypes := ts })
    (hf : P.funcs[f]? = some fn) (hb : fn.body = some c) (hn : (fn.name == "runtime.NumGoroutine") = false)
    (h : ∀ L A W, Closed ops L → L i = false → (∀ j, bindsTo o j = true → L j = true) → R L W → Src (SLL Ss L) a A W src →
      Calls P f (xs.map (look A)).toArray W fun e W' => ∃ v, e = .returned v ∧ R (upd L i) W' ∧ Pres L i W W' 0 Ss ∧ SLL Ss (upd L i) i W' v) : VL1 P Q a (SLL Ss) R ops src i o := by
  intro L A W K hd hc hl hpre hR0 hs hK
  rw [if_pos (hw L A W hs)]
  have he : execOp A.eval o = callFunc f (#[] ++ xs.toArray.map A.eval ++ #[]) := by
    obtain ⟨dst, op, type, pos, after, guard⟩ := o
    subst ho
    rfl
  unfold Oper.wp
  rw [he, run_callFunc hf hb hn]
  simp only [Array.empty_append, Array.append_empty]
  rw [look_eq, List.map_toArray]
  refine Calls.mono (h L A W hc hl hpre hR0 hs) ?_
  rintro e W' ⟨v, rfl, hR', hp, hS⟩
  exact hK v W' hR' (fun j u hne hlj hsj => hp.get j u (by omega) (by rw [Nat.zero_add]; exact hlj) hsj) hS
/-- an operation that writes what others may read -/
theorem vl_run {src : List (Nat × Option Nat)} {i : Nat} {o : Oper} (hw : ∀ L A W, Src (SLL Ss L) a A W src → Region.wanted o (yielded ops.toArray A.tmps) = true)
    (h : ∀ L A W, Closed ops L → L i = false → (∀ j, bindsTo o j = true → L j = true) → R L W → Src (SLL Ss L) a A W src →
      ∃ v W', (execOp A.eval o).run P W = .ok (.value v) W' ∧ R (upd L i) W' ∧ Pres L i W W' 0 Ss ∧ SLL Ss (upd L i) i W' v) : VL1 P Q a (SLL Ss) R ops src i o := by
  intro L A W K hd hc hl hpre hR0 hs hK
  rw [if_pos (hw L A W hs)]
  obtain ⟨v, W', hr, hR', hp, hS⟩ := h L A W hc hl hpre hR0 hs
  unfold Oper.wp
  rw [hr]
  exact hK v W' hR' (fun j u hne hlj hsj => hp.get j u (by omega) (by rw [Nat.zero_add]; exact hlj) hsj) hS
end
end Go.Proofs.Ytkgenkkcgegcbaa
