/- == on sums by value. The sparse walk: a drawn region with whatever said of the world on its way. No program in sight. A region that draws its order, its facts hanging on what was done so far (L): for calls that write what others read. No program in sight. -/
import Derived.Test.YtkncomkncfcecaaShaSum
import Derived.Stop.BytesEq
import Derived.Test.YtkncomkncfcecaaKn
import Derived.Test.YtkncomkncfcecaaRegion
set_option linter.unusedVariables false
set_option linter.unusedSimpArgs false
namespace Go.Proofs.Ytkncomkncfcecaa
open Go.RowKit
set_option maxRecDepth 100000 in
theorem eqH (w : World) (xs ys : List UInt8) (hx : xs.length = 32) (hy : ys.length = 32) :
    (Op.equalIn 10000 29 (.agg (bv xs).toArray) (.agg (bv ys).toArray)).run Try.prog w = .ok (xs == ys) w :=
  run_equalIn_bytes w 9998 29 5 32 hashUnder Try.underlying5 (fun _ => rfl) xs ys hx hy
end Go.Proofs.Ytkncomkncfcecaa
set_option linter.unusedVariables false
set_option linter.unusedSimpArgs false
namespace Go.Proofs.Ytkncomkncfcecaa
open Go.RowKit
/-! ### with what is said of operations that give nothing (stores) -/
section
variable {P : Program} {ops : List Oper} {Q : Exit → Act → World → Prop} {a : Act} {S : Nat → World → Value → Prop} {R : World → Prop} {Step : World → World → Prop}
def DoneN (ops : List Oper) (S : Nat → World → Value → Prop) (listed : Array Bool) (W : World) : Prop := ∀ i o, ops[i]? = some o → listed.getD i false = true → o.dst = none → ∃ v, S i W v
end
section
variable {P : Program} {ops : List Oper} {Q : Exit → Act → World → Prop} {n : Nat} {L : Slots} {w : World}
def MonoR (Step : World → World → Prop) : List (Option (World → Value → Prop)) → Prop
  | [] => True
  | none :: r => MonoR Step r
  | some p :: r => (∀ W W' v, Step W W' → p W v → p W' v) ∧ MonoR Step r
def MonoRA (Step : World → World → Prop) : List (World → Value → Prop) → Prop
  | [] => True
  | p :: r => (∀ W W' v, Step W W' → p W v → p W' v) ∧ MonoRA Step r
theorem MonoRA.get {Step : World → World → Prop} {Ss : List (World → Value → Prop)} (h : MonoRA Step Ss) : ∀ i W W' v, Step W W' → SL Ss i W v → SL Ss i W' v := by
  induction Ss with
  | nil => intro i W W' v _ _; exact trivial
  | cons p r ih =>
    intro i
    cases i with
    | zero => exact h.1
    | succ i => exact ih h.2 i
def VR (P : Program) (R : World → Prop) (Step : World → World → Prop) (L : Slots) (Ss : List (World → Value → Prop)) (src : List (Nat × Option Nat)) (i : Nat) (o : Oper) : Prop :=
  ∀ (A : Act) (W : World) (N : Value → World → Prop), R W → SrcK L Ss A W src → (∀ v W', R W' → Step W W' → SL Ss i W' v → N v W') →
    if Region.wanted o (yielded ops.toArray A.tmps) = true then uponK P N (fun W' => N undef W') ((execOp A.eval o).run P W) else N undef W
def VRs (P : Program) (R : World → Prop) (Step : World → World → Prop) (ops : List Oper) (L : Slots) (Ss : List (World → Value → Prop)) : Nat → List (List (Nat × Option Nat)) → List Oper → Prop
  | _, _, [] => True
  | i, srcs, o :: rest => VR (ops := ops) P R Step L Ss (srcs.headD []) i o ∧ VRs P R Step ops L Ss (i + 1) srcs.tail rest
variable {R : World → Prop} {Step : World → World → Prop} {Ss : List (World → Value → Prop)} {src : List (Nat × Option Nat)} {i : Nat} {o : Oper}
end
/-- a block of code by its number -/
def findBlock (id : Nat) : Code → Option Code
  | .block i c => if i = id then some (.block i c) else findBlock id c
  | .loop c => findBlock id c
  | .scope c => findBlock id c
  | .seq a b => match findBlock id a with
    | some c => some c
    | none => findBlock id b
  | .cond _ a b => match findBlock id a with
    | some c => some c
    | none => findBlock id b
  | _ => none
/-- the code from a region on, to the end of its row -/
def findRest (id : Nat) : Code → Option Code
  | .block _ c => findRest id c
  | .loop c => findRest id c
  | .scope c => findRest id c
  | .seq a b => match a with
    | .region i ops d => if i = id then some (.seq (.region i ops d) b) else findRest id b
    | a => match findRest id a with
      | some c => some c
      | none => findRest id b
  | .cond _ a b => match findRest id a with
    | some c => some c
    | none => findRest id b
  | _ => none
noncomputable def restAt (f : Func) (id : Nat) : Code := ((f.body).bind (findRest id)).getD .skip
noncomputable def blockOf (f : Func) (id : Nat) : Code := ((f.body).bind (findBlock id)).getD .skip

end Go.Proofs.Ytkncomkncfcecaa
set_option linter.unusedVariables false
set_option linter.unusedSimpArgs false
namespace Go.Proofs.Ytkncomkncfcecaa
open Go.RowKit

def upd (L : Nat → Bool) (i : Nat) : Nat → Bool := fun k => if k = i then true else L k
theorem upd_self (L : Nat → Bool) (i : Nat) : upd L i i = true := by simp [upd]
theorem upd_ne (L : Nat → Bool) {i k : Nat} (h : k ≠ i) : upd L i k = L k := by simp [upd, h]
/-- closed under what each operation waits for -/
def Closed (ops : List Oper) (L : Nat → Bool) : Prop := ∀ i o, ops[i]? = some o → L i = true → ∀ j, bindsTo o j = true → L j = true

/-- D names operations that come behind j: each waits for j, or for one that D names -/
def behindOk (ops : List Oper) (j : Nat) (D : List Nat) : Bool :=
  D.all fun i => ((ops[i]?).map fun o => o.after.any fun e => Region.binds .any e && (e.on == j || (decide (e.on < i) && D.contains e.on))).getD false
theorem Closed.behind {ops : List Oper} {L : Nat → Bool} (hc : Closed ops L) {j : Nat} (D : List Nat) (hD : behindOk ops j D = true) : ∀ i, i ∈ D → L i = true → L j = true := by
  intro i
  induction i using Nat.strongRecOn with
  | _ i ih =>
    intro hi hl
    have h1 := List.all_eq_true.1 hD i hi
    cases ho : ops[i]? with
    | none => rw [ho] at h1; simp at h1
    | some o =>
      rw [ho] at h1
      simp only [Option.map_some, Option.getD_some, Array.any_eq_true, Bool.and_eq_true, Bool.or_eq_true, beq_iff_eq, decide_eq_true_eq] at h1
      obtain ⟨k, hk, hb, h2⟩ := h1
      have hon : L o.after[k].on = true := hc i o ho hl _ (by
        simp only [bindsTo, Array.any_eq_true]
        exact ⟨k, hk, by simp [hb]⟩)
      rcases h2 with h2 | ⟨h2, h3⟩
      · rw [← h2]; exact hon
      · exact ih _ h2 (by simpa using h3) hon

section
variable {P : Program} {ops : List Oper} {Q : Exit → Act → World → Prop} {a : Act} {S : (Nat → Bool) → Nat → World → Value → Prop} {R : (Nat → Bool) → World → Prop}

def VL1 (P : Program) (Q : Exit → Act → World → Prop) (a : Act) (S : (Nat → Bool) → Nat → World → Value → Prop) (R : (Nat → Bool) → World → Prop) (ops : List Oper) (src : List (Nat × Option Nat)) (i : Nat) (o : Oper) : Prop :=
  ∀ (L : Nat → Bool) (A : Act) (W : World) (K : Act → World → Prop), A.defers = a.defers → Closed ops L → L i = false → (∀ j, bindsTo o j = true → L j = true) → R L W → Src (S L) a A W src →
    (∀ v W', R (upd L i) W' → (∀ j u, j ≠ i → L j = true → S L j W u → S (upd L i) j W' u) → S (upd L i) i W' v → K (A.put o.dst v) W') →
    if Region.wanted o (yielded ops.toArray A.tmps) = true then o.wp P A W K Q else K (A.put o.dst undef) W
def VLs (P : Program) (Q : Exit → Act → World → Prop) (a : Act) (S : (Nat → Bool) → Nat → World → Value → Prop) (R : (Nat → Bool) → World → Prop) (ops : List Oper) : Nat → List (List (Nat × Option Nat)) → List Oper → Prop
  | _, _, [] => True
  | i, srcs, o :: rest => VL1 P Q a S R ops (srcs.headD []) i o ∧ VLs P Q a S R ops (i + 1) srcs.tail rest
theorem VLs.get (l : List Oper) :
    ∀ (k : Nat) (srcs : List (List (Nat × Option Nat))), VLs P Q a S R ops k srcs l → ∀ i o, l[i]? = some o → VL1 P Q a S R ops (srcs.getD i []) (k + i) o := by
  induction l with
  | nil => intro k srcs _ i o h; simp at h
  | cons x l ih =>
    intro k srcs h i o hi
    obtain ⟨h1, h2⟩ := h
    cases i with
    | zero =>
      simp at hi; subst hi
      cases srcs <;> exact h1
    | succ i =>
      have := ih (k + 1) srcs.tail h2 i o (by simpa using hi)
      rw [show k + (i + 1) = k + 1 + i by omega]
      cases srcs with
      | nil => simpa using this
      | cons s srcs => simpa using this

theorem rj_stepL {S S' : Nat → World → Value → Prop} {R R' : World → Prop} {listed : Array Bool} {A : Act} {W : World} (J : RJ ops a S R listed A W) {i : Nat} {o : Oper} (hi : ops[i]? = some o) (hpre : ∀ j, bindsTo o j = true → listed.getD j false = true)
    (hap : dstsApart ops a.tmps.size = true) {v : Value} {W' : World} (hR : R' W') (hmono : ∀ j u, j ≠ i → listed.getD j false = true → S j W u → S' j W' u) (hS : ∀ d, o.dst = some d → S' i W' v) :
    RJ ops a S' R' (listed.setIfInBounds i true) (A.put o.dst v) W' := by
  have hlt : i < ops.length := (List.getElem?_eq_some_iff.1 hi).1
  refine ⟨?_, ?_, hR, by simp [J.lsize], ?_, ?_, ?_⟩
  · cases o.dst <;> exact J.def_
  · cases hd : o.dst <;> simp [Act.put, J.size]
  · intro k q hk hl j hb
    by_cases hki : k = i
    · subst hki
      rw [hi] at hk; injection hk with hk; subst hk
      have := hpre j hb
      by_cases hji : k = j
      · subst hji; rw [getD_set_self _ _ (by rw [J.lsize]; exact hlt)]
      · rw [getD_set_ne _ _ _ hji]; exact this
    · rw [getD_set_ne _ _ _ (Ne.symm hki)] at hl
      have := J.closed k q hk hl j hb
      by_cases hji : i = j
      · subst hji; rw [getD_set_self _ _ (by rw [J.lsize]; exact hlt)]
      · rw [getD_set_ne _ _ _ hji]; exact this
  · intro k q d hk hl hd
    by_cases hki : k = i
    · subst hki
      rw [hi] at hk; injection hk with hk; subst hk
      obtain ⟨hdn, _⟩ := dsts_spec hap hi hd
      rw [hd, tmps_put_self _ _ _ (by rw [J.size]; exact hdn)]
      exact hS d hd
    · rw [getD_set_ne _ _ _ (Ne.symm hki)] at hl
      have h0 := J.done k q d hk hl hd
      cases ho : o.dst with
      | none => exact hmono k _ hki hl h0
      | some e =>
        have hne : e ≠ d := fun he => by
          subst he
          exact (dsts_spec hap hi ho).2 k q hk hki hd
        rw [tmps_put_ne _ _ _ _ hne]
        exact hmono k _ hki hl h0
  · intro d hd
    have h0 := J.rest d fun k q hk hl => by
      by_cases hki : k = i
      · subst hki
        exact hd k q hk (by rw [getD_set_self _ _ (by rw [J.lsize]; exact hlt)])
      · exact hd k q hk (by rw [getD_set_ne _ _ _ (Ne.symm hki)]; exact hl)
    cases ho : o.dst with
    | none => exact h0
    | some e =>
      have hne : e ≠ d := fun he => by
        subst he
        exact hd i o hi (by rw [getD_set_self _ _ (by rw [J.lsize]; exact hlt)]) ho
      rw [tmps_put_ne _ _ _ _ hne]
      exact h0

def LL (listed : Array Bool) : Nat → Bool := fun i => listed.getD i false
theorem LL_set {listed : Array Bool} {i : Nat} (h : i < listed.size) : LL (listed.setIfInBounds i true) = upd (LL listed) i := by
  funext k
  by_cases hk : k = i
  · subst hk; rw [upd_self]; exact getD_set_self _ _ h
  · rw [upd_ne _ hk]; exact getD_set_ne _ _ _ (Ne.symm hk) _

theorem wpAny_L {srcs : List (List (Nat × Option Nat))} (hok : regionOk ops srcs a.tmps.size = true) (hback : edgesBack ops = true)
    (vc : VLs P Q a S R ops 0 srcs ops)
    (fin : ∀ A W listed, RJ ops a (S (LL listed)) (R (LL listed)) listed A W → (∀ i, i < ops.length → listed.getD i false = true) → Q .normal A W) :
    ∀ (fuel : Nat) (listed : Array Bool) (A : Act) (W : World), unlisted listed ≤ fuel → RJ ops a (S (LL listed)) (R (LL listed)) listed A W → wpAny P .any ops.toArray Q fuel listed A W := by
  intro fuel
  simp only [regionOk, Bool.and_eq_true] at hok
  obtain ⟨hap, hsrc⟩ := hok
  induction fuel with
  | zero =>
    intro listed A W hu J
    have hall : ∀ i, i < ops.length → listed.getD i false = true := by
      intro i hi
      have h0 : unlisted listed = 0 := by omega
      have hm : false ∉ listed.toList := List.count_eq_zero.1 h0
      have hi' : i < listed.size := by rw [J.lsize]; exact hi
      simp only [Array.getD, hi', dite_true]
      cases hb : listed[i] with
      | true => simp [hb]
      | false => exact absurd (by rw [← hb]; simp) hm
    refine ⟨?_, fin A W listed J hall⟩
    apply List.filter_eq_nil_iff.2
    intro i hi
    simp at hi
    have := hall i hi
    have h2 : listed.getD i true = true := by
      have hi' : i < listed.size := by rw [J.lsize]; exact hi
      simp [hi'] at this ⊢
      exact this
    simp [h2]
  | succ fuel ih =>
    intro listed A W hu J
    refine ⟨fun hr => fin A W listed J (live_ hback J.lsize hr), fun i hi => ?_⟩
    obtain ⟨o, ho, hlt, hnl, hpre⟩ := ready_mem hi
    have hnl' : listed.getD i false = false := by
      have hi' : i < listed.size := by rw [J.lsize]; exact hlt
      simp [hi'] at hnl ⊢
      exact hnl
    have hv := VLs.get ops 0 srcs vc i o ho
    rw [Nat.zero_add] at hv
    have hs1 := List.all_eq_true.1 hsrc i (List.mem_range.2 hlt)
    rw [ho] at hs1
    simp only [Option.map_some, Option.getD_some] at hs1
    have hSrc := src_spec J ho hpre hnl' _ hs1
    have hnext : ∀ v W', R (upd (LL listed) i) W' → (∀ j u, j ≠ i → LL listed j = true → S (LL listed) j W u → S (upd (LL listed) i) j W' u) → S (upd (LL listed) i) i W' v → wpAny P .any ops.toArray Q fuel (listed.setIfInBounds i true) (A.put o.dst v) W' := by
      intro v W' hR' hmono hS
      have hset := LL_set (listed := listed) (i := i) (by rw [J.lsize]; exact hlt)
      refine ih _ _ _ ?_ (rj_stepL J ho hpre hap (by rw [hset]; exact hR') (by rw [hset]; exact hmono) (by rw [hset]; exact fun _ _ => hS))
      have := unlisted_set listed i (by rw [J.lsize]; exact hlt) hnl
      omega
    refine wpOp_step (o := o) (by simpa using ho) fun K' hK' => ?_
    exact hv (LL listed) A W K' J.def_ (fun k q hk hl j hb => J.closed k q hk hl j hb) hnl' hpre J.world hSrc fun v W' h1 h2 h3 => hK' _ _ (hnext v W' h1 h2 h3)

theorem wp_region_L {id : Nat} {w : World} (S : (Nat → Bool) → Nat → World → Value → Prop) (R : (Nat → Bool) → World → Prop) (srcs : List (List (Nat × Option Nat)))
    (hm : P.follows .mixedOrders = true) (hok : regionOk ops srcs a.tmps.size = true) (hback : edgesBack ops = true) (hR : R (fun _ => false) w.drew)
    (vc : VLs P Q a S R ops 0 srcs ops)
    (fin : ∀ L A W, A.defers = a.defers → A.tmps.size = a.tmps.size → (∀ i, i < ops.length → L i = true) → R L W → Ends (S L) A W 0 ops → (∀ d, noDst ops d = true → A.tmps.getD d undef = a.tmps.getD d undef) → Q .normal A W) :
    (Code.region id ops.toArray true).wp P Q a w := by
  refine wp_region_any hm (wpAny_L hok hback vc (fun A W listed J hall => ?_) _ _ _ _ ?_ ?_)
  · refine fin (LL listed) A W J.def_ J.size hall J.world (ends_of (listed := listed) (fun i o d hi hd => J.done i o d hi (hall i (List.getElem?_eq_some_iff.1 hi).1) hd) ops 0 (fun i => by rw [Nat.zero_add])) fun d hd => ?_
    refine J.rest d fun i o hi _ he => ?_
    have := List.all_eq_true.1 hd o (List.mem_of_getElem? hi)
    rw [he] at this
    simp at this
  · simp [unlisted, List.count_replicate]
  · have h0 : LL (Array.replicate ops.toArray.size false) = fun _ => false := by
      funext i; simp only [LL]; rw [Array.getD_eq_getD_getElem?, Array.getElem?_replicate]; split <;> rfl
    rw [h0]
    exact ⟨rfl, rfl, hR, by simp, fun i o _ h => by simp [Array.getElem?_replicate] at h; split at h <;> simp at h, fun i o d _ h => by simp [Array.getElem?_replicate] at h; split at h <;> simp at h, fun d _ => rfl⟩
end

/-! ### the rule's use: facts of slots as a list, which live on as memory grows and as more is done -/
abbrev SPred := (Nat → Bool) → World → Value → Prop
def SLL (Ss : List SPred) (L : Nat → Bool) (i : Nat) (W : World) (v : Value) : Prop := (Ss.getD i (fun _ _ _ => True)) L W v
def IsL (u : Value) : SPred := fun _ _ v => v = u
def MonoL (p : SPred) : Prop := ∀ L i W W' v, Below W.heap.size W W' → p L W v → p (upd L i) W' v
def MonoAllL : List SPred → Prop
  | [] => True
  | p :: r => MonoL p ∧ MonoAllL r
theorem mono_isL (u : Value) : MonoL (IsL u) := fun _ _ _ _ _ _ h => h
theorem MonoAllL.get {Ss : List SPred} (h : MonoAllL Ss) : ∀ j L i W W' v, Below W.heap.size W W' → SLL Ss L j W v → SLL Ss (upd L i) j W' v := by
  induction Ss with
  | nil => intro j L i W W' v _ _; exact trivial
  | cons p r ih =>
    intro j
    cases j with
    | zero => exact h.1
    | succ j => exact ih h.2 j
/-- the facts while just L is done -/
def At (Ss : List SPred) (L : Nat → Bool) : List (World → Value → Prop) := Ss.map fun p => p L
theorem sl_at (Ss : List SPred) (L : Nat → Bool) (j : Nat) (W : World) (v : Value) : SL (At Ss L) j W v = SLL Ss L j W v := by
  induction Ss generalizing j with
  | nil => rfl
  | cons p r ih => cases j with
    | zero => rfl
    | succ j => exact ih j
theorem sl_at' (Ss : List SPred) (L : Nat → Bool) : SL (At Ss L) = SLL Ss L := by funext j W v; exact sl_at Ss L j W v
/-- what an operation leaves standing of the others' facts -/
def Pres (L : Nat → Bool) (i : Nat) (W W' : World) : Nat → List SPred → Prop
  | _, [] => True
  | k, p :: r => (k ≠ i → L k = true → ∀ u, p L W u → p (upd L i) W' u) ∧ Pres L i W W' (k + 1) r
theorem Pres.get {L : Nat → Bool} {i : Nat} {W W' : World} : ∀ {Ss : List SPred} {k : Nat}, Pres L i W W' k Ss → ∀ j u, k + j ≠ i → L (k + j) = true → SLL Ss L j W u → SLL Ss (upd L i) j W' u
  | [], _, _, _, _, _, _, _ => trivial
  | p :: r, k, h, j, u, hne, hl, hs => by
    cases j with
    | zero => exact h.1 hne hl u hs
    | succ j => exact Pres.get h.2 j u (by rw [show k + 1 + j = k + (j + 1) by omega]; exact hne) (by rw [show k + 1 + j = k + (j + 1) by omega]; exact hl) hs
section
variable {P : Program} {ops : List Oper} {Q : Exit → Act → World → Prop} {a : Act} {Ss : List SPred} {R : (Nat → Bool) → World → Prop}

theorem Src.monoL (mono : MonoAllL Ss) {L : Nat → Bool} (i : Nat) {A : Act} {W : World} : ∀ {src : List (Nat × Option Nat)}, Src (SLL Ss L) a A W src → Src (SLL Ss (upd L i)) a A W src
  | [], _ => trivial
  | (_, none) :: _, h => ⟨h.1, Src.monoL mono i h.2⟩
  | (_, some j) :: _, h => ⟨mono.get j L i W W _ (Below.refl _ _) h.1, Src.monoL mono i h.2⟩

/-- an operation that leaves all that was as it was -/
theorem vl_of (mono : MonoAllL Ss) {src : List (Nat × Option Nat)} {i : Nat} {o : Oper} (hR : ∀ L W W', Below W.heap.size W W' → R L W → R (upd L i) W')
    (h : ∀ L W, Closed ops L → L i = false → (∀ j, bindsTo o j = true → L j = true) → R L W → VC1 P Q a (SL (At Ss (upd L i))) (Below W.heap.size W) (fun W W' => Below W.heap.size W W') ops src i o) :
    VL1 P Q a (SLL Ss) R ops src i o := by
  intro L A W K hd hc hl hpre hR0 hs hK
  have := h L W hc hl hpre hR0 A W K hd (Below.refl _ _) (by rw [sl_at']; exact Src.monoL mono i hs)
  refine this fun v W' hb _ hS => hK v W' (hR L W W' hb hR0) (fun j u _ _ hj => mono.get j L i W W' u hb hj) ?_
  rw [sl_at'] at hS
  exact hS

theorem want_none {o : Oper} (hg : o.guard = none) (A : Act) : Region.wanted o (yielded ops.toArray A.tmps) = true := by simp [Region.wanted, hg]
end
end Go.Proofs.Ytkncomkncfcecaa
