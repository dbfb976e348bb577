/- == on sums by value. A region that draws its order, its facts hanging on what was done so far (L): for calls that write what others read. No program in sight. A region that draws its order: an operation that stores. No program in sight. The document's sum written out: a region of four stores. The document's sum: memory on its way; pieces of its code. -/
import Derived.Test.YtkncomkncfcecaaShaSum
import Derived.Stop.BytesEq
import Derived.Test.YtkncomkncfcecaaRegion
import Derived.Test.YtkncomkncfcecaaKnV
import Derived.Test.YtkncomkncfcecaaFlashLaws
set_option linter.unusedVariables false
set_option linter.unusedSimpArgs false
namespace Go.Proofs.Ytkncomkncfcecaa
open Go.RowKit
set_option maxRecDepth 100000 in
theorem eqH (w : World) (xs ys : List UInt8) (hx : xs.length = 32) (hy : ys.length = 32) :
    (Op.equalIn 10000 29 (.agg (bv xs).toArray) (.agg (bv ys).toArray)).run Try.prog w = .ok (xs == ys) w :=
  run_equalIn_bytes w 9998 29 5 32 hashUnder Try.underlying5 (fun _ => rfl) xs ys hx hy
end Go.Proofs.Ytkncomkncfcecaa
set_option linter.unusedVariables false
set_option linter.unusedSimpArgs false
namespace Go.Proofs.Ytkncomkncfcecaa
open Go.RowKit
def upd (L : Nat → Bool) (i : Nat) : Nat → Bool := fun k => if k = i then true else L k
theorem upd_self (L : Nat → Bool) (i : Nat) : upd L i i = true := by simp [upd]
theorem Xq (L : Nat → Bool) {i k : Nat} (h : k ≠ i) : upd L i k = L k := by simp [upd, h]
def Closed (ops : List Oper) (L : Nat → Bool) : Prop := ∀ i o, ops[i]? = some o → L i = true → ∀ j, bindsTo o j = true → L j = true
def behindOk (ops : List Oper) (j : Nat) (D : List Nat) : Bool :=
  D.all fun i => ((ops[i]?).map fun o => o.after.any fun e => Region.binds .any e && (e.on == j || (decide (e.on < i) && D.contains e.on))).getD false
theorem Closed.behind {ops : List Oper} {L : Nat → Bool} (hc : Closed ops L) {j : Nat} (D : List Nat) (hD : behindOk ops j D = true) : ∀ i, i ∈ D → L i = true → L j = true := by
  intro i
  induction i using Nat.strongRecOn with
  | _ i ih =>
    intro hi hl
    have h1 := List.all_eq_true.1 hD i hi
    cases ho : ops[i]? with
    | none => rw [ho] at h1; simp at h1
    | some o =>
      rw [ho] at h1
      simp only [Option.map_some, Option.getD_some, Array.any_eq_true, Bool.and_eq_true, Bool.or_eq_true, beq_iff_eq, decide_eq_true_eq] at h1
      obtain ⟨k, hk, hb, h2⟩ := h1
      have hon : L o.after[k].on = true := hc i o ho hl _ (by
        simp only [bindsTo, Array.any_eq_true]
        exact ⟨k, hk, by simp [hb]⟩)
      rcases h2 with h2 | ⟨h2, h3⟩
      · rw [← h2]; exact hon
      · exact ih _ h2 (by simpa using h3) hon
section
variable {P : Program} {ops : List Oper} {Q : Exit → Act → World → Prop} {a : Act} {S : (Nat → Bool) → Nat → World → Value → Prop} {R : (Nat → Bool) → World → Prop}
def VL1 (P : Program) (Q : Exit → Act → World → Prop) (a : Act) (S : (Nat → Bool) → Nat → World → Value → Prop) (R : (Nat → Bool) → World → Prop) (ops : List Oper) (src : List (Nat × Option Nat)) (i : Nat) (o : Oper) : Prop :=
  ∀ (L : Nat → Bool) (A : Act) (W : World) (K : Act → World → Prop), A.defers = a.defers → Closed ops L → L i = false → (∀ j, bindsTo o j = true → L j = true) → R L W → Src (S L) a A W src →
    (∀ v W', R (upd L i) W' → (∀ j u, j ≠ i → L j = true → S L j W u → S (upd L i) j W' u) → S (upd L i) i W' v → K (A.put o.dst v) W') →
    if Region.wanted o (yielded ops.toArray A.tmps) = true then o.wp P A W K Q else K (A.put o.dst undef) W
def VLs (P : Program) (Q : Exit → Act → World → Prop) (a : Act) (S : (Nat → Bool) → Nat → World → Value → Prop) (R : (Nat → Bool) → World → Prop) (ops : List Oper) : Nat → List (List (Nat × Option Nat)) → List Oper → Prop
  | _, _, [] => True
  | i, srcs, o :: rest => VL1 P Q a S R ops (srcs.headD []) i o ∧ VLs P Q a S R ops (i + 1) srcs.tail rest
theorem VLs.get (l : List Oper) :
    ∀ (k : Nat) (srcs : List (List (Nat × Option Nat))), VLs P Q a S R ops k srcs l → ∀ i o, l[i]? = some o → VL1 P Q a S R ops (srcs.getD i []) (k + i) o := by
  induction l with
  | nil => intro k srcs _ i o h; simp at h
  | cons x l ih =>
    intro k srcs h i o hi
    obtain ⟨h1, h2⟩ := h
    cases i with
    | zero =>
      simp at hi; subst hi
      cases srcs <;> exact h1
    | succ i =>
      have := ih (k + 1) srcs.tail h2 i o (by simpa using hi)
      rw [show k + (i + 1) = k + 1 + i by omega]
      cases srcs with
      | nil => simpa using this
      | cons s srcs => simpa using this
theorem rj_stepL {S S' : Nat → World → Value → Prop} {R R' : World → Prop} {listed : Array Bool} {A : Act} {W : World} (J : RJ ops a S R listed A W) {i : Nat} {o : Oper} (hi : ops[i]? = some o) (hpre : ∀ j, bindsTo o j = true → listed.getD j false = true)
    (hap : dstsApart ops a.tmps.size = true) {v : Value} {W' : World} (hR : R' W') (hmono : ∀ j u, j ≠ i → listed.getD j false = true → S j W u → S' j W' u) (hS : ∀ d, o.dst = some d → S' i W' v) :
    RJ ops a S' R' (listed.setIfInBounds i true) (A.put o.dst v) W' := by
  have hlt : i < ops.length := (List.getElem?_eq_some_iff.1 hi).1
  refine ⟨?_, ?_, hR, by simp [J.lsize], ?_, ?_, ?_⟩
  · cases o.dst <;> exact J.def_
  · cases hd : o.dst <;> simp [Act.put, J.size]
  · intro k q hk hl j hb
    by_cases hki : k = i
    · subst hki
      rw [hi] at hk; injection hk with hk; subst hk
      have := hpre j hb
      by_cases hji : k = j
      · subst hji; rw [Yt _ _ (by rw [J.lsize]; exact hlt)]
      · rw [getD_set_ne _ _ _ hji]; exact this
    · rw [getD_set_ne _ _ _ (Ne.symm hki)] at hl
      have := J.closed k q hk hl j hb
      by_cases hji : i = j
      · subst hji; rw [Yt _ _ (by rw [J.lsize]; exact hlt)]
      · rw [getD_set_ne _ _ _ hji]; exact this
  · intro k q d hk hl hd
    by_cases hki : k = i
    · subst hki
      rw [hi] at hk; injection hk with hk; subst hk
      obtain ⟨hdn, _⟩ := Ve hap hi hd
      rw [hd, XW _ _ _ (by rw [J.size]; exact hdn)]
      exact hS d hd
    · rw [getD_set_ne _ _ _ (Ne.symm hki)] at hl
      have h0 := J.done k q d hk hl hd
      cases ho : o.dst with
      | none => exact hmono k _ hki hl h0
      | some e =>
        have hne : e ≠ d := fun he => by
          subst he
          exact (Ve hap hi ho).2 k q hk hki hd
        rw [X1 _ _ _ _ hne]
        exact hmono k _ hki hl h0
  · intro d hd
    have h0 := J.rest d fun k q hk hl => by
      by_cases hki : k = i
      · subst hki
        exact hd k q hk (by rw [Yt _ _ (by rw [J.lsize]; exact hlt)])
      · exact hd k q hk (by rw [getD_set_ne _ _ _ (Ne.symm hki)]; exact hl)
    cases ho : o.dst with
    | none => exact h0
    | some e =>
      have hne : e ≠ d := fun he => by
        subst he
        exact hd i o hi (by rw [Yt _ _ (by rw [J.lsize]; exact hlt)]) ho
      rw [X1 _ _ _ _ hne]
      exact h0
def LL (listed : Array Bool) : Nat → Bool := fun i => listed.getD i false
theorem LL_set {listed : Array Bool} {i : Nat} (h : i < listed.size) : LL (listed.setIfInBounds i true) = upd (LL listed) i := by
  funext k
  by_cases hk : k = i
  · subst hk; rw [upd_self]; exact Yt _ _ h
  · rw [Xq _ hk]; exact getD_set_ne _ _ _ (Ne.symm hk) _
theorem wpAny_L {srcs : List (List (Nat × Option Nat))} (hok : regionOk ops srcs a.tmps.size = true) (hback : edgesBack ops = true)
    (vc : VLs P Q a S R ops 0 srcs ops)
    (fin : ∀ A W listed, RJ ops a (S (LL listed)) (R (LL listed)) listed A W → (∀ i, i < ops.length → listed.getD i false = true) → Q .normal A W) :
    ∀ (fuel : Nat) (listed : Array Bool) (A : Act) (W : World), unlisted listed ≤ fuel → RJ ops a (S (LL listed)) (R (LL listed)) listed A W → wpAny P .any ops.toArray Q fuel listed A W := by
  intro fuel
  simp only [regionOk, Bool.and_eq_true] at hok
  obtain ⟨hap, hsrc⟩ := hok
  induction fuel with
  | zero =>
    intro listed A W hu J
    have hall : ∀ i, i < ops.length → listed.getD i false = true := by
      intro i hi
      have h0 : unlisted listed = 0 := by omega
      have hm : false ∉ listed.toList := List.count_eq_zero.1 h0
      have hi' : i < listed.size := by rw [J.lsize]; exact hi
      simp only [Array.getD, hi', dite_true]
      cases hb : listed[i] with
      | true => simp [hb]
      | false => exact absurd (by rw [← hb]; simp) hm
    refine ⟨?_, fin A W listed J hall⟩
    apply List.filter_eq_nil_iff.2
    intro i hi
    simp at hi
    have := hall i hi
    have h2 : listed.getD i true = true := by
      have hi' : i < listed.size := by rw [J.lsize]; exact hi
      simp [hi'] at this ⊢
      exact this
    simp [h2]
  | succ fuel ih =>
    intro listed A W hu J
    refine ⟨fun hr => fin A W listed J (live_ hback J.lsize hr), fun i hi => ?_⟩
    obtain ⟨o, ho, hlt, hnl, hpre⟩ := ready_mem hi
    have hnl' : listed.getD i false = false := by
      have hi' : i < listed.size := by rw [J.lsize]; exact hlt
      simp [hi'] at hnl ⊢
      exact hnl
    have hv := VLs.get ops 0 srcs vc i o ho
    rw [Nat.zero_add] at hv
    have hs1 := List.all_eq_true.1 hsrc i (List.mem_range.2 hlt)
    rw [ho] at hs1
    simp only [Option.map_some, Option.getD_some] at hs1
    have hSrc := src_spec J ho hpre hnl' _ hs1
    have hnext : ∀ v W', R (upd (LL listed) i) W' → (∀ j u, j ≠ i → LL listed j = true → S (LL listed) j W u → S (upd (LL listed) i) j W' u) → S (upd (LL listed) i) i W' v → wpAny P .any ops.toArray Q fuel (listed.setIfInBounds i true) (A.put o.dst v) W' := by
      intro v W' hR' hmono hS
      have hset := LL_set (listed := listed) (i := i) (by rw [J.lsize]; exact hlt)
      refine ih _ _ _ ?_ (rj_stepL J ho hpre hap (by rw [hset]; exact hR') (by rw [hset]; exact hmono) (by rw [hset]; exact fun _ _ => hS))
      have := Wg listed i (by rw [J.lsize]; exact hlt) hnl
      omega
    refine wpOp_step (o := o) (by simpa using ho) fun K' hK' => ?_
    exact hv (LL listed) A W K' J.def_ (fun k q hk hl j hb => J.closed k q hk hl j hb) hnl' hpre J.world hSrc fun v W' h1 h2 h3 => hK' _ _ (hnext v W' h1 h2 h3)
theorem wp_region_L {id : Nat} {w : World} (S : (Nat → Bool) → Nat → World → Value → Prop) (R : (Nat → Bool) → World → Prop) (srcs : List (List (Nat × Option Nat)))
    (hm : P.follows .mixedOrders = true) (hok : regionOk ops srcs a.tmps.size = true) (hback : edgesBack ops = true) (hR : R (fun _ => false) w.drew)
    (vc : VLs P Q a S R ops 0 srcs ops)
    (fin : ∀ L A W, A.defers = a.defers → A.tmps.size = a.tmps.size → (∀ i, i < ops.length → L i = true) → R L W → Ends (S L) A W 0 ops → (∀ d, noDst ops d = true → A.tmps.getD d undef = a.tmps.getD d undef) → Q .normal A W) :
    (Code.region id ops.toArray true).wp P Q a w := by
  refine wp_region_any hm (wpAny_L hok hback vc (fun A W listed J hall => ?_) _ _ _ _ ?_ ?_)
  · refine fin (LL listed) A W J.def_ J.size hall J.world (ends_of (listed := listed) (fun i o d hi hd => J.done i o d hi (hall i (List.getElem?_eq_some_iff.1 hi).1) hd) ops 0 (fun i => by rw [Nat.zero_add])) fun d hd => ?_
    refine J.rest d fun i o hi _ he => ?_
    have := List.all_eq_true.1 hd o (List.mem_of_getElem? hi)
    rw [he] at this
    simp at this
  · simp [unlisted, List.count_replicate]
  · have h0 : LL (Array.replicate ops.toArray.size false) = fun _ => false := by
      funext i; simp only [LL]; rw [Array.getD_eq_getD_getElem?, Array.getElem?_replicate]; split <;> rfl
    rw [h0]
    exact ⟨rfl, rfl, hR, by simp, fun i o _ h => by simp [Array.getElem?_replicate] at h; split at h <;> simp at h, fun i o d _ h => by simp [Array.getElem?_replicate] at h; split at h <;> simp at h, fun d _ => rfl⟩
end
/-! ### the rule's use: facts of slots as a list, which live on as memory grows and as more is done -/
abbrev SPred := (Nat → Bool) → World → Value → Prop
def SLL (Ss : List SPred) (L : Nat → Bool) (i : Nat) (W : World) (v : Value) : Prop := (Ss.getD i (fun _ _ _ => True)) L W v
def IsL (u : Value) : SPred := fun _ _ v => v = u
def MonoL (p : SPred) : Prop := ∀ L i W W' v, Below W.heap.size W W' → p L W v → p (upd L i) W' v
def MonoAllL : List SPred → Prop
  | [] => True
  | p :: r => MonoL p ∧ MonoAllL r
theorem Yd (u : Value) : MonoL (IsL u) := fun _ _ _ _ _ _ h => h
theorem MonoAllL.get {Ss : List SPred} (h : MonoAllL Ss) : ∀ j L i W W' v, Below W.heap.size W W' → SLL Ss L j W v → SLL Ss (upd L i) j W' v := by
  induction Ss with
  | nil => intro j L i W W' v _ _; exact trivial
  | cons p r ih =>
    intro j
    cases j with
    | zero => exact h.1
    | succ j => exact ih h.2 j
def At (Ss : List SPred) (L : Nat → Bool) : List (World → Value → Prop) := Ss.map fun p => p L
theorem sl_at (Ss : List SPred) (L : Nat → Bool) (j : Nat) (W : World) (v : Value) : SL (At Ss L) j W v = SLL Ss L j W v := by
  induction Ss generalizing j with
  | nil => rfl
  | cons p r ih => cases j with
    | zero => rfl
    | succ j => exact ih j
theorem sl_at' (Ss : List SPred) (L : Nat → Bool) : SL (At Ss L) = SLL Ss L := by funext j W v; exact sl_at Ss L j W v
def Pres (L : Nat → Bool) (i : Nat) (W W' : World) : Nat → List SPred → Prop
  | _, [] => True
  | k, p :: r => (k ≠ i → L k = true → ∀ u, p L W u → p (upd L i) W' u) ∧ Pres L i W W' (k + 1) r
theorem Pres.get {L : Nat → Bool} {i : Nat} {W W' : World} : ∀ {Ss : List SPred} {k : Nat}, Pres L i W W' k Ss → ∀ j u, k + j ≠ i → L (k + j) = true → SLL Ss L j W u → SLL Ss (upd L i) j W' u
  | [], _, _, _, _, _, _, _ => trivial
  | p :: r, k, h, j, u, hne, hl, hs => by
    cases j with
    | zero => exact h.1 hne hl u hs
    | succ j => exact Pres.get h.2 j u (by rw [show k + 1 + j = k + (j + 1) by omega]; exact hne) (by rw [show k + 1 + j = k + (j + 1) by omega]; exact hl) hs
section
variable {P : Program} {ops : List Oper} {Q : Exit → Act → World → Prop} {a : Act} {Ss : List SPred} {R : (Nat → Bool) → World → Prop}
theorem Src.monoL (mono : MonoAllL Ss) {L : Nat → Bool} (i : Nat) {A : Act} {W : World} : ∀ {src : List (Nat × Option Nat)}, Src (SLL Ss L) a A W src → Src (SLL Ss (upd L i)) a A W src
  | [], _ => trivial
  | (_, none) :: _, h => ⟨h.1, Src.monoL mono i h.2⟩
  | (_, some j) :: _, h => ⟨mono.get j L i W W _ (Below.refl _ _) h.1, Src.monoL mono i h.2⟩
theorem YS (mono : MonoAllL Ss) {src : List (Nat × Option Nat)} {i : Nat} {o : Oper} (hR : ∀ L W W', Below W.heap.size W W' → R L W → R (upd L i) W')
    (h : ∀ L W, Closed ops L → L i = false → (∀ j, bindsTo o j = true → L j = true) → R L W → VC1 P Q a (SL (At Ss (upd L i))) (Below W.heap.size W) (fun W W' => Below W.heap.size W W') ops src i o) :
    VL1 P Q a (SLL Ss) R ops src i o := by
  intro L A W K hd hc hl hpre hR0 hs hK
  have := h L W hc hl hpre hR0 A W K hd (Below.refl _ _) (by rw [sl_at']; exact Src.monoL mono i hs)
  refine this fun v W' hb _ hS => hK v W' (hR L W W' hb hR0) (fun j u _ _ hj => mono.get j L i W W' u hb hj) ?_
  rw [sl_at'] at hS
  exact hS
theorem WX {o : Oper} (hg : o.guard = none) (A : Act) : Region.wanted o (yielded ops.toArray A.tmps) = true := by simp [Region.wanted, hg]
end
end Go.Proofs.Ytkncomkncfcecaa
set_option linter.unusedVariables false
set_option linter.unusedSimpArgs false
namespace Go.Proofs.Ytkncomkncfcecaa
open Go.RowKit
section
variable {P : Program} {ops : List Oper} {Q : Exit → Act → World → Prop} {a : Act} {Ss : List SPred} {R : (Nat → Bool) → World → Prop}
theorem vl_store {src : List (Nat × Option Nat)} {i : Nat} {o : Oper} (hw : ∀ L A W, Src (SLL Ss L) a A W src → Region.wanted o (yielded ops.toArray A.tmps) = true)
    (h : ∀ L A W, Closed ops L → L i = false → (∀ j, bindsTo o j = true → L j = true) → R L W → Src (SLL Ss L) a A W src →
      ∃ W', (execOp A.eval o).run P W = .ok .skip W' ∧ R (upd L i) W' ∧ Pres L i W W' 0 Ss ∧ SLL Ss (upd L i) i W' undef) : VL1 P Q a (SLL Ss) R ops src i o := by
  intro L A W K hd hc hl hpre hR0 hs hK
  rw [if_pos (hw L A W hs)]
  obtain ⟨W', hr, hR', hp, hS⟩ := h L A W hc hl hpre hR0 hs
  unfold Oper.wp
  rw [hr]
  exact hK undef W' hR' (fun j u hne hlj hsj => hp.get j u (by omega) (by rw [Nat.zero_add]; exact hlj) hsj) hS
end
theorem Wv : MonoL (fun _ _ _ => True) := fun _ _ _ _ _ _ _ => trivial
end Go.Proofs.Ytkncomkncfcecaa
set_option linter.unusedVariables false
set_option linter.unusedSimpArgs false
namespace Go.Proofs.Ytkncomkncfcecaa
open Go.RowKit
theorem run_storeByteVar (W : World) (g i : Nat) (x : UInt8) {y : Value} (hc : W.cell? ⟨g, i, none⟩ = some y) (hf : W.frozen? ⟨g, i, none⟩ = false) :
    (storeVar 5 ⟨g, i, none⟩ (.int .u8 (x.toNat : Int))).run Try.prog W = .ok () (W.setCell ⟨g, i, none⟩ (.int .u8 (x.toNat : Int))) := by
  go_simp
theorem Xb {o : Oper} {A : Act} {W : World} (p v : Tmp) (ho : o.op = .store 5 (.tmp p) (.tmp v)) {g i : Nat} {x : UInt8} (hp : A.tmps[p]?.getD undef = .pointer (some ⟨g, i, none⟩)) (hv : A.tmps[v]?.getD undef = .int .u8 (x.toNat : Int))
    {y : Value} (hc : W.cell? ⟨g, i, none⟩ = some y) (hf : W.frozen? ⟨g, i, none⟩ = false) :
    (execOp A.eval o).run Try.prog W = .ok .skip (W.setCell ⟨g, i, none⟩ (.int .u8 (x.toNat : Int))) := by
  have hp' : A.eval (.tmp p) = .pointer (some ⟨g, i, none⟩) := by rw [← hp]; exact Array.getD_eq_getD_getElem? ..
  have hv' : A.eval (.tmp v) = .int .u8 (x.toNat : Int) := by rw [← hv]; exact Array.getD_eq_getD_getElem? ..
  unfold execOp
  simp only [ho, hp', hv', Instr.storeAt, Instr.sureAddr, Sem.run_bind, Sem.run_pure, Result.andThen_ok, run_storeByteVar W g i x hc hf]
def sI (b : Bool) (i : Nat) (x : UInt8) (l : List UInt8) : List UInt8 := if b = true then l.set i x else l
theorem length_sI (b : Bool) (i : Nat) (x : UInt8) (l : List UInt8) : (sI b i x l).length = l.length := by unfold sI; split <;> simp
theorem sI_set (b : Bool) (i : Nat) (x : UInt8) (l : List UInt8) (j : Nat) (y : UInt8) (h : i ≠ j) : (sI b i x l).set j y = sI b i x (l.set j y) := by
  unfold sI
  split
  · exact List.set_comm _ _ h
  · rfl
theorem sI_on (i : Nat) (x : UInt8) (l : List UInt8) : (sI false i x l).set i x = sI true i x l := rfl
def outL (k : Nat) (F : List W32) (x0 x1 x2 x3 : UInt8) (L : Nat → Bool) : List UInt8 :=
  sI (L 37) (4 * k + 3) x3 (sI (L 35) (4 * k + 2) x2 (sI (L 33) (4 * k + 1) x1 (sI (L 31) (4 * k) x0 (outB F (4 * k) ++ List.replicate (32 - 4 * k) 0))))
theorem length_outL (k : Nat) (F : List W32) (x0 x1 x2 x3 : UInt8) (L : Nat → Bool) (hk : k < 8) : (outL k F x0 x1 x2 x3 L).length = 32 := by
  unfold outL
  rw [length_sI, length_sI, length_sI, length_sI, List.length_append, Xh, List.length_replicate]
  omega
def OutR (B : World) (g2 g4 g7 k : Nat) (F : List W32) (x0 x1 x2 x3 : UInt8) (L : Nat → Bool) (W : World) : Prop :=
  Below B.heap.size B W ∧ B.heap.size ≤ g7 ∧ g2 ≠ g7 ∧ g4 ≠ g7 ∧ k < 8 ∧ W.heap[g2]? = some (.cells (bv z32).toArray 29 (0, 0)) ∧ W.heap[g4]? = some (.cells (wv F).toArray 83 (0, 0)) ∧
    W.heap[g7]? = some (.cells (bv (outL k F x0 x1 x2 x3 L)).toArray 29 (0, 0))
section
variable {B : World} {g2 g4 g7 k : Nat} {F : List W32} {x0 x1 x2 x3 : UInt8}
theorem YG {W W' : World} (hb : Below W.heap.size W W') {g : Nat} {o : Obj} (h : W.heap[g]? = some o) : W'.heap[g]? = some o := by
  rw [hb.block g (Array.getElem?_eq_some_iff.1 h).1]; exact h
theorem Yc {i : Nat} (h1 : 31 ≠ i) (h2 : 33 ≠ i) (h3 : 35 ≠ i) (h4 : 37 ≠ i) : ∀ L W W', Below W.heap.size W W' → OutR B g2 g4 g7 k F x0 x1 x2 x3 L W → OutR B g2 g4 g7 k F x0 x1 x2 x3 (upd L i) W' := by
  intro L W W' hb ⟨a1, a2, a3, a4, a5, a6, a7, a8⟩
  refine ⟨Z1 a1 hb a1.size, a2, a3, a4, a5, YG hb a6, YG hb a7, ?_⟩
  unfold outL
  rw [Xq L h1, Xq L h2, Xq L h3, Xq L h4]
  exact YG hb a8
theorem out_cell {L : Nat → Bool} {W : World} {X : W32} (h : OutR B g2 g4 g7 k F x0 x1 x2 x3 L W) (hX : F.getD k 0 = X) (hl : k < F.length) : W.cell? ⟨g4, k, none⟩ = some (.int .u32 (X.toNat : Int)) := by
  rw [← hX]; exact YA h.2.2.2.2.2.2.1 hl
theorem out_old {L : Nat → Bool} {W : World} (h : OutR B g2 g4 g7 k F x0 x1 x2 x3 L W) {i : Nat} (hi : i < 32) : ∃ y, W.cell? ⟨g7, i, none⟩ = some y :=
  ⟨_, Z4 h.2.2.2.2.2.2.2 (by rw [List.getElem?_toArray, bv_get _ i (by rw [length_outL _ _ _ _ _ _ _ h.2.2.2.2.1]; exact hi)])⟩
theorem out_free {L : Nat → Bool} {W : World} (h : OutR B g2 g4 g7 k F x0 x1 x2 x3 L W) {i : Nat} : W.frozen? ⟨g7, i, none⟩ = false := Z6 h.2.2.2.2.2.2.2
theorem out_set {L : Nat → Bool} {W : World} (h : OutR B g2 g4 g7 k F x0 x1 x2 x3 L W) (i j : Nat) (x : UInt8) (hL : (outL k F x0 x1 x2 x3 L).set j x = outL k F x0 x1 x2 x3 (upd L i)) :
    OutR B g2 g4 g7 k F x0 x1 x2 x3 (upd L i) (W.setCell ⟨g7, j, none⟩ (.int .u8 (x.toNat : Int))) := by
  obtain ⟨a1, a2, a3, a4, a5, a6, a7, a8⟩ := h
  refine ⟨a1.setCell a2 _, a2, a3, a4, a5, ?_, ?_, ?_⟩
  · rw [Below.heap_setCell _ _ _ _ a3]; exact a6
  · rw [Below.heap_setCell _ _ _ _ a4]; exact a7
  · rw [bv_setCell a8, hL]
theorem out_st31 {L : Nat → Bool} {W : World} (hl : L 31 = false) (h : OutR B g2 g4 g7 k F x0 x1 x2 x3 L W) (_ : k < 8) : OutR B g2 g4 g7 k F x0 x1 x2 x3 (upd L 31) (W.setCell ⟨g7, 4 * k, none⟩ (.int .u8 (x0.toNat : Int))) := by
  refine out_set h 31 _ x0 ?_
  unfold outL
  rw [sI_set _ _ _ _ _ _ (by omega), sI_set _ _ _ _ _ _ (by omega), sI_set _ _ _ _ _ _ (by omega), hl, sI_on, upd_self, Xq L (by decide), Xq L (by decide), Xq L (by decide)]
theorem out_st33 {L : Nat → Bool} {W : World} (hl : L 33 = false) (h : OutR B g2 g4 g7 k F x0 x1 x2 x3 L W) (_ : k < 8) : OutR B g2 g4 g7 k F x0 x1 x2 x3 (upd L 33) (W.setCell ⟨g7, 4 * k + 1, none⟩ (.int .u8 (x1.toNat : Int))) := by
  refine out_set h 33 _ x1 ?_
  unfold outL
  rw [sI_set _ _ _ _ _ _ (by omega), sI_set _ _ _ _ _ _ (by omega), hl, sI_on, upd_self, Xq L (by decide), Xq L (by decide), Xq L (by decide)]
theorem out_st35 {L : Nat → Bool} {W : World} (hl : L 35 = false) (h : OutR B g2 g4 g7 k F x0 x1 x2 x3 L W) (_ : k < 8) : OutR B g2 g4 g7 k F x0 x1 x2 x3 (upd L 35) (W.setCell ⟨g7, 4 * k + 2, none⟩ (.int .u8 (x2.toNat : Int))) := by
  refine out_set h 35 _ x2 ?_
  unfold outL
  rw [sI_set _ _ _ _ _ _ (by omega), hl, sI_on, upd_self, Xq L (by decide), Xq L (by decide), Xq L (by decide)]
theorem out_st37 {L : Nat → Bool} {W : World} (hl : L 37 = false) (h : OutR B g2 g4 g7 k F x0 x1 x2 x3 L W) (_ : k < 8) : OutR B g2 g4 g7 k F x0 x1 x2 x3 (upd L 37) (W.setCell ⟨g7, 4 * k + 3, none⟩ (.int .u8 (x3.toNat : Int))) := by
  refine out_set h 37 _ x3 ?_
  unfold outL
  rw [hl, sI_on, upd_self, Xq L (by decide), Xq L (by decide), Xq L (by decide)]
end
theorem outB_four (F : List W32) (k : Nat) (hk : k < 8) (x0 x1 x2 x3 : UInt8) (h0 : x0 = UInt8.ofNat ((F.getD k 0).toNat / 2 ^ 24)) (h1 : x1 = UInt8.ofNat ((F.getD k 0).toNat / 2 ^ 16)) (h2 : x2 = UInt8.ofNat ((F.getD k 0).toNat / 2 ^ 8)) (h3 : x3 = UInt8.ofNat ((F.getD k 0).toNat / 2 ^ 0)) (L : Nat → Bool) (hL : ∀ i, i < 38 → L i = true) :
    outL k F x0 x1 x2 x3 L = outB F (4 * (k + 1)) ++ List.replicate (32 - 4 * (k + 1)) 0 := by
  have e0 := Wq F (4 * k)
  have e1 := Wq F (4 * k + 1)
  have e2 := Wq F (4 * k + 2)
  have e3 := Wq F (4 * k + 3)
  rw [show (4 * k) / 4 = k by omega, show 24 - 8 * (4 * k % 4) = 24 by omega, ← h0] at e0
  rw [show (4 * k + 1) / 4 = k by omega, show 24 - 8 * ((4 * k + 1) % 4) = 16 by omega, ← h1] at e1
  rw [show (4 * k + 2) / 4 = k by omega, show 24 - 8 * ((4 * k + 2) % 4) = 8 by omega, ← h2] at e2
  rw [show (4 * k + 3) / 4 = k by omega, show 24 - 8 * ((4 * k + 3) % 4) = 0 by omega, ← h3] at e3
  unfold outL
  rw [hL 31 (by omega), hL 33 (by omega), hL 35 (by omega), hL 37 (by omega)]
  show ((((outB F (4 * k) ++ List.replicate (32 - 4 * k) 0).set (4 * k) x0).set (4 * k + 1) x1).set (4 * k + 2) x2).set (4 * k + 3) x3 = _
  rw [Vg F (4 * k) (by omega) x0 e0, Vg F (4 * k + 1) (by omega) x1 e1, Vg F (4 * k + 2) (by omega) x2 e2, Vg F (4 * k + 3) (by omega) x3 e3]
  rfl
theorem WY (X : W32) (e : Nat) (m : Nat) (hm : m = 2 ^ e) : ∃ x : UInt8, Hid ((X.toNat : Int) / (m : Int) % 256 = (x.toNat : Int)) ∧ Hid (x = UInt8.ofNat (X.toNat / 2 ^ e)) := by
  subst hm
  obtain ⟨x, h1, h2⟩ := out_byte X e
  refine ⟨x, ?_, h2⟩
  show _ = _
  rw [← h1, Int.natCast_pow]
  rfl
def outSs (g4 g7 k : Nat) (X : W32) (x0 x1 x2 x3 : UInt8) : List SPred :=
  [IsL (.int .i64 (k : Int)), IsL (.int .i64 (4 * (k : Int))), IsL (.int .i64 (k : Int)), IsL (.int .i64 (4 * (k : Int))), IsL (.int .i64 (4 * (k : Int) + 1)), IsL (.int .i64 (k : Int)), IsL (.int .i64 (4 * (k : Int))), IsL (.int .i64 (4 * (k : Int) + 2)), IsL (.int .i64 (k : Int)), IsL (.int .i64 (4 * (k : Int))), IsL (.int .i64 (4 * (k : Int) + 3)), IsL (.int .i64 (k : Int)), IsL (.pointer (some ⟨g4, k, none⟩)), IsL (.int .u32 (X.toNat : Int)), IsL (.int .u32 ((X.toNat : Int) / 16777216)), IsL (.int .u8 (x0.toNat : Int)), IsL (.int .i64 (k : Int)), IsL (.pointer (some ⟨g4, k, none⟩)), IsL (.int .u32 (X.toNat : Int)), IsL (.int .u32 ((X.toNat : Int) / 65536)), IsL (.int .u8 (x1.toNat : Int)), IsL (.int .i64 (k : Int)), IsL (.pointer (some ⟨g4, k, none⟩)), IsL (.int .u32 (X.toNat : Int)), IsL (.int .u32 ((X.toNat : Int) / 256)), IsL (.int .u8 (x2.toNat : Int)), IsL (.int .i64 (k : Int)), IsL (.pointer (some ⟨g4, k, none⟩)), IsL (.int .u32 (X.toNat : Int)), IsL (.int .u8 (x3.toNat : Int)), IsL (.pointer (some ⟨g7, 4 * k, none⟩)), fun _ _ _ => True, IsL (.pointer (some ⟨g7, 4 * k + 1, none⟩)), fun _ _ _ => True, IsL (.pointer (some ⟨g7, 4 * k + 2, none⟩)), fun _ _ _ => True, IsL (.pointer (some ⟨g7, 4 * k + 3, none⟩)), fun _ _ _ => True]
theorem ZK (g4 g7 k : Nat) (X : W32) (x0 x1 x2 x3 : UInt8) : MonoAllL (outSs g4 g7 k X x0 x1 x2 x3) := ⟨Yd _, Yd _, Yd _, Yd _, Yd _, Yd _, Yd _, Yd _, Yd _, Yd _, Yd _, Yd _, Yd _, Yd _, Yd _, Yd _, Yd _, Yd _, Yd _, Yd _, Yd _, Yd _, Yd _, Yd _, Yd _, Yd _, Yd _, Yd _, Yd _, Yd _, Yd _, Wv, Yd _, Wv, Yd _, Wv, Yd _, Wv, trivial⟩
theorem WB (g4 g7 k : Nat) (X : W32) (x0 x1 x2 x3 : UInt8) (L : Nat → Bool) (i : Nat) (W W' : World) : Pres L i W W' 0 (outSs g4 g7 k X x0 x1 x2 x3) :=
  ⟨fun _ _ _ h => h, fun _ _ _ h => h, fun _ _ _ h => h, fun _ _ _ h => h, fun _ _ _ h => h, fun _ _ _ h => h, fun _ _ _ h => h, fun _ _ _ h => h, fun _ _ _ h => h, fun _ _ _ h => h, fun _ _ _ h => h, fun _ _ _ h => h, fun _ _ _ h => h, fun _ _ _ h => h, fun _ _ _ h => h, fun _ _ _ h => h, fun _ _ _ h => h, fun _ _ _ h => h, fun _ _ _ h => h, fun _ _ _ h => h, fun _ _ _ h => h, fun _ _ _ h => h, fun _ _ _ h => h, fun _ _ _ h => h, fun _ _ _ h => h, fun _ _ _ h => h, fun _ _ _ h => h, fun _ _ _ h => h, fun _ _ _ h => h, fun _ _ _ h => h, fun _ _ _ h => h, fun _ _ _ h => h, fun _ _ _ h => h, fun _ _ _ h => h, fun _ _ _ h => h, fun _ _ _ h => h, fun _ _ _ h => h, fun _ _ _ h => h, trivial⟩
end Go.Proofs.Ytkncomkncfcecaa
set_option linter.unusedVariables false
set_option linter.unusedSimpArgs false
namespace Go.Proofs.Ytkncomkncfcecaa
open Go.RowKit
theorem st8Info : (Try.prog.info? 83).map (·.size) = some 8 := by kernel_rfl
theorem st8Under : Try.prog.underlying 83 = some (.array 8 80) := by kernel_rfl
theorem st8Zero : (Try.prog.info? 83).bind (·.zero) = some (.agg (wv z8).toArray) := zero_of z8 (by kernel_rfl)
theorem infoR (L : List W32) (h : L.length = 8) : (Try.prog.info? 83).map (·.size) = some (wv L).toArray.size := by rw [st8Info, XJ, h]
theorem len_byteR (N i : Nat) : ∃ x : UInt8, (N : Int) * 8 / 2 ^ (8 * i) % 256 = (x.toNat : Int) ∧ x = UInt8.ofNat (N * 8 / 2 ^ (8 * i)) := by
  refine ⟨_, ?_, rfl⟩
  rw [UInt8.toNat_ofNat']
  generalize 8 * i = e
  rw [Int.natCast_emod, Int.natCast_ediv, Int.natCast_mul, Int.natCast_pow]
  rfl
theorem WZ (P : List UInt8) (a t : Nat) (ht : t < 64) : ((P.drop a).take 64).getD t 0 = P.getD (a + t) 0 := by
  rw [List.getD_eq_getElem?_getD, List.getD_eq_getElem?_getD, List.getElem?_take, if_pos ht, List.getElem?_drop]
theorem be32_piece (P : List UInt8) (a q : Nat) (hq : q + 3 < 64) : be32 ((P.drop a).take 64) q = be4 (P.getD (a + q) 0) (P.getD (a + q + 1) 0) (P.getD (a + q + 2) 0) (P.getD (a + q + 3) 0) := by
  unfold be32
  rw [WZ _ _ _ (by omega), WZ _ _ _ (by omega), WZ _ _ _ (by omega), WZ _ _ _ (by omega)]
  rfl
theorem wl_setR (l : List UInt8) (k : Nat) (hk : k < 64) (W : List W32) (hW : W.length = 64) (x : W32) (hx : wl l (k + 1) = wl l k ++ [x]) : (wl l k ++ W.drop k).set k x = wl l (k + 1) ++ W.drop (k + 1) := by
  rw [wl_set l k hk (W.drop k) (by rw [List.length_drop, hW]) x hx, List.tail_drop]
theorem addW_allR (s t : ShaSt) : addW s.words t.words 8 = (addSt s t).words := by
  unfold addSt addW ShaSt.words
  simp [BitVec.add_comm]
theorem shaX_code2 (t : ShaSt) (k w : W32) : (((t.h.toNat : Int) + bits .xor .u32 (bits .xor .u32 ((ror t.e 6).toNat : Int) ((ror t.e 11).toNat : Int)) ((ror t.e 25).toNat : Int) +
    bits .xor .u32 (bits .and .u32 (t.e.toNat : Int) (t.f.toNat : Int)) (bits .and .u32 (bits .xor .u32 (if IntKind.u32.signed = true then -1 else IntKind.u32.max) (t.e.toNat : Int)) (t.g.toNat : Int)) + (k.toNat : Int)) % 4294967296 + (w.toNat : Int)) % 4294967296 = ((shaX t k w).toNat : Int) := by
  rw [not_code, Yh, Yh, YK, YK, Yh, add4_code, Xr]
  rfl
theorem shaY_code2 (t : ShaSt) : (bits .xor .u32 (bits .xor .u32 ((ror t.a 2).toNat : Int) ((ror t.a 13).toNat : Int)) ((ror t.a 22).toNat : Int) +
    bits .xor .u32 (bits .xor .u32 (bits .and .u32 (t.a.toNat : Int) (t.b.toNat : Int)) (bits .and .u32 (t.a.toNat : Int) (t.c.toNat : Int))) (bits .and .u32 (t.b.toNat : Int) (t.c.toNat : Int))) % 4294967296 = ((shaY t).toNat : Int) := by
  rw [Yh, Yh, YK, YK, YK, Yh, Yh, Xr]
  rfl
structure Sh (w : World) (b o q : Nat) (P : List UInt8) (g2 g3 g4 g8 : Nat) (S W : List W32) (wr : World) : Prop where
  B : Bs wr (some ⟨b, o, none⟩) q P
  below : Below w.heap.size w wr
  h2 : wr.heap[g2]? = some (.cells (bv z32).toArray 29 (0, 0))
  h3 : wr.heap[g3]? = some (.cells (wv ks).toArray 81 (0, 0))
  h4 : wr.heap[g4]? = some (.cells (wv S).toArray 83 (0, 0))
  h8 : wr.heap[g8]? = some (.cells (wv W).toArray 81 (0, 0))
structure Ap (w : World) (b g2 g3 g4 g8 : Nat) : Prop where
  n23 : g2 ≠ g3
  n24 : g2 ≠ g4
  n28 : g2 ≠ g8
  n34 : g3 ≠ g4
  n38 : g3 ≠ g8
  n48 : g4 ≠ g8
  b2 : b ≠ g2
  b3 : b ≠ g3
  b4 : b ≠ g4
  b8 : b ≠ g8
  w2 : w.heap.size ≤ g2
  w4 : w.heap.size ≤ g4
  w8 : w.heap.size ≤ g8
section
variable {w wr W' : World} {b o q : Nat} {P : List UInt8} {g2 g3 g4 g8 : Nat} {S W : List W32}
theorem YM {w : World} {g : Nat} {x : Obj} (h : w.heap[g]? = some x) : g < w.heap.size := (Array.getElem?_eq_some_iff.1 h).1
theorem Sh.next (h : Sh w b o q P g2 g3 g4 g8 S W wr) (hb : Below wr.heap.size wr W') : Sh w b o q P g2 g3 g4 g8 S W W' where
  B := h.B.keep (.of_below hb)
  below := Z1 h.below hb h.below.size
  h2 := by rw [hb.block _ (YM h.h2)]; exact h.h2
  h3 := by rw [hb.block _ (YM h.h3)]; exact h.h3
  h4 := by rw [hb.block _ (YM h.h4)]; exact h.h4
  h8 := by rw [hb.block _ (YM h.h8)]; exact h.h8
theorem Sh.set8 (h : Sh w b o q P g2 g3 g4 g8 S W wr) (a : Ap w b g2 g3 g4 g8) (k : Nat) (x : W32) : Sh w b o q P g2 g3 g4 g8 S (W.set k x) (wr.setCell ⟨g8, k, none⟩ (.int .u32 (x.toNat : Int))) where
  B := Vs.far h.B (fun b' o' e => by injection e with e; injection e with e; subst e; exact a.b8) _
  below := h.below.setCell a.w8 _
  h2 := by rw [Below.heap_setCell _ _ _ _ a.n28]; exact h.h2
  h3 := by rw [Below.heap_setCell _ _ _ _ a.n38]; exact h.h3
  h4 := by rw [Below.heap_setCell _ _ _ _ a.n48]; exact h.h4
  h8 := XT h.h8 k x
theorem Sh.set4 (h : Sh w b o q P g2 g3 g4 g8 S W wr) (a : Ap w b g2 g3 g4 g8) (k : Nat) (x : W32) : Sh w b o q P g2 g3 g4 g8 (S.set k x) W (wr.setCell ⟨g4, k, none⟩ (.int .u32 (x.toNat : Int))) where
  B := Vs.far h.B (fun b' o' e => by injection e with e; injection e with e; subst e; exact a.b4) _
  below := h.below.setCell a.w4 _
  h2 := by rw [Below.heap_setCell _ _ _ _ a.n24]; exact h.h2
  h3 := by rw [Below.heap_setCell _ _ _ _ a.n34]; exact h.h3
  h4 := XT h.h4 k x
  h8 := by rw [Below.heap_setCell _ _ _ _ (Ne.symm a.n48)]; exact h.h8
structure A15 (w : World) (b g2 g3 g4 g8 g15 : Nat) : Prop where
  n2 : g2 ≠ g15
  n3 : g3 ≠ g15
  n4 : g4 ≠ g15
  n8 : g8 ≠ g15
  nb : b ≠ g15
  w15 : w.heap.size ≤ g15
theorem Sh.row15 {g15 : Nat} (h : Sh w b o q P g2 g3 g4 g8 S W wr) (a : A15 w b g2 g3 g4 g8 g15) (cs : Array Value) : Sh w b o q P g2 g3 g4 g8 S W (wr.setRow g15 cs) where
  B := Vs.setRow h.B (fun b' o' e => by injection e with e; injection e with e; subst e; exact a.nb) _
  below := ZY h.below a.w15 _
  h2 := by rw [setRow_other _ _ _ _ a.n2]; exact h.h2
  h3 := by rw [setRow_other _ _ _ _ a.n3]; exact h.h3
  h4 := by rw [setRow_other _ _ _ _ a.n4]; exact h.h4
  h8 := by rw [setRow_other _ _ _ _ a.n8]; exact h.h8
end
end Go.Proofs.Ytkncomkncfcecaa
