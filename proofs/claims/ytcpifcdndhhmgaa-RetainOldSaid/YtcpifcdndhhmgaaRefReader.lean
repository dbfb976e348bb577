/- A region that draws its order, its facts hanging on what was done so far (L): for calls that write what others read. No program in sight. The document's reader: what each of its calls returns and leaves: the same as the code's. -/
import Derived.Test.YtcpifcdndhhmgaaRegion
import Derived.Test.YtcpifcdndhhmgaaChecked
import Derived.Test.YtcpifcdndhhmgaaClone
import Derived.Test.YtcpifcdndhhmgaaReader
import Derived.Deep.DeepCutAuto
import Derived.Deep.QuietTactic
import Derived.BigQuiet
set_option linter.unusedVariables false
set_option linter.unusedSimpArgs false
namespace Go.Proofs.Ytcpifcdndhhmgaa
open Go.RowKit

def upd (L : Nat → Bool) (i : Nat) : Nat → Bool := fun k => if k = i then true else L k
/-- closed under what each operation waits for -/
def Closed (ops : List Oper) (L : Nat → Bool) : Prop := ∀ i o, ops[i]? = some o → L i = true → ∀ j, bindsTo o j = true → L j = true

/-- D names operations that come behind j: each waits for j, or for one that D names -/
def behindOk (ops : List Oper) (j : Nat) (D : List Nat) : Bool :=
  D.all fun i => ((ops[i]?).map fun o => o.after.any fun e => Region.binds .any e && (e.on == j || (decide (e.on < i) && D.contains e.on))).getD false
theorem Closed.behind {ops : List Oper} {L : Nat → Bool} (hc : Closed ops L) {j : Nat} (D : List Nat) (hD : behindOk ops j D = true) : ∀ i, i ∈ D → L i = true → L j = true := by
  intro i
  induction i using Nat.strongRecOn with
  | _ i ih =>
    intro hi hl
    have h1 := List.all_eq_true.1 hD i hi
    cases ho : ops[i]? with
    | none => rw [ho] at h1; simp at h1
    | some o =>
      rw [ho] at h1
      simp only [Option.map_some, Option.getD_some, Array.any_eq_true, Bool.and_eq_true, Bool.or_eq_true, beq_iff_eq, decide_eq_true_eq] at h1
      obtain ⟨k, hk, hb, h2⟩ := h1
      have hon : L o.after[k].on = true := hc i o ho hl _ (by
        simp only [bindsTo, Array.any_eq_true]
        exact ⟨k, hk, by simp [hb]⟩)
      rcases h2 with h2 | ⟨h2, h3⟩
      · rw [← h2]; exact hon
      · exact ih _ h2 (by simpa using h3) hon

section
variable {P : Program} {ops : List Oper} {Q : Exit → Act → World → Prop} {a : Act} {S : (Nat → Bool) → Nat → World → Value → Prop} {R : (Nat → Bool) → World → Prop}

def VL1 (P : Program) (Q : Exit → Act → World → Prop) (a : Act) (S : (Nat → Bool) → Nat → World → Value → Prop) (R : (Nat → Bool) → World → Prop) (ops : List Oper) (src : List (Nat × Option Nat)) (i : Nat) (o : Oper) : Prop :=
  ∀ (L : Nat → Bool) (A : Act) (W : World) (K : Act → World → Prop), A.defers = a.defers → Closed ops L → L i = false → (∀ j, bindsTo o j = true → L j = true) → R L W → Src (S L) a A W src →
    (∀ v W', R (upd L i) W' → (∀ j u, j ≠ i → L j = true → S L j W u → S (upd L i) j W' u) → S (upd L i) i W' v → K (A.put o.dst v) W') →
    if Region.wanted o (yielded ops.toArray A.tmps) = true then o.wp P A W K Q else K (A.put o.dst undef) W
def VLs (P : Program) (Q : Exit → Act → World → Prop) (a : Act) (S : (Nat → Bool) → Nat → World → Value → Prop) (R : (Nat → Bool) → World → Prop) (ops : List Oper) : Nat → List (List (Nat × Option Nat)) → List Oper → Prop
  | _, _, [] => True
  | i, srcs, o :: rest => VL1 P Q a S R ops (srcs.headD []) i o ∧ VLs P Q a S R ops (i + 1) srcs.tail rest
theorem VLs.get (l : List Oper) :
    ∀ (k : Nat) (srcs : List (List (Nat × Option Nat))), VLs P Q a S R ops k srcs l → ∀ i o, l[i]? = some o → VL1 P Q a S R ops (srcs.getD i []) (k + i) o := by
  induction l with
  | nil => intro k srcs _ i o h; simp at h
  | cons x l ih =>
    intro k srcs h i o hi
    obtain ⟨h1, h2⟩ := h
    cases i with
    | zero =>
      simp at hi; subst hi
      cases srcs <;> exact h1
    | succ i =>
      have := ih (k + 1) srcs.tail h2 i o (by simpa using hi)
      rw [show k + (i + 1) = k + 1 + i by omega]
      cases srcs with
      | nil => simpa using this
      | cons s srcs => simpa using this

def LL (listed : Array Bool) : Nat → Bool := fun i => listed.getD i false
end

/-! ### the rule's use: facts of slots as a list, which live on as memory grows and as more is done -/
abbrev SPred := (Nat → Bool) → World → Value → Prop
def SLL (Ss : List SPred) (L : Nat → Bool) (i : Nat) (W : World) (v : Value) : Prop := (Ss.getD i (fun _ _ _ => True)) L W v
def IsL (u : Value) : SPred := fun _ _ v => v = u
def MonoL (p : SPred) : Prop := ∀ L i W W' v, Below W.heap.size W W' → p L W v → p (upd L i) W' v
def MonoAllL : List SPred → Prop
  | [] => True
  | p :: r => MonoL p ∧ MonoAllL r
theorem MonoAllL.get {Ss : List SPred} (h : MonoAllL Ss) : ∀ j L i W W' v, Below W.heap.size W W' → SLL Ss L j W v → SLL Ss (upd L i) j W' v := by
  induction Ss with
  | nil => intro j L i W W' v _ _; exact trivial
  | cons p r ih =>
    intro j
    cases j with
    | zero => exact h.1
    | succ j => exact ih h.2 j
/-- the facts while just L is done -/
def At (Ss : List SPred) (L : Nat → Bool) : List (World → Value → Prop) := Ss.map fun p => p L
/-- what an operation leaves standing of the others' facts -/
def Pres (L : Nat → Bool) (i : Nat) (W W' : World) : Nat → List SPred → Prop
  | _, [] => True
  | k, p :: r => (k ≠ i → L k = true → ∀ u, p L W u → p (upd L i) W' u) ∧ Pres L i W W' (k + 1) r
theorem Pres.get {L : Nat → Bool} {i : Nat} {W W' : World} : ∀ {Ss : List SPred} {k : Nat}, Pres L i W W' k Ss → ∀ j u, k + j ≠ i → L (k + j) = true → SLL Ss L j W u → SLL Ss (upd L i) j W' u
  | [], _, _, _, _, _, _, _ => trivial
  | p :: r, k, h, j, u, hne, hl, hs => by
    cases j with
    | zero => exact h.1 hne hl u hs
    | succ j => exact Pres.get h.2 j u (by rw [show k + 1 + j = k + (j + 1) by omega]; exact hne) (by rw [show k + 1 + j = k + (j + 1) by omega]; exact hl) hs
section
variable {P : Program} {ops : List Oper} {Q : Exit → Act → World → Prop} {a : Act} {Ss : List SPred} {R : (Nat → Bool) → World → Prop}

end
end Go.Proofs.Ytcpifcdndhhmgaa
set_option linter.unusedVariables false
set_option linter.unusedSimpArgs false
namespace Go.Proofs.Ytcpifcdndhhmgaa
open Go.RowKit

/-- the document's reader at block g: the bytes that are left, the first error -/
def RR (W : World) (B g : Nat) (l : List UInt8) (e : Int) : Prop :=
  ∃ A N c p L, W.heap[g]? = some (.cells #[.slice A N c, .int .i64 ((p : Nat) : Int), .int .i64 e] 145 (0, 0)) ∧ Bs W A N L ∧ p ≤ N ∧ N ≤ 1099511627776 ∧ N ≤ c ∧ c ≤ 9223372036854775807 ∧ l = L.drop p ∧ B ≤ g ∧ (0 < N → InQ (fun b => b < B) A)

theorem RR.below {W W' : World} {B g : Nat} {l : List UInt8} {e : Int} (h : RR W B g l e) (hb : Below W.heap.size W W') : RR W' B g l e := by
  obtain ⟨A, N, c, p, L, hg, hB, hp, hN, hc, hc2, hl, hBg, ha0⟩ := h
  have ha : 0 < N → Away g A := fun h => (ha0 h).away fun b hb => Nat.ne_of_lt (Nat.lt_of_lt_of_le hb hBg)
  exact ⟨A, N, c, p, L, by rw [hb.block g (Array.getElem?_eq_some_iff.1 hg).1]; exact hg, hB.below hb, hp, hN, hc, hc2, hl, hBg, ha0⟩
/-- another block was written -/
theorem RR.other {B : Nat} {W W' : World} {g g2 : Nat} {l : List UInt8} {e : Int} (h : RR W B g l e) (hg2 : W.grownBy W' (some g2)) (hne : g ≠ g2) (hB2 : B ≤ g2) : RR W' B g l e := by
  obtain ⟨A, N, c, p, L, hg, hB, hp, hN, hc, hc2, hl, hBg, ha0⟩ := h
  refine ⟨A, N, c, p, L, ?_, hB.grownKeep0 hg2 (fun h => (ha0 h).away fun b hb => Nat.ne_of_lt (Nat.lt_of_lt_of_le hb hB2)), hp, hN, hc, hc2, hl, hBg, ha0⟩
  rw [hg2.block g (Array.getElem?_eq_some_iff.1 hg).1 (fun h => hne (by injection h))]
  exact hg
end Go.Proofs.Ytcpifcdndhhmgaa
