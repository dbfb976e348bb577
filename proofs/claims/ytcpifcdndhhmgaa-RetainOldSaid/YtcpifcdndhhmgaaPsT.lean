/- Records: the document's Load. Records as they were loaded: rows of slices whose blocks' types are known. -/
import Derived.Test.YtcpifcdndhhmgaaRecLoad
set_option linter.unusedVariables false
set_option linter.unusedSimpArgs false
namespace Go.Proofs.Ytcpifcdndhhmgaa
open Go.RowKit
attribute [local go_sem] ev_tmp ev_const ev_func ev_global lk_hit lk_miss uponK_value uponK_skip look_tmp look_const look_global look_func valP_value
end Go.Proofs.Ytcpifcdndhhmgaa
set_option linter.unusedVariables false
set_option linter.unusedSimpArgs false
namespace Go.Proofs.Ytcpifcdndhhmgaa
open Go.RowKit
/-- another block was written, one that holds no bytes -/
theorem PsY.typed {W W' : World} {xs : List Value} {ls : List (List UInt8)} (h : PsY W xs ls) {k : Nat} {cs : Array Value} {t : TypeId} {fr : Nat × Nat} (hg : W.grownBy W' (some k)) (hk : W.heap[k]? = some (.cells cs t fr)) (ht : t ≠ 5) : PsY W' xs ls :=
  ⟨h.1, fun i hi => by
    obtain ⟨B, m, c, e, hB, h1, h2, hty⟩ := h.2 i hi
    have key : ∀ b o, B = some ⟨b, o, none⟩ → W'.heap[b]? = W.heap[b]? := fun b o e => by
      obtain ⟨cs', hc⟩ := hty b o e
      refine hg.block b (Array.getElem?_eq_some_iff.1 hc).1 fun hbk => ?_
      injection hbk with hbk
      subst hbk
      rw [hk] at hc
      injection hc with hc
      injection hc with _ h' _
      exact ht h'
    exact ⟨B, m, c, e, hB.heap fun _ => key, h1, h2, fun b o e => by rw [key b o e]; exact hty b o e⟩⟩
/-- records at A, their blocks' types known -/
def PsT (W : World) (A : Option Addr) (n : Nat) (R : List (List UInt8)) : Prop := ∃ B0 c xs, W.ownsRow B0 27 1 (.slice A n c) n xs ∧ PsY W xs R
theorem PsT.ps {W : World} {A : Option Addr} {n : Nat} {R : List (List UInt8)} (h : PsT W A n R) : Ps W A n R := by
  obtain ⟨B0, c, xs, h1, h2⟩ := h
  obtain ⟨A', c', he, _, _, hv, _⟩ := own_slice h1
  injection he with e1 _ e3
  subst e1
  exact h2.ps hv
theorem PsT.below {W W' : World} {A : Option Addr} {n : Nat} {R : List (List UInt8)} (h : PsT W A n R) (hb : Below W.heap.size W W') : PsT W' A n R := by
  obtain ⟨B0, c, xs, h1, h2⟩ := h
  exact ⟨B0, c, xs, own_below h1 hb, h2.below hb⟩
theorem PsT.next {W : World} {A : Option Addr} {n k : Nat} {R : List (List UInt8)} (h : PsT W A n R) (hk : k < n) :
    ∃ b o B m c l, A = some ⟨b, o, none⟩ ∧ W.cell? ⟨b, o + k, none⟩ = some (.slice B m c) ∧ Bs W B m l ∧ m ≤ c ∧ c ≤ 9223372036854775807 ∧ TyB W B ∧ R[k]? = some l := by
  have hl := h.ps.len
  obtain ⟨B0, c0, xs, h1, h2⟩ := h
  obtain ⟨A', c', he, _, _, hv, _⟩ := own_slice h1
  injection he with e1 _ e3
  subst e1
  obtain ⟨B, m, c, hx, hB, hm, hc, ht⟩ := h2.2 k (by omega)
  obtain ⟨b, o, rfl, _⟩ := hv.at_ hk
  exact ⟨b, o, B, m, c, R[k], rfl, hv.cellAt hx, hB, hm, hc, ht, List.getElem?_eq_getElem (by omega)⟩
/-- a row of another type has grown -/
theorem PsT.grown {W W' : World} {A : Option Addr} {n : Nat} {R : List (List UInt8)} (h : PsT W A n R) {base size m : Nat} {e : TypeId} {v : Value} {ys : List Value} (hown : W.ownsRow base e size v m ys) (he1 : e ≠ 5) (he2 : e ≠ 27) (hg : W.grownBy W' v.ownBlock) : PsT W' A n R := by
  obtain ⟨B0, c, xs, h1, h2⟩ := h
  cases hv : v.ownBlock with
  | none =>
    rw [hv] at hg
    exact PsT.below ⟨B0, c, xs, h1, h2⟩ ⟨hg.os, hg.tape, hg.output, hg.size, fun i hi => hg.block i hi (by simp)⟩
  | some k =>
    rw [hv] at hg
    obtain ⟨cs, hk⟩ := own_ty hown hv
    refine ⟨B0, c, xs, h1.kept hg ?_, h2.typed hg hk he1⟩
    cases ha : (Value.slice A n c).ownBlock with
    | none => exact .inl rfl
    | some a =>
      right
      intro hak
      injection hak with hak
      subst hak
      obtain ⟨cs', hc'⟩ := own_ty h1 ha
      rw [hk] at hc'
      injection hc' with hc'
      injection hc' with _ ht _
      exact he2 ht
end Go.Proofs.Ytcpifcdndhhmgaa
