/- Rows of numbers and texts, written and read again: plain. -/
import Derived.Test.YtpbbindeghoaaaaCodeBackPlain
namespace Go.Proofs.Ytpbbindeghoaaaa
open Go.RowKit

/-- a reader's state: what is left, the error, whether all was as it was told -/
abbrev RS := List UInt8 × Int × Bool
def intStep (s : RS) (z : Int) : RS :=
  ((taken s.1 s.2.1 8).2.1, (taken s.1 s.2.1 8).2.2, (wrap64 (leN (taken s.1 s.2.1 8).1 : Int) == z) && s.2.2)
def txtStep (s : RS) (t : List UInt8) : RS :=
  ((textOf s.1 s.2.1).2.1, (textOf s.1 s.2.1).2.2, ((textOf s.1 s.2.1).1 == t) && s.2.2)
def byteStart (l : List UInt8) (n : Nat) : RS :=
  ((taken l 0 1).2.1, (taken l 0 1).2.2, ((leN (taken l 0 1).1 : Int) == (n : Int)))

theorem fold_back {α : Type} (f : RS → α → RS) (enc : α → List UInt8) (zs : List α) (hf : ∀ z ∈ zs, ∀ m, f (enc z ++ m, 0, true) z = (m, 0, true)) (m : List UInt8) :
    zs.foldl f (zs.flatMap enc ++ m, 0, true) = (m, 0, true) := by
  induction zs with
  | nil => rfl
  | cons z zs ih =>
    rw [List.flatMap_cons, List.append_assoc, List.foldl_cons, hf z (by simp)]
    exact ih fun z hz => hf z (by simp [hz])
theorem fold_bad {α : Type} (f : RS → α → RS) (hb : ∀ s z, s.2.1 = 8 → (f s z).2.1 = 8) (zs : List α) : ∀ s, s.2.1 = 8 → (zs.foldl f s).2.1 = 8 := by
  induction zs with
  | nil => intro s h; exact h
  | cons z zs ih => intro s h; exact ih _ (hb s z h)
theorem fold_cut {α : Type} (f : RS → α → RS) (enc : α → List UInt8) (hb : ∀ s z, s.2.1 = 8 → (f s z).2.1 = 8) (zs : List α) (hne : ∀ z ∈ zs, enc z ≠ []) (hf : ∀ z ∈ zs, ∀ m ok, ∃ ok', f (enc z ++ m, 0, ok) z = (m, 0, ok'))
    (hc : ∀ z ∈ zs, ∀ ok, (f ((enc z).dropLast, 0, ok) z).2.1 = 8) (r : List UInt8) (ok : Bool) :
    (r ≠ [] → ∃ ok', zs.foldl f ((zs.flatMap enc ++ r).dropLast, 0, ok) = (r.dropLast, 0, ok')) ∧
    (r = [] → zs ≠ [] → (zs.foldl f ((zs.flatMap enc ++ r).dropLast, 0, ok)).2.1 = 8) := by
  induction zs generalizing ok with
  | nil => exact ⟨fun _ => ⟨ok, rfl⟩, fun _ h => absurd rfl h⟩
  | cons z zs ih =>
    have ih := ih (fun z hz => hne z (by simp [hz])) (fun z hz => hf z (by simp [hz])) (fun z hz => hc z (by simp [hz]))
    rw [List.flatMap_cons, List.append_assoc, List.foldl_cons]
    by_cases h : zs.flatMap enc ++ r = []
    · obtain ⟨h1, h2⟩ := List.append_eq_nil_iff.1 h
      refine ⟨fun h => absurd h2 h, fun _ _ => ?_⟩
      rw [h, List.append_nil]
      exact fold_bad f hb zs _ (hc z (by simp) ok)
    · rw [List.dropLast_append_of_ne_nil h]
      obtain ⟨ok', he⟩ := hf z (by simp) (zs.flatMap enc ++ r).dropLast ok
      rw [he]
      refine ⟨(ih ok').1, fun hr _ => (ih ok').2 hr fun hz => ?_⟩
      subst hz; subst hr
      exact h rfl

theorem textBytes_cut (t : List UInt8) : (textOf (textBytes t).dropLast 0).2.2 = 8 := by
  have hl : (txt t).length ≤ 65535 := by rw [length_txt]; omega
  unfold textBytes
  by_cases h0 : txt t = []
  · rw [h0]
    unfold textOf taken
    simp
  · rw [List.dropLast_append_of_ne_nil h0]
    have h1 : taken ([UInt8.ofNat (txt t).length, UInt8.ofNat ((txt t).length / 256)] ++ (txt t).dropLast) 0 2 = ([UInt8.ofNat (txt t).length, UInt8.ofNat ((txt t).length / 256)], (txt t).dropLast, 0) := taken_ok _ _ 2 rfl
    have h2 : leN [UInt8.ofNat (txt t).length, UInt8.ofNat ((txt t).length / 256)] = (txt t).length := by
      have e0 := low8 (txt t).length
      have e1 := shr8 (txt t).length hl
      simp only [leN, List.foldr_cons, List.foldr_nil]
      omega
    unfold textOf
    rw [h1]
    dsimp only
    rw [h2]
    have h3 : 0 < (txt t).length := List.length_pos_iff.2 h0
    unfold taken
    rw [if_pos ⟨rfl, by rw [List.length_dropLast]; omega⟩]
theorem textOf_e8 (l : List UInt8) : (textOf l 8).2.2 = 8 := by rw [textOf_bad l (by decide)]
theorem taken_e8 (l : List UInt8) (k : Nat) : (taken l 8 k).2.2 = 8 := by rw [taken_bad l k (by decide)]
theorem intStep_bad (s : RS) (z : Int) (h : s.2.1 = 8) : (intStep s z).2.1 = 8 := by
  unfold intStep; dsimp only; rw [h]; exact taken_e8 _ _
theorem txtStep_bad (s : RS) (t : List UInt8) (h : s.2.1 = 8) : (txtStep s t).2.1 = 8 := by
  unfold txtStep; dsimp only; rw [h]; exact textOf_e8 _
theorem intStep_ok (z : Int) (hz : -9223372036854775808 ≤ z ∧ z ≤ 9223372036854775807) (m : List UInt8) (ok : Bool) : intStep (le8 z ++ m, 0, ok) z = (m, 0, ok) := by
  unfold intStep
  dsimp only
  rw [taken_ok (le8 z) m 8 (length_le8 z)]
  dsimp only
  rw [int_back z hz, beq_self_eq_true, Bool.true_and]
theorem txtStep_ok (t : List UInt8) (ht : t.length ≤ 65535) (m : List UInt8) (ok : Bool) : txtStep (textBytes t ++ m, 0, ok) t = (m, 0, ok) := by
  unfold txtStep
  dsimp only
  rw [text_back]
  dsimp only
  rw [txt_short t (by omega), beq_self_eq_true, Bool.true_and]
theorem intStep_cut (z : Int) (ok : Bool) : (intStep ((le8 z).dropLast, 0, ok) z).2.1 = 8 := by
  unfold intStep taken
  dsimp only
  rw [if_pos ⟨rfl, by rw [List.length_dropLast, length_le8]; omega⟩]

/-- all that is written -/
def wrote (n : Nat) (zs : List Int) (ss : List (List UInt8)) : List UInt8 := [i64byte (n : Int) 0] ++ zs.flatMap le8 ++ ss.flatMap textBytes
/-- all that is read -/
def readAll (l : List UInt8) (n : Nat) (zs : List Int) (ss : List (List UInt8)) : RS := ss.foldl txtStep (zs.foldl intStep (byteStart l n))

theorem i64byte_small (n : Nat) (hn : n ≤ 20) : ((leN [i64byte (n : Int) 0] : Nat) : Int) = n := by
  rw [leN_one, i64byte0]; omega
theorem readAll_ok (n : Nat) (zs : List Int) (ss : List (List UInt8)) (hn : n ≤ 20) (hz : ∀ z ∈ zs, -9223372036854775808 ≤ z ∧ z ≤ 9223372036854775807) (hs : ∀ s ∈ ss, s.length ≤ 65535) (m : List UInt8) :
    readAll (wrote n zs ss ++ m) n zs ss = (m, 0, true) := by
  unfold readAll wrote byteStart
  rw [List.append_assoc, List.append_assoc, taken_ok [i64byte (n : Int) 0] _ 1 rfl]
  dsimp only
  rw [i64byte_small n hn, beq_self_eq_true]
  rw [fold_back intStep le8 zs (fun z hz' m => intStep_ok z (hz z hz') m true), fold_back txtStep textBytes ss (fun s hs' m => txtStep_ok s (hs s hs') m true)]
theorem readAll_cut (n : Nat) (zs : List Int) (ss : List (List UInt8)) (hz : ∀ z ∈ zs, -9223372036854775808 ≤ z ∧ z ≤ 9223372036854775807) (hs : ∀ s ∈ ss, s.length ≤ 65535) :
    (readAll (wrote n zs ss).dropLast n zs ss).2.1 = 8 := by
  unfold readAll wrote byteStart
  rw [List.append_assoc]
  by_cases h : zs.flatMap le8 ++ ss.flatMap textBytes = []
  · rw [h]
    simp only [List.append_nil, List.dropLast_singleton]
    have ht : taken [] 0 1 = ([], [], 8) := rfl
    rw [ht]
    exact fold_bad _ txtStep_bad _ _ (fold_bad _ intStep_bad _ _ rfl)
  · rw [List.dropLast_append_of_ne_nil h, taken_ok [i64byte (n : Int) 0] _ 1 rfl]
    dsimp only
    generalize (((leN [i64byte (n : Int) 0] : Nat) : Int) == (n : Int)) = ok
    have h1 := fold_cut intStep le8 intStep_bad zs (fun z _ he => by have := length_le8 z; rw [he] at this; cases this) (fun z hz' m ok => ⟨ok, intStep_ok z (hz z hz') m ok⟩) (fun z _ ok => intStep_cut z ok) (ss.flatMap textBytes) ok
    have h2 := fun ok => fold_cut txtStep textBytes txtStep_bad ss (fun s _ he => by simp [textBytes] at he) (fun s hs' m ok => ⟨ok, txtStep_ok s (hs s hs') m ok⟩) (fun s _ ok => textBytes_cut s) [] ok
    by_cases hr : ss.flatMap textBytes = []
    · refine fold_bad _ txtStep_bad _ _ (h1.2 hr fun hz => ?_)
      subst hz
      rw [hr] at h
      exact h rfl
    · obtain ⟨ok', he⟩ := h1.1 hr
      rw [he]
      have := (h2 ok').2 rfl (fun hz => by subst hz; exact hr rfl)
      rw [List.append_nil] at this
      exact this
end Go.Proofs.Ytpbbindeghoaaaa
