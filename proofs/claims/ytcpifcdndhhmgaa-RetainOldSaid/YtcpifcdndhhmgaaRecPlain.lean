/- Records, plain: what a sector's bytes tell, what an append makes of them; no program in sight. -/
import Derived.Test.YtcpifcdndhhmgaaSealPlain
set_option linter.unusedVariables false
set_option linter.unusedSimpArgs false
namespace Go.Proofs.Ytcpifcdndhhmgaa
open Go.RowKit

/-- how many pages n bytes take -/
def pagesN (n : Nat) : Nat := (n + 21) / 16
theorem pagesN_pos (n : Nat) : 1 ≤ pagesN n := by unfold pagesN; omega
theorem pagesN_ge (n : Nat) : n + 6 ≤ 16 * pagesN n := by unfold pagesN; omega
theorem pagesN_lt (n : Nat) : 16 * pagesN n < n + 22 := by unfold pagesN; omega
theorem pagesN_mono {n m : Nat} (h : n ≤ m) : pagesN n ≤ pagesN m := by unfold pagesN; omega
def blankP (b : List UInt8) : Bool := b.all (· == 255)

/-- what the bytes of a sector tell from page p on: the records, the first free page -/
def loadF (b : List UInt8) : Nat → Nat → List (List UInt8) × Nat
  | 0, _ => ([], 64)
  | k + 1, p =>
    if 64 ≤ p then ([], 64)
    else if blankP ((b.drop (16 * p)).take 16) = true then ([], p)
    else if (opened (b.drop (16 * p))).2.2 = 0 then
      ((opened (b.drop (16 * p))).1 :: (loadF b k (p + pagesN (opened (b.drop (16 * p))).1.length)).1, (loadF b k (p + pagesN (opened (b.drop (16 * p))).1.length)).2)
    else ([], 64)
theorem loadF_more (b : List UInt8) : ∀ (k m p : Nat), 64 - p ≤ k → 64 - p ≤ m → loadF b k p = loadF b m p
  | 0, 0, _, _, _ => rfl
  | 0, m + 1, p, h, _ => by simp only [loadF]; rw [if_pos (by omega)]
  | k + 1, 0, p, _, h => by simp only [loadF]; rw [if_pos (by omega)]
  | k + 1, m + 1, p, h1, h2 => by
    have hp := pagesN_pos (opened (b.drop (16 * p))).1.length
    simp only [loadF]
    by_cases h64 : 64 ≤ p
    · rw [if_pos h64, if_pos h64]
    · rw [loadF_more b k m _ (by omega) (by omega)]
def loadP (b : List UInt8) (p : Nat) : List (List UInt8) × Nat := loadF b (64 - p) p
def loadR (b : List UInt8) : List (List UInt8) × Nat := if b.length = 0 then ([], 0) else loadP b 0
section
variable {b : List UInt8} {p : Nat}
theorem loadP_end (h : 64 ≤ p) : loadP b p = ([], 64) := by unfold loadP; rw [show 64 - p = 0 by omega]; rfl
theorem loadP_blank (h : p < 64) (hb : blankP ((b.drop (16 * p)).take 16) = true) : loadP b p = ([], p) := by
  unfold loadP; rw [show 64 - p = (63 - p) + 1 by omega]; simp only [loadF]; rw [if_neg (by omega), if_pos hb]
theorem loadP_bad (h : p < 64) (hb : blankP ((b.drop (16 * p)).take 16) = false) (he : (opened (b.drop (16 * p))).2.2 ≠ 0) : loadP b p = ([], 64) := by
  unfold loadP; rw [show 64 - p = (63 - p) + 1 by omega]; simp only [loadF]; rw [if_neg (by omega), hb, if_neg (by decide), if_neg he]
theorem loadP_next (h : p < 64) (hb : blankP ((b.drop (16 * p)).take 16) = false) (he : (opened (b.drop (16 * p))).2.2 = 0) :
    loadP b p = ((opened (b.drop (16 * p))).1 :: (loadP b (p + pagesN (opened (b.drop (16 * p))).1.length)).1, (loadP b (p + pagesN (opened (b.drop (16 * p))).1.length)).2) := by
  have hp := pagesN_pos (opened (b.drop (16 * p))).1.length
  unfold loadP
  rw [show 64 - p = (63 - p) + 1 by omega]
  simp only [loadF]
  rw [if_neg (by omega), hb, if_neg (by decide), if_pos he, loadF_more b (63 - p) _ _ (by omega) (Nat.le_refl _)]
end
theorem opened_len (b : List UInt8) : (opened b).2.2 = 0 → (opened b).1.length + 6 ≤ b.length := by
  unfold opened
  split
  · intro h; cases h
  · split
    · intro h; cases h
    · split
      · intro h; cases h
      · intro _; simp only [List.length_take, List.length_drop]; omega
theorem opened_short (b : List UInt8) : (opened b).1.length ≤ 65535 := by
  have h2 : ∀ l : List UInt8, le (l.take 2) ≤ 65535 := fun l => by
    match l with
    | [] => simp [le]
    | [x] => have := byte_lt x; simp [le]; omega
    | x :: y :: r => have := byte_lt x; have := byte_lt y; simp [le]; omega
  unfold opened
  split
  · simp
  · split
    · simp
    · split
      · simp
      · have := h2 b; simp only [List.length_take, List.length_drop]; omega
theorem opened_err (b : List UInt8) : (opened b).2.2 = 0 ∨ (opened b).2.2 = 8 ∨ (opened b).2.2 = 10 := by
  unfold opened
  split
  · exact .inr (.inl rfl)
  · split
    · exact .inr (.inl rfl)
    · split
      · exact .inr (.inr rfl)
      · exact .inl rfl
theorem loadF_le (b : List UInt8) : ∀ k p, (loadF b k p).2 ≤ 64
  | 0, _ => Nat.le_refl _
  | k + 1, p => by
    simp only [loadF]
    split
    · exact Nat.le_refl _
    · split
      · simp only; omega
      · split
        · exact loadF_le b k _
        · exact Nat.le_refl _
theorem loadR_le (b : List UInt8) : (loadR b).2 ≤ 64 := by
  unfold loadR
  split
  · omega
  · exact loadF_le _ _ _
theorem loadF_cnt (b : List UInt8) : ∀ k p, (loadF b k p).1.length ≤ k
  | 0, _ => Nat.le_refl _
  | k + 1, p => by
    simp only [loadF]
    split
    · simp
    · split
      · simp
      · split
        · have := loadF_cnt b k (p + pagesN (opened (b.drop (16 * p))).1.length)
          simp only [List.length_cons]; omega
        · simp
theorem loadR_cnt (b : List UInt8) : (loadR b).1.length ≤ 64 := by
  unfold loadR
  split
  · simp
  · exact loadF_cnt _ _ _

/-! ### an append -/
/-- n pieces of x from the i-th on, at page p + i and on -/
def progs (s : Int) (p : Nat) (x : List UInt8) : Nat → Nat → FlashSt → Int × FlashSt
  | 0, _, f => (0, f)
  | n + 1, i, f => if (progF f s ((p + i : Nat) : Int) ((x.drop (16 * i)).take 16)).1 = 0 then progs s p x n (i + 1) (progF f s ((p + i : Nat) : Int) ((x.drop (16 * i)).take 16)).2
    else progF f s ((p + i : Nat) : Int) ((x.drop (16 * i)).take 16)
def appendP (f : FlashSt) (s : Int) (b : List UInt8) : Int × FlashSt :=
  if 1018 < b.length then (5, f)
  else if s < 0 ∨ 6 ≤ s then (12, f)
  else if 64 < (loadR (readF f s)).2 + pagesN b.length then (4, f)
  else progs s (loadR (readF f s)).2 (sealed b) (pagesN b.length) 0 f

/-! ### the bytes of records, one behind the other -/
def recP (x : List UInt8) : List UInt8 := sealed x ++ List.replicate (16 * pagesN x.length - (x.length + 6)) 255
theorem length_recP (x : List UInt8) : (recP x).length = 16 * pagesN x.length := by
  have := pagesN_ge x.length
  unfold recP; rw [List.length_append, length_sealed, List.length_replicate]; omega
def packP (l : List (List UInt8)) : List UInt8 := (l.map recP).flatten
def usedP (l : List (List UInt8)) : Nat := (l.map fun x => pagesN x.length).sum
theorem packP_cons (x : List UInt8) (l : List (List UInt8)) : packP (x :: l) = recP x ++ packP l := by simp [packP]
theorem packP_snoc (x : List UInt8) (l : List (List UInt8)) : packP (l ++ [x]) = packP l ++ recP x := by simp [packP]
theorem usedP_cons (x : List UInt8) (l : List (List UInt8)) : usedP (x :: l) = pagesN x.length + usedP l := by simp [usedP]
theorem usedP_snoc (x : List UInt8) (l : List (List UInt8)) : usedP (l ++ [x]) = usedP l + pagesN x.length := by simp [usedP]
theorem length_packP : ∀ l : List (List UInt8), (packP l).length = 16 * usedP l
  | [] => rfl
  | x :: l => by rw [packP_cons, List.length_append, length_recP, length_packP l, usedP_cons]; omega
theorem recP_head (x r : List UInt8) (h : x.length ≤ 1018) : blankP ((recP x ++ r).take 16) = false := by
  have h1 : u8n (x.length / 256) ≠ 255 := by
    intro e
    have := congrArg UInt8.toNat e
    rw [u8n_toNat] at this
    have h255 : (255 : UInt8).toNat = 255 := rfl
    rw [h255] at this
    omega
  have h2 : (recP x ++ r).take 16 = u8n x.length :: u8n (x.length / 256) :: ((recP x ++ r).drop 2).take 14 := rfl
  rw [h2]
  unfold blankP
  simp only [List.all_cons, beq_eq_false_iff_ne.2 h1, Bool.false_and, Bool.and_false]
theorem recP_open (x r : List UInt8) (h : x.length ≤ 1018) : opened (recP x ++ r) = (x, 6 + x.length, 0) := by
  unfold recP
  rw [List.append_assoc]
  exact opened_sealed x _ (by omega)
theorem loadP_pack (b : List UInt8) : ∀ (l : List (List UInt8)) (p : Nat) (pre rest : List UInt8), b = pre ++ packP l ++ rest → pre.length = 16 * p → b.length = 1024 → (∀ x ∈ l, x.length ≤ 1018) →
    loadP b p = (l ++ (loadP b (p + usedP l)).1, (loadP b (p + usedP l)).2)
  | [], p, pre, rest, _, _, _, _ => by simp [usedP]
  | x :: l, p, pre, rest, hb, hp, hl, hx => by
    have hx0 := hx x (by simp)
    have hd : b.drop (16 * p) = recP x ++ (packP l ++ rest) := by
      rw [hb, ← hp, List.append_assoc, List.drop_left, packP_cons, List.append_assoc]
    have hlen : 16 * p + 16 * pagesN x.length ≤ 1024 := by
      have := congrArg List.length hb
      rw [hl, packP_cons] at this
      simp only [List.length_append, length_recP] at this
      omega
    have hpos := pagesN_pos x.length
    have ho := recP_open x (packP l ++ rest) hx0
    rw [loadP_next (by omega) (by rw [hd]; exact recP_head x _ hx0) (by rw [hd, ho])]
    rw [hd, ho]
    dsimp only
    rw [loadP_pack b l (p + pagesN x.length) (pre ++ recP x) rest (by rw [hb, packP_cons]; simp only [List.append_assoc]) (by rw [List.length_append, length_recP]; omega) hl (fun y hy => hx y (by simp [hy])), usedP_cons, Nat.add_assoc]
    rfl
theorem blankP_rep (n : Nat) : blankP (List.replicate n 255) = true := by unfold blankP; rw [List.all_replicate]; split <;> rfl
/-- the sector's bytes are these records and blanks -/
structure Packed (b : List UInt8) (l : List (List UInt8)) : Prop where
  eq : b = packP l ++ List.replicate (1024 - 16 * usedP l) 255
  used : usedP l ≤ 64
  short : ∀ x ∈ l, x.length ≤ 1018
theorem Packed.len {b : List UInt8} {l : List (List UInt8)} (h : Packed b l) : b.length = 1024 := by
  have := h.used
  rw [h.eq, List.length_append, length_packP, List.length_replicate]; omega
theorem Packed.load {b : List UInt8} {l : List (List UInt8)} (h : Packed b l) : loadR b = (l, usedP l) := by
  have hl := h.len
  have hu := h.used
  unfold loadR
  rw [if_neg (by omega), loadP_pack b l 0 [] _ (by rw [List.nil_append]; exact h.eq) rfl hl h.short, Nat.zero_add]
  by_cases h64 : usedP l = 64
  · rw [loadP_end (by omega), List.append_nil, h64]
  · have hb : blankP ((b.drop (16 * usedP l)).take 16) = true := by
      have hd : b.drop (16 * usedP l) = List.replicate (1024 - 16 * usedP l) 255 := by
        have := congrArg (List.drop (16 * usedP l)) h.eq
        rw [← length_packP, List.drop_left, length_packP] at this
        exact this
      rw [hd, List.take_replicate]
      exact blankP_rep _
    rw [loadP_blank (by omega) hb, List.append_nil]
theorem Packed.nil {b : List UInt8} (h : b = List.replicate 1024 255) : Packed b [] := ⟨by rw [h]; rfl, by simp [usedP], by simp⟩
end Go.Proofs.Ytcpifcdndhhmgaa
