/- Records, plain: what a sector's bytes tell, what an append makes of them; no program in sight. Records, plain: an append onto a sector of records, while the power is on. No program in sight. -/
import Derived.Test.YtcpifcdndhhmgaaSealPlain
set_option linter.unusedVariables false
set_option linter.unusedSimpArgs false
namespace Go.Proofs.Ytcpifcdndhhmgaa
open Go.RowKit

/-- how many pages n bytes take -/
def pagesN (n : Nat) : Nat := (n + 21) / 16
theorem pagesN_pos (n : Nat) : 1 ≤ pagesN n := by unfold pagesN; omega
theorem pagesN_ge (n : Nat) : n + 6 ≤ 16 * pagesN n := by unfold pagesN; omega
theorem pagesN_lt (n : Nat) : 16 * pagesN n < n + 22 := by unfold pagesN; omega
theorem pagesN_mono {n m : Nat} (h : n ≤ m) : pagesN n ≤ pagesN m := by unfold pagesN; omega
def blankP (b : List UInt8) : Bool := b.all (· == 255)

/-- what the bytes of a sector tell from page p on: the records, the first free page -/
def loadF (b : List UInt8) : Nat → Nat → List (List UInt8) × Nat
  | 0, _ => ([], 64)
  | k + 1, p =>
    if 64 ≤ p then ([], 64)
    else if blankP ((b.drop (16 * p)).take 16) = true then ([], p)
    else if (opened (b.drop (16 * p))).2.2 = 0 then
      ((opened (b.drop (16 * p))).1 :: (loadF b k (p + pagesN (opened (b.drop (16 * p))).1.length)).1, (loadF b k (p + pagesN (opened (b.drop (16 * p))).1.length)).2)
    else ([], 64)
theorem loadF_more (b : List UInt8) : ∀ (k m p : Nat), 64 - p ≤ k → 64 - p ≤ m → loadF b k p = loadF b m p
  | 0, 0, _, _, _ => rfl
  | 0, m + 1, p, h, _ => by simp only [loadF]; rw [if_pos (by omega)]
  | k + 1, 0, p, _, h => by simp only [loadF]; rw [if_pos (by omega)]
  | k + 1, m + 1, p, h1, h2 => by
    have hp := pagesN_pos (opened (b.drop (16 * p))).1.length
    simp only [loadF]
    by_cases h64 : 64 ≤ p
    · rw [if_pos h64, if_pos h64]
    · rw [loadF_more b k m _ (by omega) (by omega)]
def loadP (b : List UInt8) (p : Nat) : List (List UInt8) × Nat := loadF b (64 - p) p
def loadR (b : List UInt8) : List (List UInt8) × Nat := if b.length = 0 then ([], 0) else loadP b 0
section
variable {b : List UInt8} {p : Nat}
theorem loadP_end (h : 64 ≤ p) : loadP b p = ([], 64) := by unfold loadP; rw [show 64 - p = 0 by omega]; rfl
theorem loadP_blank (h : p < 64) (hb : blankP ((b.drop (16 * p)).take 16) = true) : loadP b p = ([], p) := by
  unfold loadP; rw [show 64 - p = (63 - p) + 1 by omega]; simp only [loadF]; rw [if_neg (by omega), if_pos hb]
theorem loadP_bad (h : p < 64) (hb : blankP ((b.drop (16 * p)).take 16) = false) (he : (opened (b.drop (16 * p))).2.2 ≠ 0) : loadP b p = ([], 64) := by
  unfold loadP; rw [show 64 - p = (63 - p) + 1 by omega]; simp only [loadF]; rw [if_neg (by omega), hb, if_neg (by decide), if_neg he]
theorem loadP_next (h : p < 64) (hb : blankP ((b.drop (16 * p)).take 16) = false) (he : (opened (b.drop (16 * p))).2.2 = 0) :
    loadP b p = ((opened (b.drop (16 * p))).1 :: (loadP b (p + pagesN (opened (b.drop (16 * p))).1.length)).1, (loadP b (p + pagesN (opened (b.drop (16 * p))).1.length)).2) := by
  have hp := pagesN_pos (opened (b.drop (16 * p))).1.length
  unfold loadP
  rw [show 64 - p = (63 - p) + 1 by omega]
  simp only [loadF]
  rw [if_neg (by omega), hb, if_neg (by decide), if_pos he, loadF_more b (63 - p) _ _ (by omega) (Nat.le_refl _)]
end
theorem opened_len (b : List UInt8) : (opened b).2.2 = 0 → (opened b).1.length + 6 ≤ b.length := by
  unfold opened
  split
  · intro h; cases h
  · split
    · intro h; cases h
    · split
      · intro h; cases h
      · intro _; simp only [List.length_take, List.length_drop]; omega
theorem opened_short (b : List UInt8) : (opened b).1.length ≤ 65535 := by
  have h2 : ∀ l : List UInt8, le (l.take 2) ≤ 65535 := fun l => by
    match l with
    | [] => simp [le]
    | [x] => have := byte_lt x; simp [le]; omega
    | x :: y :: r => have := byte_lt x; have := byte_lt y; simp [le]; omega
  unfold opened
  split
  · simp
  · split
    · simp
    · split
      · simp
      · have := h2 b; simp only [List.length_take, List.length_drop]; omega
theorem opened_err (b : List UInt8) : (opened b).2.2 = 0 ∨ (opened b).2.2 = 8 ∨ (opened b).2.2 = 10 := by
  unfold opened
  split
  · exact .inr (.inl rfl)
  · split
    · exact .inr (.inl rfl)
    · split
      · exact .inr (.inr rfl)
      · exact .inl rfl
theorem loadF_le (b : List UInt8) : ∀ k p, (loadF b k p).2 ≤ 64
  | 0, _ => Nat.le_refl _
  | k + 1, p => by
    simp only [loadF]
    split
    · exact Nat.le_refl _
    · split
      · simp only; omega
      · split
        · exact loadF_le b k _
        · exact Nat.le_refl _
theorem loadR_le (b : List UInt8) : (loadR b).2 ≤ 64 := by
  unfold loadR
  split
  · omega
  · exact loadF_le _ _ _
theorem loadF_cnt (b : List UInt8) : ∀ k p, (loadF b k p).1.length ≤ k
  | 0, _ => Nat.le_refl _
  | k + 1, p => by
    simp only [loadF]
    split
    · simp
    · split
      · simp
      · split
        · have := loadF_cnt b k (p + pagesN (opened (b.drop (16 * p))).1.length)
          simp only [List.length_cons]; omega
        · simp
theorem loadR_cnt (b : List UInt8) : (loadR b).1.length ≤ 64 := by
  unfold loadR
  split
  · simp
  · exact loadF_cnt _ _ _

/-! ### an append -/
/-- n pieces of x from the i-th on, at page p + i and on -/
def progs (s : Int) (p : Nat) (x : List UInt8) : Nat → Nat → FlashSt → Int × FlashSt
  | 0, _, f => (0, f)
  | n + 1, i, f => if (progF f s ((p + i : Nat) : Int) ((x.drop (16 * i)).take 16)).1 = 0 then progs s p x n (i + 1) (progF f s ((p + i : Nat) : Int) ((x.drop (16 * i)).take 16)).2
    else progF f s ((p + i : Nat) : Int) ((x.drop (16 * i)).take 16)
def appendP (f : FlashSt) (s : Int) (b : List UInt8) : Int × FlashSt :=
  if 1018 < b.length then (5, f)
  else if s < 0 ∨ 6 ≤ s then (12, f)
  else if 64 < (loadR (readF f s)).2 + pagesN b.length then (4, f)
  else progs s (loadR (readF f s)).2 (sealed b) (pagesN b.length) 0 f

/-! ### the bytes of records, one behind the other -/
def recP (x : List UInt8) : List UInt8 := sealed x ++ List.replicate (16 * pagesN x.length - (x.length + 6)) 255
theorem length_recP (x : List UInt8) : (recP x).length = 16 * pagesN x.length := by
  have := pagesN_ge x.length
  unfold recP; rw [List.length_append, length_sealed, List.length_replicate]; omega
def packP (l : List (List UInt8)) : List UInt8 := (l.map recP).flatten
def usedP (l : List (List UInt8)) : Nat := (l.map fun x => pagesN x.length).sum
theorem packP_cons (x : List UInt8) (l : List (List UInt8)) : packP (x :: l) = recP x ++ packP l := by simp [packP]
theorem packP_snoc (x : List UInt8) (l : List (List UInt8)) : packP (l ++ [x]) = packP l ++ recP x := by simp [packP]
theorem usedP_cons (x : List UInt8) (l : List (List UInt8)) : usedP (x :: l) = pagesN x.length + usedP l := by simp [usedP]
theorem usedP_snoc (x : List UInt8) (l : List (List UInt8)) : usedP (l ++ [x]) = usedP l + pagesN x.length := by simp [usedP]
theorem length_packP : ∀ l : List (List UInt8), (packP l).length = 16 * usedP l
  | [] => rfl
  | x :: l => by rw [packP_cons, List.length_append, length_recP, length_packP l, usedP_cons]; omega
theorem recP_head (x r : List UInt8) (h : x.length ≤ 1018) : blankP ((recP x ++ r).take 16) = false := by
  have h1 : u8n (x.length / 256) ≠ 255 := by
    intro e
    have := congrArg UInt8.toNat e
    rw [u8n_toNat] at this
    have h255 : (255 : UInt8).toNat = 255 := rfl
    rw [h255] at this
    omega
  have h2 : (recP x ++ r).take 16 = u8n x.length :: u8n (x.length / 256) :: ((recP x ++ r).drop 2).take 14 := rfl
  rw [h2]
  unfold blankP
  simp only [List.all_cons, beq_eq_false_iff_ne.2 h1, Bool.false_and, Bool.and_false]
theorem recP_open (x r : List UInt8) (h : x.length ≤ 1018) : opened (recP x ++ r) = (x, 6 + x.length, 0) := by
  unfold recP
  rw [List.append_assoc]
  exact opened_sealed x _ (by omega)
theorem loadP_pack (b : List UInt8) : ∀ (l : List (List UInt8)) (p : Nat) (pre rest : List UInt8), b = pre ++ packP l ++ rest → pre.length = 16 * p → b.length = 1024 → (∀ x ∈ l, x.length ≤ 1018) →
    loadP b p = (l ++ (loadP b (p + usedP l)).1, (loadP b (p + usedP l)).2)
  | [], p, pre, rest, _, _, _, _ => by simp [usedP]
  | x :: l, p, pre, rest, hb, hp, hl, hx => by
    have hx0 := hx x (by simp)
    have hd : b.drop (16 * p) = recP x ++ (packP l ++ rest) := by
      rw [hb, ← hp, List.append_assoc, List.drop_left, packP_cons, List.append_assoc]
    have hlen : 16 * p + 16 * pagesN x.length ≤ 1024 := by
      have := congrArg List.length hb
      rw [hl, packP_cons] at this
      simp only [List.length_append, length_recP] at this
      omega
    have hpos := pagesN_pos x.length
    have ho := recP_open x (packP l ++ rest) hx0
    rw [loadP_next (by omega) (by rw [hd]; exact recP_head x _ hx0) (by rw [hd, ho])]
    rw [hd, ho]
    dsimp only
    rw [loadP_pack b l (p + pagesN x.length) (pre ++ recP x) rest (by rw [hb, packP_cons]; simp only [List.append_assoc]) (by rw [List.length_append, length_recP]; omega) hl (fun y hy => hx y (by simp [hy])), usedP_cons, Nat.add_assoc]
    rfl
theorem blankP_rep (n : Nat) : blankP (List.replicate n 255) = true := by unfold blankP; rw [List.all_replicate]; split <;> rfl
/-- the sector's bytes are these records and blanks -/
structure Packed (b : List UInt8) (l : List (List UInt8)) : Prop where
  eq : b = packP l ++ List.replicate (1024 - 16 * usedP l) 255
  used : usedP l ≤ 64
  short : ∀ x ∈ l, x.length ≤ 1018
theorem Packed.len {b : List UInt8} {l : List (List UInt8)} (h : Packed b l) : b.length = 1024 := by
  have := h.used
  rw [h.eq, List.length_append, length_packP, List.length_replicate]; omega
theorem Packed.load {b : List UInt8} {l : List (List UInt8)} (h : Packed b l) : loadR b = (l, usedP l) := by
  have hl := h.len
  have hu := h.used
  unfold loadR
  rw [if_neg (by omega), loadP_pack b l 0 [] _ (by rw [List.nil_append]; exact h.eq) rfl hl h.short, Nat.zero_add]
  by_cases h64 : usedP l = 64
  · rw [loadP_end (by omega), List.append_nil, h64]
  · have hb : blankP ((b.drop (16 * usedP l)).take 16) = true := by
      have hd : b.drop (16 * usedP l) = List.replicate (1024 - 16 * usedP l) 255 := by
        have := congrArg (List.drop (16 * usedP l)) h.eq
        rw [← length_packP, List.drop_left, length_packP] at this
        exact this
      rw [hd, List.take_replicate]
      exact blankP_rep _
    rw [loadP_blank (by omega) hb, List.append_nil]
theorem Packed.nil {b : List UInt8} (h : b = List.replicate 1024 255) : Packed b [] := ⟨by rw [h]; rfl, by simp [usedP], by simp⟩
end Go.Proofs.Ytcpifcdndhhmgaa
set_option linter.unusedVariables false
set_option linter.unusedSimpArgs false
namespace Go.Proofs.Ytcpifcdndhhmgaa
open Go.RowKit

structure Live (f : FlashSt) : Prop where
  dead : f.dead = false
  left : f.left = 0
  len : f.S.length = 6144
theorem live_new : Live newF := ⟨rfl, rfl, newF_len⟩
theorem pad_piece (x : List UInt8) (i j : Nat) (hj : j < 16) : (pad ((x.drop (16 * i)).take 16)).getD j 0 = x.getD (16 * i + j) 255 := by
  rw [pad_at _ j hj (by simp; omega)]
  simp only [List.length_take, List.length_drop, List.getD_eq_getElem?_getD]
  by_cases h : 16 * i + j < x.length
  · rw [if_pos (by omega), List.getElem?_take, if_pos hj, List.getElem?_drop, List.getElem?_eq_getElem h]
    rfl
  · rw [if_neg (by omega), List.getElem?_eq_none (by omega)]
    rfl
theorem progs_ok (k : Nat) (hk : k < 6) (x : List UInt8) (p : Nat) : ∀ (n i : Nat) (f : FlashSt), Live f → p + i + n ≤ 64 → (∀ m, 16 * (p + i) ≤ m → m < 16 * (p + i + n) → f.S.getD (k * 1024 + m) 0 = 255) →
    ∃ f', progs k p x n i f = (0, f') ∧ Live f' ∧ ∀ m, m < 6144 → f'.S.getD m 0 = if k * 1024 + 16 * (p + i) ≤ m ∧ m < k * 1024 + 16 * (p + i + n) then x.getD (m - (k * 1024 + 16 * p)) 255 else f.S.getD m 0
  | 0, i, f, hL, _, _ => ⟨f, rfl, hL, fun m hm => by rw [if_neg (by omega)]⟩
  | n + 1, i, f, hL, hp, hb => by
    have h1 : progF f k ((p + i : Nat) : Int) ((x.drop (16 * i)).take 16) = (0, doneP f (k * 1024 + (p + i) * 16) ((x.drop (16 * i)).take 16)) :=
      prog_ok f k (p + i) _ hL.dead hL.left hk (by omega) (by simp; omega) (fits_blank _ _ _ fun j hj => by
        have := hb (16 * (p + i) + j) (by omega) (by omega)
        rw [show k * 1024 + (p + i) * 16 + j = k * 1024 + (16 * (p + i) + j) by omega]; exact this)
    obtain ⟨f1, hf1⟩ : ∃ f1, doneP f (k * 1024 + (p + i) * 16) ((x.drop (16 * i)).take 16) = f1 := ⟨_, rfl⟩
    have hL1 : Live f1 := by rw [← hf1]; exact ⟨rfl, rfl, by rw [doneP_len]; exact hL.len⟩
    have hat : ∀ m, m < 6144 → f1.S.getD m 0 = if k * 1024 + (p + i) * 16 ≤ m ∧ m < k * 1024 + (p + i) * 16 + 16 then x.getD (m - (k * 1024 + 16 * p)) 255 else f.S.getD m 0 := fun m hm => by
      rw [← hf1, doneP_at _ _ _ _ (by rw [hL.len]; exact hm)]
      by_cases hc : k * 1024 + (p + i) * 16 ≤ m ∧ m < k * 1024 + (p + i) * 16 + 16
      · rw [if_pos hc, if_pos hc, pad_piece _ _ _ (by omega)]
        congr 1
        omega
      · rw [if_neg hc, if_neg hc]
    rw [hf1] at h1
    clear hf1
    obtain ⟨f', he, hL', hat'⟩ := progs_ok k hk x p n (i + 1) f1 hL1 (by omega) (fun m hm1 hm2 => by
      rw [hat _ (by omega), if_neg (by omega)]
      exact hb m (by omega) (by omega))
    refine ⟨f', ?_, hL', fun m hm => ?_⟩
    · simp only [progs]
      rw [if_pos (by rw [h1]), h1]
      exact he
    · rw [hat' m hm, hat m hm]
      by_cases h2 : k * 1024 + 16 * (p + (i + 1)) ≤ m ∧ m < k * 1024 + 16 * (p + (i + 1) + n)
      · rw [if_pos h2, if_pos (by omega)]
      · rw [if_neg h2]
        by_cases h3 : k * 1024 + (p + i) * 16 ≤ m ∧ m < k * 1024 + (p + i) * 16 + 16
        · rw [if_pos h3, if_pos (by omega)]
        · rw [if_neg h3, if_neg (by omega)]
theorem recP_getD (b : List UInt8) (j : Nat) (hj : j < 16 * pagesN b.length) : (recP b).getD j 0 = (sealed b).getD j 255 := by
  have hl := length_sealed b
  have hg := pagesN_ge b.length
  unfold recP
  simp only [List.getD_eq_getElem?_getD]
  by_cases h : j < (sealed b).length
  · rw [List.getElem?_append_left h, List.getElem?_eq_getElem h]; rfl
  · rw [List.getElem?_append_right (by omega), List.getElem?_replicate, if_pos (by omega), List.getElem?_eq_none (by omega)]; rfl
theorem Packed.at_ {c : List UInt8} {l : List (List UInt8)} (h : Packed c l) (m : Nat) (hm : m < 1024) : c.getD m 0 = if m < 16 * usedP l then (packP l).getD m 0 else 255 := by
  have hl := length_packP l
  conv => lhs; rw [h.eq]
  simp only [List.getD_eq_getElem?_getD]
  by_cases h1 : m < 16 * usedP l
  · rw [if_pos h1, List.getElem?_append_left (by omega)]
  · rw [if_neg h1, List.getElem?_append_right (by omega), List.getElem?_replicate, if_pos (by omega)]; rfl
theorem append_packed (f : FlashSt) (hL : Live f) (k : Nat) (hk : k < 6) (l : List (List UInt8)) (hP : Packed (readF f k) l) (b : List UInt8) (hb : b.length ≤ 1018) (hu : usedP l + pagesN b.length ≤ 64) :
    ∃ f', appendP f k b = (0, f') ∧ Live f' ∧ Packed (readF f' k) (l ++ [b]) ∧ ∀ j, j < 6 → j ≠ k → readF f' j = readF f j := by
  have hS : ∀ m, m < 1024 → f.S.getD (k * 1024 + m) 0 = if m < 16 * usedP l then (packP l).getD m 0 else 255 := fun m hm => by
    have h1 : (readF f k).getD m 0 = f.S.getD (k * 1024 + m) 0 := by rw [List.getD_eq_getElem?_getD, read_at f k hk hL.len m hm]; rfl
    rw [← hP.at_ m hm, h1]
  obtain ⟨f', he, hL', hat⟩ := progs_ok k hk (sealed b) (usedP l) (pagesN b.length) 0 f hL (by omega) (fun m h1 h2 => by rw [hS m (by omega), if_neg (by omega)])
  refine ⟨f', ?_, hL', ?_, ?_⟩
  · unfold appendP
    rw [if_neg (by omega), if_neg (by omega), hP.load, if_neg (by dsimp only; omega)]
    exact he
  · have hused : usedP (l ++ [b]) = usedP l + pagesN b.length := usedP_snoc b l
    refine ⟨?_, by omega, fun x hx => by
      rcases List.mem_append.1 hx with h | h
      · exact hP.short x h
      · simp at h; subst h; exact hb⟩
    rw [hused]
    have hlp := length_packP l
    have hlp2 := length_packP (l ++ [b])
    rw [hused] at hlp2
    apply List.ext_getElem?
    intro m
    by_cases hm : m < 1024
    · rw [read_at f' k hk hL'.len m hm, hat _ (by omega)]
      by_cases h1 : m < 16 * usedP l
      · rw [if_neg (by omega), hS m hm, if_pos h1, List.getElem?_append_left (by omega), packP_snoc, List.getElem?_append_left (by omega), List.getD_eq_getElem?_getD, List.getElem?_eq_getElem (by omega)]; rfl
      · by_cases h2 : m < 16 * (usedP l + pagesN b.length)
        · rw [if_pos (by omega), List.getElem?_append_left (by omega), packP_snoc, List.getElem?_append_right (by omega), hlp]
          have hr := recP_getD b (m - 16 * usedP l) (by omega)
          have hlr := length_recP b
          rw [List.getD_eq_getElem?_getD, List.getElem?_eq_getElem (by omega)] at hr
          rw [List.getElem?_eq_getElem (by omega)]
          congr 1
          rw [show k * 1024 + m - (k * 1024 + 16 * usedP l) = m - 16 * usedP l by omega]
          exact hr.symm
        · rw [if_neg (by omega), hS m hm, if_neg h1, List.getElem?_append_right (by omega), List.getElem?_replicate, if_pos (by omega)]
    · have hr := read_len f' k hk hL'.len
      rw [List.getElem?_eq_none (by omega), List.getElem?_eq_none (by rw [List.length_append, hlp2, List.length_replicate]; omega)]
  · intro j hj hne
    apply List.ext_getElem?
    intro m
    by_cases hm : m < 1024
    · rw [read_at f' j hj hL'.len m hm, read_at f j hj hL.len m hm, hat _ (by omega), if_neg (by omega)]
    · rw [List.getElem?_eq_none (by rw [read_len f' j hj hL'.len]; omega), List.getElem?_eq_none (by rw [read_len f j hj hL.len]; omega)]
theorem append_full (f : FlashSt) (k : Nat) (hk : k < 6) (l : List (List UInt8)) (hP : Packed (readF f k) l) (b : List UInt8) (hb : b.length ≤ 1018) (hu : 64 < usedP l + pagesN b.length) : appendP f k b = (4, f) := by
  unfold appendP
  rw [if_neg (by omega), if_neg (by omega), hP.load, if_pos (by dsimp only; omega)]
theorem packed_new (k : Nat) (hk : k < 6) : Packed (readF newF k) [] := by
  refine ⟨?_, by simp [usedP], by simp⟩
  rw [show packP [] = [] from rfl, show usedP [] = 0 from rfl, List.nil_append, Nat.mul_zero, Nat.sub_zero]
  apply List.ext_getElem?
  intro m
  rw [List.getElem?_replicate]
  by_cases hm : m < 1024
  · rw [read_at newF k hk newF_len m hm, newF_at _ (by omega), if_pos hm]
  · rw [List.getElem?_eq_none (by rw [read_len newF k hk newF_len]; omega), if_neg hm]
end Go.Proofs.Ytcpifcdndhhmgaa
