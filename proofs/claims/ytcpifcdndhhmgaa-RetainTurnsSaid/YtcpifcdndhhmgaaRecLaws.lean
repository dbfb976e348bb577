/- Records, plain: an append onto a sector of records, while the power is on. No program in sight. -/
import Derived.Test.YtcpifcdndhhmgaaRecPlain
set_option linter.unusedVariables false
set_option linter.unusedSimpArgs false
namespace Go.Proofs.Ytcpifcdndhhmgaa
open Go.RowKit

structure Live (f : FlashSt) : Prop where
  dead : f.dead = false
  left : f.left = 0
  len : f.S.length = 6144
theorem live_new : Live newF := ⟨rfl, rfl, newF_len⟩
theorem pad_piece (x : List UInt8) (i j : Nat) (hj : j < 16) : (pad ((x.drop (16 * i)).take 16)).getD j 0 = x.getD (16 * i + j) 255 := by
  rw [pad_at _ j hj (by simp; omega)]
  simp only [List.length_take, List.length_drop, List.getD_eq_getElem?_getD]
  by_cases h : 16 * i + j < x.length
  · rw [if_pos (by omega), List.getElem?_take, if_pos hj, List.getElem?_drop, List.getElem?_eq_getElem h]
    rfl
  · rw [if_neg (by omega), List.getElem?_eq_none (by omega)]
    rfl
theorem progs_ok (k : Nat) (hk : k < 6) (x : List UInt8) (p : Nat) : ∀ (n i : Nat) (f : FlashSt), Live f → p + i + n ≤ 64 → (∀ m, 16 * (p + i) ≤ m → m < 16 * (p + i + n) → f.S.getD (k * 1024 + m) 0 = 255) →
    ∃ f', progs k p x n i f = (0, f') ∧ Live f' ∧ ∀ m, m < 6144 → f'.S.getD m 0 = if k * 1024 + 16 * (p + i) ≤ m ∧ m < k * 1024 + 16 * (p + i + n) then x.getD (m - (k * 1024 + 16 * p)) 255 else f.S.getD m 0
  | 0, i, f, hL, _, _ => ⟨f, rfl, hL, fun m hm => by rw [if_neg (by omega)]⟩
  | n + 1, i, f, hL, hp, hb => by
    have h1 : progF f k ((p + i : Nat) : Int) ((x.drop (16 * i)).take 16) = (0, doneP f (k * 1024 + (p + i) * 16) ((x.drop (16 * i)).take 16)) :=
      prog_ok f k (p + i) _ hL.dead hL.left hk (by omega) (by simp; omega) (fits_blank _ _ _ fun j hj => by
        have := hb (16 * (p + i) + j) (by omega) (by omega)
        rw [show k * 1024 + (p + i) * 16 + j = k * 1024 + (16 * (p + i) + j) by omega]; exact this)
    obtain ⟨f1, hf1⟩ : ∃ f1, doneP f (k * 1024 + (p + i) * 16) ((x.drop (16 * i)).take 16) = f1 := ⟨_, rfl⟩
    have hL1 : Live f1 := by rw [← hf1]; exact ⟨rfl, rfl, by rw [doneP_len]; exact hL.len⟩
    have hat : ∀ m, m < 6144 → f1.S.getD m 0 = if k * 1024 + (p + i) * 16 ≤ m ∧ m < k * 1024 + (p + i) * 16 + 16 then x.getD (m - (k * 1024 + 16 * p)) 255 else f.S.getD m 0 := fun m hm => by
      rw [← hf1, doneP_at _ _ _ _ (by rw [hL.len]; exact hm)]
      by_cases hc : k * 1024 + (p + i) * 16 ≤ m ∧ m < k * 1024 + (p + i) * 16 + 16
      · rw [if_pos hc, if_pos hc, pad_piece _ _ _ (by omega)]
        congr 1
        omega
      · rw [if_neg hc, if_neg hc]
    rw [hf1] at h1
    clear hf1
    obtain ⟨f', he, hL', hat'⟩ := progs_ok k hk x p n (i + 1) f1 hL1 (by omega) (fun m hm1 hm2 => by
      rw [hat _ (by omega), if_neg (by omega)]
      exact hb m (by omega) (by omega))
    refine ⟨f', ?_, hL', fun m hm => ?_⟩
    · simp only [progs]
      rw [if_pos (by rw [h1]), h1]
      exact he
    · rw [hat' m hm, hat m hm]
      by_cases h2 : k * 1024 + 16 * (p + (i + 1)) ≤ m ∧ m < k * 1024 + 16 * (p + (i + 1) + n)
      · rw [if_pos h2, if_pos (by omega)]
      · rw [if_neg h2]
        by_cases h3 : k * 1024 + (p + i) * 16 ≤ m ∧ m < k * 1024 + (p + i) * 16 + 16
        · rw [if_pos h3, if_pos (by omega)]
        · rw [if_neg h3, if_neg (by omega)]
theorem recP_getD (b : List UInt8) (j : Nat) (hj : j < 16 * pagesN b.length) : (recP b).getD j 0 = (sealed b).getD j 255 := by
  have hl := length_sealed b
  have hg := pagesN_ge b.length
  unfold recP
  simp only [List.getD_eq_getElem?_getD]
  by_cases h : j < (sealed b).length
  · rw [List.getElem?_append_left h, List.getElem?_eq_getElem h]; rfl
  · rw [List.getElem?_append_right (by omega), List.getElem?_replicate, if_pos (by omega), List.getElem?_eq_none (by omega)]; rfl
theorem Packed.at_ {c : List UInt8} {l : List (List UInt8)} (h : Packed c l) (m : Nat) (hm : m < 1024) : c.getD m 0 = if m < 16 * usedP l then (packP l).getD m 0 else 255 := by
  have hl := length_packP l
  conv => lhs; rw [h.eq]
  simp only [List.getD_eq_getElem?_getD]
  by_cases h1 : m < 16 * usedP l
  · rw [if_pos h1, List.getElem?_append_left (by omega)]
  · rw [if_neg h1, List.getElem?_append_right (by omega), List.getElem?_replicate, if_pos (by omega)]; rfl
theorem append_packed (f : FlashSt) (hL : Live f) (k : Nat) (hk : k < 6) (l : List (List UInt8)) (hP : Packed (readF f k) l) (b : List UInt8) (hb : b.length ≤ 1018) (hu : usedP l + pagesN b.length ≤ 64) :
    ∃ f', appendP f k b = (0, f') ∧ Live f' ∧ Packed (readF f' k) (l ++ [b]) ∧ ∀ j, j < 6 → j ≠ k → readF f' j = readF f j := by
  have hS : ∀ m, m < 1024 → f.S.getD (k * 1024 + m) 0 = if m < 16 * usedP l then (packP l).getD m 0 else 255 := fun m hm => by
    have h1 : (readF f k).getD m 0 = f.S.getD (k * 1024 + m) 0 := by rw [List.getD_eq_getElem?_getD, read_at f k hk hL.len m hm]; rfl
    rw [← hP.at_ m hm, h1]
  obtain ⟨f', he, hL', hat⟩ := progs_ok k hk (sealed b) (usedP l) (pagesN b.length) 0 f hL (by omega) (fun m h1 h2 => by rw [hS m (by omega), if_neg (by omega)])
  refine ⟨f', ?_, hL', ?_, ?_⟩
  · unfold appendP
    rw [if_neg (by omega), if_neg (by omega), hP.load, if_neg (by dsimp only; omega)]
    exact he
  · have hused : usedP (l ++ [b]) = usedP l + pagesN b.length := usedP_snoc b l
    refine ⟨?_, by omega, fun x hx => by
      rcases List.mem_append.1 hx with h | h
      · exact hP.short x h
      · simp at h; subst h; exact hb⟩
    rw [hused]
    have hlp := length_packP l
    have hlp2 := length_packP (l ++ [b])
    rw [hused] at hlp2
    apply List.ext_getElem?
    intro m
    by_cases hm : m < 1024
    · rw [read_at f' k hk hL'.len m hm, hat _ (by omega)]
      by_cases h1 : m < 16 * usedP l
      · rw [if_neg (by omega), hS m hm, if_pos h1, List.getElem?_append_left (by omega), packP_snoc, List.getElem?_append_left (by omega), List.getD_eq_getElem?_getD, List.getElem?_eq_getElem (by omega)]; rfl
      · by_cases h2 : m < 16 * (usedP l + pagesN b.length)
        · rw [if_pos (by omega), List.getElem?_append_left (by omega), packP_snoc, List.getElem?_append_right (by omega), hlp]
          have hr := recP_getD b (m - 16 * usedP l) (by omega)
          have hlr := length_recP b
          rw [List.getD_eq_getElem?_getD, List.getElem?_eq_getElem (by omega)] at hr
          rw [List.getElem?_eq_getElem (by omega)]
          congr 1
          rw [show k * 1024 + m - (k * 1024 + 16 * usedP l) = m - 16 * usedP l by omega]
          exact hr.symm
        · rw [if_neg (by omega), hS m hm, if_neg h1, List.getElem?_append_right (by omega), List.getElem?_replicate, if_pos (by omega)]
    · have hr := read_len f' k hk hL'.len
      rw [List.getElem?_eq_none (by omega), List.getElem?_eq_none (by rw [List.length_append, hlp2, List.length_replicate]; omega)]
  · intro j hj hne
    apply List.ext_getElem?
    intro m
    by_cases hm : m < 1024
    · rw [read_at f' j hj hL'.len m hm, read_at f j hj hL.len m hm, hat _ (by omega), if_neg (by omega)]
    · rw [List.getElem?_eq_none (by rw [read_len f' j hj hL'.len]; omega), List.getElem?_eq_none (by rw [read_len f j hj hL.len]; omega)]
theorem append_full (f : FlashSt) (k : Nat) (hk : k < 6) (l : List (List UInt8)) (hP : Packed (readF f k) l) (b : List UInt8) (hb : b.length ≤ 1018) (hu : 64 < usedP l + pagesN b.length) : appendP f k b = (4, f) := by
  unfold appendP
  rw [if_neg (by omega), if_neg (by omega), hP.load, if_pos (by dsimp only; omega)]
theorem packed_new (k : Nat) (hk : k < 6) : Packed (readF newF k) [] := by
  refine ⟨?_, by simp [usedP], by simp⟩
  rw [show packP [] = [] from rfl, show usedP [] = 0 from rfl, List.nil_append, Nat.mul_zero, Nat.sub_zero]
  apply List.ext_getElem?
  intro m
  rw [List.getElem?_replicate]
  by_cases hm : m < 1024
  · rw [read_at newF k hk newF_len m hm, newF_at _ (by omega), if_pos hm]
  · rw [List.getElem?_eq_none (by rw [read_len newF k hk newF_len]; omega), if_neg hm]
end Go.Proofs.Ytcpifcdndhhmgaa
