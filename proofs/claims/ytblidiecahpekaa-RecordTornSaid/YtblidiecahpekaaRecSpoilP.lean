/- Records, plain: a sector whose one record is spoilt: what stands ahead is told, nothing behind. No program in sight. -/
import Derived.Test.YtblidiecahpekaaRecLaws
set_option linter.unusedVariables false
set_option linter.unusedSimpArgs false
namespace Go.Proofs.Ytblidiecahpekaa
open Go.RowKit

theorem opened_app (a m : List UInt8) (h6 : 6 ≤ a.length) (h : le (a.take 2) + 6 ≤ a.length) : opened (a ++ m) = opened a := by
  have h1 : (a ++ m).take 2 = a.take 2 := by rw [List.take_append_of_le_length (by omega)]
  have h2 : ((a ++ m).drop 2).take 4 = (a.drop 2).take 4 := by
    rw [List.drop_append_of_le_length (by omega), List.take_append_of_le_length (by rw [List.length_drop]; omega)]
  have h3 : ((a ++ m).drop 6).take (le (a.take 2)) = (a.drop 6).take (le (a.take 2)) := by
    rw [List.drop_append_of_le_length (by omega), List.take_append_of_le_length (by rw [List.length_drop]; omega)]
  have hl : (a ++ m).length = a.length + m.length := List.length_append
  unfold opened
  rw [h1, h2, h3, hl]
  rw [if_neg (by omega), if_neg (by omega), if_neg (show ¬ a.length < 6 by omega), if_neg (show ¬ a.length - 6 < le (a.take 2) by omega)]
theorem load_spoilt (b : List UInt8) (l : List (List UInt8)) (q rest : List UInt8) (hb : b = packP l ++ (q ++ rest)) (hl : b.length = 1024) (hs : ∀ x ∈ l, x.length ≤ 1018) (h16 : q.length = 16) (hnb : blankP q = false) (ho : (opened (q ++ rest)).2.2 ≠ 0) : loadR b = (l, 64) := by
  have hlen := congrArg List.length hb
  rw [hl, List.length_append, length_packP, List.length_append, h16] at hlen
  have hd : b.drop (16 * usedP l) = q ++ rest := by
    rw [hb, ← length_packP, List.drop_left]
  have h1 := loadP_pack b l 0 [] (q ++ rest) (by rw [List.nil_append]; exact hb) rfl hl hs
  have h2 : loadP b (usedP l) = ([], 64) := loadP_bad (by omega) (by rw [hd, List.take_append_of_le_length (by omega), List.take_of_length_le (by omega)]; exact hnb) (by rw [hd]; exact ho)
  rw [Nat.zero_add, h2, List.append_nil] at h1
  unfold loadR
  rw [if_neg (by omega), h1]
/-- the page of a record with one byte of it another -/
def spoilP (l : List UInt8) (j : Nat) (y : UInt8) : List UInt8 := (recP l).set j y
theorem spoil_opened (l rest : List UInt8) (i : Nat) (z y : UInt8) (hl : l.length ≤ 1018) (hi : i < l.length + 4) (hz : (sealed l)[2 + i]? = some z) (hy : z ≠ y) : (opened (spoilP l (2 + i) y ++ rest)).2.2 ≠ 0 := by
  have h1 : spoilP l (2 + i) y = (sealed l).set (2 + i) y ++ List.replicate (16 * pagesN l.length - (l.length + 6)) 255 := by
    unfold spoilP recP
    rw [List.set_append, if_pos (by rw [length_sealed]; omega)]
  have h2 : ((sealed l).set (2 + i) y).take 2 = [u8n l.length, u8n (l.length / 256)] := by
    rw [List.take_set, List.set_eq_of_length_le (by rw [List.length_take]; omega)]; rfl
  rw [h1, List.append_assoc, opened_app _ _ (by rw [List.length_set, length_sealed]; omega) (by rw [h2, le_head2 _ (by omega), List.length_set, length_sealed]; omega), opened_turned l i z y (by omega) hi hz hy]
  decide
def recN (n : Nat) : List (List UInt8) := (List.range n).map fun k => [255, u8n k, 255]
theorem recN_succ (n : Nat) : recN (n + 1) = recN n ++ [[255, u8n n, 255]] := by simp [recN, List.range_succ]
theorem recN_used : ∀ n, usedP (recN n) = n
  | 0 => rfl
  | n + 1 => by rw [recN_succ, usedP_snoc, recN_used n]; simp [pagesN]
theorem recN_take (n k : Nat) (h : k ≤ n) : (recN n).take k = recN k := by
  simp only [recN, List.map_take.symm, List.take_range, Nat.min_eq_left h]
theorem recN_short (n : Nat) : ∀ x ∈ recN n, x.length ≤ 1018 := fun x hx => by
  simp only [recN, List.mem_map] at hx
  obtain ⟨k, _, rfl⟩ := hx
  show 3 ≤ 1018
  omega
def recK (t : Nat) : List UInt8 := [255, u8n t, 255]
theorem recK_pages (t : Nat) : pagesN (recK t).length = 1 := by simp [recK, pagesN]
theorem recP_len (t : Nat) : (recP (recK t)).length = 16 := by rw [length_recP, recK_pages]
theorem packN_split (n t : Nat) (ht : t < n) : packP (recN n) = packP (recN t) ++ (recP (recK t) ++ packP ((recN n).drop (t + 1))) := by
  have h : recN n = recN t ++ recK t :: (recN n).drop (t + 1) := by
    have h1 := (List.take_append_drop (t + 1) (recN n)).symm
    rw [recN_take n (t + 1) ht, recN_succ, List.append_assoc] at h1
    exact h1
  conv => lhs; rw [h]
  unfold packP
  rw [List.map_append, List.flatten_append, List.map_cons, List.flatten_cons]
theorem u8_and_not (x : UInt8) : x &&& ~~~x = 0 := by
  apply UInt8.toBitVec_inj.1
  simp
theorem u8_and_not255 (y : UInt8) : y &&& ~~~(255 : UInt8) = 0 := by
  have h : (~~~(255 : UInt8)) = 0 := by decide
  rw [h, UInt8.and_zero]
theorem sealed_pay (l : List UInt8) (i : Nat) (hi : i < l.length) : (sealed l)[6 + i]? = some l[i] := by
  unfold sealed
  rw [List.getElem?_append_right (by rw [length_sealHead]; omega), length_sealHead, show 6 + i - 6 = i by omega, List.getElem?_eq_getElem hi]
theorem spoil_flash (f : FlashSt) (hL : Live f) (n t : Nat) (hn : n ≤ 60) (ht : t < n) (hP : Packed (readF f ((1 : Nat) : Int)) (recN n)) (j : Nat) (hj : j < 2) (y : UInt8) (hy : y ≠ 255) :
    ∃ f2, progF f ((1 : Nat) : Int) (t : Int) (spoilP (recK t) (6 + 2 * j) y) = (0, f2) ∧ loadR (readF f2 ((1 : Nat) : Int)) = (recN t, 64) := by
  have hlp := recP_len t
  have hls : (spoilP (recK t) (6 + 2 * j) y).length = 16 := by unfold spoilP; rw [List.length_set, hlp]
  have hpk := length_packP (recN t)
  rw [recN_used] at hpk
  have hspl := packN_split n t ht
  have hold : ∀ m, m < 1024 → f.S.getD (1 * 1024 + m) 0 = (readF f ((1 : Nat) : Int)).getD m 0 := fun m hm => by
    have h1 := read_at f 1 (by omega) hL.len m hm
    have h2 : (readF f ((1 : Nat) : Int)).getD m 0 = ((readF f ((1 : Nat) : Int))[m]?).getD 0 := List.getD_eq_getElem?_getD
    rw [h2, h1]; rfl
  have heq : readF f ((1 : Nat) : Int) = packP (recN t) ++ (recP (recK t) ++ (packP ((recN n).drop (t + 1)) ++ List.replicate (1024 - 16 * usedP (recN n)) 255)) := by
    rw [← List.append_assoc (recP (recK t)), ← List.append_assoc, ← hspl]; exact hP.eq
  have hpage : ∀ k, k < 16 → f.S.getD (1 * 1024 + t * 16 + k) 0 = (recP (recK t)).getD k 0 := fun k hk => by
    rw [Nat.add_assoc, hold _ (by omega), heq]
    simp only [List.getD_eq_getElem?_getD]
    rw [List.getElem?_append_right (by omega), List.getElem?_append_left (by omega), hpk, show t * 16 + k - 16 * t = k by omega]
  have hsat : ∀ k, k < 16 → (spoilP (recK t) (6 + 2 * j) y).getD k 0 = if k = 6 + 2 * j then y else (recP (recK t)).getD k 0 := fun k hk => by
    unfold spoilP
    simp only [List.getD_eq_getElem?_getD]
    by_cases he : k = 6 + 2 * j
    · rw [if_pos he, he, List.getElem?_set_self (by omega)]; rfl
    · rw [if_neg he, List.getElem?_set_ne (by omega)]
  have hpay : (recP (recK t)).getD (6 + 2 * j) 0 = 255 := by
    rw [recP_getD _ _ (by rw [recK_pages]; omega), List.getD_eq_getElem?_getD]
    have h2 : (sealed (recK t))[6 + 2 * j]? = some (255 : UInt8) := by
      rw [sealed_pay _ _ (by show 2 * j < 3; omega)]
      rcases (by omega : j = 0 ∨ j = 1) with rfl | rfl <;> rfl
    rw [h2]; rfl
  have hfit : fits (spoilP (recK t) (6 + 2 * j) y) (1 * 1024 + t * 16) f.S 16 = true := by
    rw [fits_iff]
    intro k hk
    rw [pad_at _ k hk (by omega), if_pos (by omega), hsat k hk, hpage k hk]
    by_cases he : k = 6 + 2 * j
    · rw [if_pos he, he, hpay]; exact u8_and_not255 y
    · rw [if_neg he]; exact u8_and_not _
  have h1 := prog_ok f 1 t _ hL.dead hL.left (by omega) (by omega) (by omega) hfit
  refine ⟨_, h1, ?_⟩
  obtain ⟨f2, hf2⟩ : ∃ f2, doneP f (1 * 1024 + t * 16) (spoilP (recK t) (6 + 2 * j) y) = f2 := ⟨_, rfl⟩
  have hlen2 : f2.S.length = 6144 := by rw [← hf2, doneP_len]; exact hL.len
  have hrd : readF f2 ((1 : Nat) : Int) = packP (recN t) ++ (spoilP (recK t) (6 + 2 * j) y ++ (packP ((recN n).drop (t + 1)) ++ List.replicate (1024 - 16 * usedP (recN n)) 255)) := by
    have hl1 := congrArg List.length heq
    rw [read_len f 1 (by omega) hL.len, List.length_append, List.length_append, hlp] at hl1
    apply List.ext_getElem?
    intro m
    by_cases hm : m < 1024
    · rw [read_at f2 1 (by omega) hlen2 m hm, ← hf2, doneP_at _ _ _ _ (by rw [hL.len]; omega)]
      by_cases ha : m < 16 * t
      · rw [if_neg (by omega), hold m hm, heq, List.getElem?_append_left (by omega), List.getD_eq_getElem?_getD, List.getElem?_append_left (by omega), List.getElem?_eq_getElem (by omega)]; rfl
      · by_cases hb : m < 16 * t + 16
        · rw [if_pos (by omega), pad_at _ _ (by omega) (by omega), if_pos (by omega), List.getElem?_append_right (by omega), List.getElem?_append_left (by omega), hpk, show 1 * 1024 + m - (1 * 1024 + t * 16) = m - 16 * t by omega, List.getD_eq_getElem?_getD, List.getElem?_eq_getElem (by omega)]; rfl
        · rw [if_neg (by omega), hold m hm, heq, List.getElem?_append_right (by omega), List.getElem?_append_right (by omega), List.getD_eq_getElem?_getD, List.getElem?_append_right (by omega), List.getElem?_append_right (by omega), hpk, hlp, hls, List.getElem?_eq_getElem (by simp only [List.length_append] at hl1 ⊢; omega)]; rfl
    · rw [List.getElem?_eq_none (by rw [read_len f2 1 (by omega) hlen2]; omega), List.getElem?_eq_none (by simp only [List.length_append] at hl1 ⊢; omega)]
  rw [hf2]
  refine load_spoilt _ _ _ _ hrd (read_len f2 1 (by omega) hlen2) (recN_short t) hls ?_ ?_
  · have h2 : spoilP (recK t) (6 + 2 * j) y = 3 :: (spoilP (recK t) (6 + 2 * j) y).drop 1 := by
      rcases (by omega : j = 0 ∨ j = 1) with rfl | rfl <;> rfl
    rw [h2]
    unfold blankP
    rw [List.all_cons]
    rfl
  · rw [show 6 + 2 * j = 2 + (4 + 2 * j) by omega]
    refine spoil_opened (recK t) _ (4 + 2 * j) 255 y (by show 3 ≤ 1018; omega) (by show 4 + 2 * j < 3 + 4; omega) ?_ (fun h => hy h.symm)
    rw [show 2 + (4 + 2 * j) = 6 + 2 * j by omega, sealed_pay _ _ (by show 2 * j < 3; omega)]
    rcases (by omega : j = 0 ∨ j = 1) with rfl | rfl <;> rfl
theorem page_of (b : List UInt8) (n t : Nat) (ht : t < n) (hP : Packed b (recN n)) : (b.take (16 * t + 16)).drop (16 * t) = recP (recK t) := by
  have hpk := length_packP (recN t)
  rw [recN_used] at hpk
  have heq : b = packP (recN t) ++ (recP (recK t) ++ (packP ((recN n).drop (t + 1)) ++ List.replicate (1024 - 16 * usedP (recN n)) 255)) := by
    rw [← List.append_assoc (recP (recK t)), ← List.append_assoc, ← packN_split n t ht]; exact hP.eq
  rw [List.drop_take, heq, ← hpk, List.drop_left, show (packP (recN t)).length + 16 - (packP (recN t)).length = 16 by omega, List.take_append_of_le_length (by rw [recP_len]; omega), List.take_of_length_le (by rw [recP_len]; omega)]
theorem page_pay (t j : Nat) (hj : j < 2) : (recP (recK t))[6 + 2 * j]? = some 255 := by
  have h2 : (sealed (recK t))[6 + 2 * j]? = some (255 : UInt8) := by
    rw [sealed_pay _ _ (by show 2 * j < 3; omega)]
    rcases (by omega : j = 0 ∨ j = 1) with rfl | rfl <;> rfl
  unfold recP
  rw [List.getElem?_append_left (by rw [length_sealed]; show 6 + 2 * j < 3 + 6; omega)]
  exact h2
theorem spoil_append (f : FlashSt) (l : List (List UInt8)) (h : loadR (readF f ((1 : Nat) : Int)) = (l, 64)) : appendP f ((1 : Nat) : Int) [] = (4, f) := by
  unfold appendP
  rw [if_neg (by decide), if_neg (by omega), h, if_pos (by show 64 < 64 + pagesN 0; decide)]
end Go.Proofs.Ytblidiecahpekaa
