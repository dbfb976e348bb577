/- Records, plain: a sector whose one record is spoilt: what stands ahead is told, nothing behind. No program in sight. FlashTorn, plain: what a torn program and a torn erasure leave. Records, plain: an append while the power goes at some operation. No program in sight. -/
import Derived.Test.YtcpifcdndhhmgaaClone
import Derived.Test.YtcpifcdndhhmgaaSealPlain
set_option linter.unusedVariables false
set_option linter.unusedSimpArgs false
namespace Go.Proofs.Ytcpifcdndhhmgaa
open Go.RowKit

/-- the page of a record with one byte of it another -/
def spoilP (l : List UInt8) (j : Nat) (y : UInt8) : List UInt8 := (recP l).set j y
def recN (n : Nat) : List (List UInt8) := (List.range n).map fun k => [255, u8n k, 255]
def recK (t : Nat) : List UInt8 := [255, u8n t, 255]
end Go.Proofs.Ytcpifcdndhhmgaa
set_option linter.unusedVariables false
set_option linter.unusedSimpArgs false
namespace Go.Proofs.Ytcpifcdndhhmgaa
open Go.RowKit

theorem layB_blank (m x : UInt8) : layB m 255 x = x ||| ~~~m := by
  unfold layB
  rw [show (255 : UInt8) &&& ~~~m = ~~~m from (UInt8.and_comm _ _).trans (u8_and_255 _)]
  apply UInt8.toBitVec_inj.1
  apply BitVec.eq_of_getLsbD_eq
  intro i hi
  simp only [UInt8.toBitVec_or, UInt8.toBitVec_and, UInt8.toBitVec_not, BitVec.getLsbD_or, BitVec.getLsbD_and, BitVec.getLsbD_not]
  have : decide (i < 8) = true := by simpa using hi
  rw [this]
  cases x.toBitVec.getLsbD i <;> cases m.toBitVec.getLsbD i <;> rfl
/-- the power goes at this operation -/
theorem spend_last (f : FlashSt) (hl : f.left = 1) : (spendF f).dead = true ∧ (spendF f).mask = f.mask := by
  unfold spendF
  rw [if_pos (by omega)]
  dsimp only
  rw [hl]
  exact ⟨by decide, rfl⟩
theorem torn_prog (f : FlashSt) (k q : Nat) (b : List UInt8) (hd : f.dead = false) (hl : f.left = 1) (hk : k < 6) (hq : q < 64) (hb : b.length ≤ 16) (hS : f.S.length = 6144) (hf : ∀ j, j < 16 → f.S.getD (k * 1024 + q * 16 + j) 0 = 255) :
    ∃ f', progF f k q b = (14, f') ∧ f'.dead = true ∧ f'.S.length = 6144 ∧ ∀ i, i < 6144 → f'.S.getD i 0 = if k * 1024 + q * 16 ≤ i ∧ i < k * 1024 + q * 16 + 16 then (pad b).getD (i - (k * 1024 + q * 16)) 0 ||| ~~~(mByte false f.mask (i - (k * 1024 + q * 16))) else f.S.getD i 0 := by
  obtain ⟨h1, h2⟩ := spend_last f hl
  refine ⟨_, by unfold progF; rw [hd, if_neg (by simp), if_neg (by omega), if_neg (by omega), Int.toNat_natCast, Int.toNat_natCast, fits_blank b _ _ hf, if_neg (by simp), h1, if_pos rfl], ?_, ?_, fun i hi => ?_⟩
  · exact h1
  · show (layS _ _ _ _ _ _).length = 6144
    rw [length_layS, hS]
  · show (layS false f.mask (pad b) (k * 1024 + q * 16) 16 f.S).getD i 0 = _
    rw [layS_getD _ _ _ _ _ _ _ (by rw [hS]; exact hi)]
    by_cases hin : k * 1024 + q * 16 ≤ i ∧ i < k * 1024 + q * 16 + 16
    · have := hf (i - (k * 1024 + q * 16)) (by omega)
      rw [show k * 1024 + q * 16 + (i - (k * 1024 + q * 16)) = i by omega] at this
      rw [if_pos hin, if_pos hin, this, layB_blank]
    · rw [if_neg hin, if_neg hin]
theorem torn_erase (f : FlashSt) (k : Nat) (hd : f.dead = false) (hl : f.left = 1) (hk : k < 6) (hS : f.S.length = 6144) :
    ∃ f', eraseF f k = (14, f') ∧ f'.dead = true ∧ f'.S.length = 6144 ∧ ∀ i, i < 6144 → f'.S.getD i 0 = if k * 1024 ≤ i ∧ i < k * 1024 + 1024 then layB (mByte false f.mask (i - k * 1024)) (f.S.getD i 0) 255 else f.S.getD i 0 := by
  obtain ⟨h1, h2⟩ := spend_last f hl
  have e : eraseF f k = (14, { spendF f with S := layS (!(spendF f).dead) f.mask (List.replicate 1024 255) (k * 1024) 1024 f.S }) := by
    unfold eraseF; rw [hd, if_neg (by simp), if_neg (by omega), Int.toNat_natCast, h1, if_pos rfl]
  have hlen : (layS (!(spendF f).dead) f.mask (List.replicate 1024 255) (k * 1024) 1024 f.S).length = 6144 := by rw [length_layS, hS]
  have hL : ∀ i, i < 6144 → (layS (!(spendF f).dead) f.mask (List.replicate 1024 255) (k * 1024) 1024 f.S).getD i 0 = if k * 1024 ≤ i ∧ i < k * 1024 + 1024 then layB (mByte false f.mask (i - k * 1024)) (f.S.getD i 0) 255 else f.S.getD i 0 := fun i hi => by
    rw [h1, layS_getD _ _ _ _ _ _ _ (by rw [hS]; exact hi)]
    by_cases hin : k * 1024 ≤ i ∧ i < k * 1024 + 1024
    · rw [if_pos hin, if_pos hin, List.getD_eq_getElem?_getD (l := List.replicate 1024 255), List.getElem?_replicate, if_pos (by omega)]
      rfl
    · rw [if_neg hin, if_neg hin]
  generalize layS (!(spendF f).dead) f.mask (List.replicate 1024 255) (k * 1024) 1024 f.S = S' at e hL hlen
  exact ⟨_, e, h1, hlen, hL⟩
end Go.Proofs.Ytcpifcdndhhmgaa
set_option linter.unusedVariables false
set_option linter.unusedSimpArgs false
namespace Go.Proofs.Ytcpifcdndhhmgaa
open Go.RowKit

/-- the power goes at the m-th operation from here on -/
structure Armed (f : FlashSt) (m : Nat) : Prop where
  dead : f.dead = false
  left : f.left = (m : Int)
  len : f.S.length = 6144
theorem spend_more (f : FlashSt) (m : Nat) (hl : f.left = ((m + 2 : Nat) : Int)) : spendF f = { f with done := wrap64 (f.done + 1), left := ((m + 1 : Nat) : Int), dead := false } := by
  unfold spendF
  rw [if_pos (by omega)]
  have h1 : f.left - 1 = ((m + 1 : Nat) : Int) := by omega
  rw [h1]
  have h2 : (((m + 1 : Nat) : Int) == 0) = false := by rw [beq_eq_false_iff_ne]; omega
  rw [h2]
theorem more_prog (f : FlashSt) (k q : Nat) (b : List UInt8) (m : Nat) (h : Armed f (m + 2)) (hk : k < 6) (hq : q < 64) (hb : b.length ≤ 16) (hf : ∀ j, j < 16 → f.S.getD (k * 1024 + q * 16 + j) 0 = 255) :
    ∃ f', progF f k q b = (0, f') ∧ Armed f' (m + 1) ∧ f'.mask = f.mask ∧ ∀ i, i < 6144 → f'.S.getD i 0 = if k * 1024 + q * 16 ≤ i ∧ i < k * 1024 + q * 16 + 16 then (pad b).getD (i - (k * 1024 + q * 16)) 0 else f.S.getD i 0 := by
  have hs := spend_more f m h.left
  have hp : progF f k q b = (0, ⟨((m + 1 : Nat) : Int), wrap64 (f.done + 1), f.mask, false, layS true f.mask (pad b) (k * 1024 + q * 16) 16 f.S⟩) := by
    unfold progF
    rw [h.dead, if_neg (by simp), if_neg (by omega), if_neg (by omega), Int.toNat_natCast, Int.toNat_natCast, fits_blank b _ _ hf, if_neg (by simp), hs, if_neg (by simp)]
    rfl
  refine ⟨_, hp, ⟨rfl, rfl, ?_⟩, rfl, fun i hi => ?_⟩
  · show (layS _ _ _ _ _ _).length = 6144
    rw [length_layS, h.len]
  · show (layS true f.mask (pad b) (k * 1024 + q * 16) 16 f.S).getD i 0 = _
    rw [lay_whole _ _ _ _ _ _ (by rw [h.len]; exact hi)]
/-- byte r of the pages of x, behind an append whose M-th operation is torn -/
def tornAt (mask x : List UInt8) (M r : Nat) : UInt8 :=
  if r + 16 < 16 * M then x.getD r 255 else if r < 16 * M then x.getD r 255 ||| ~~~(mByte false mask (r % 16)) else 255
theorem tornAt_lo {mask x : List UInt8} {M r : Nat} (h : r / 16 + 1 < M) : tornAt mask x M r = x.getD r 255 := by unfold tornAt; rw [if_pos (by omega)]
theorem tornAt_mid {mask x : List UInt8} {M r : Nat} (h : r / 16 + 1 = M) : tornAt mask x M r = x.getD r 255 ||| ~~~(mByte false mask (r % 16)) := by
  unfold tornAt; rw [if_neg (by omega), if_pos (by omega)]
theorem tornAt_hi {mask x : List UInt8} {M r : Nat} (h : M ≤ r / 16) : tornAt mask x M r = 255 := by
  unfold tornAt; rw [if_neg (by omega), if_neg (by omega)]
theorem progs_torn (k : Nat) (hk : k < 6) (x mask : List UInt8) (p M : Nat) : ∀ (n i : Nat) (f : FlashSt), i < M → Armed f (M - i) → f.mask = mask → p + i + n ≤ 64 → (∀ m, 16 * (p + i) ≤ m → m < 16 * (p + i + n) → f.S.getD (k * 1024 + m) 0 = 255) →
    ∃ f', progs k p x n i f = (if M ≤ i + n then 14 else 0, f') ∧ f'.S.length = 6144 ∧ (i + n < M → Armed f' (M - (i + n))) ∧ ∀ m, m < 6144 → f'.S.getD m 0 = if k * 1024 + 16 * (p + i) ≤ m ∧ m < k * 1024 + 16 * (p + i + n) then tornAt mask x M (m - (k * 1024 + 16 * p)) else f.S.getD m 0
  | 0, i, f, hi, hA, _, _, _ => ⟨f, by rw [if_neg (by omega)]; rfl, hA.len, fun _ => hA, fun m hm => by rw [if_neg (by omega)]⟩
  | n + 1, i, f, hi, hA, hmk, hp, hb => by
    have hbl : ∀ j, j < 16 → f.S.getD (k * 1024 + (p + i) * 16 + j) 0 = 255 := fun j hj => by
      have := hb (16 * (p + i) + j) (by omega) (by omega)
      rw [show k * 1024 + (p + i) * 16 + j = k * 1024 + (16 * (p + i) + j) by omega]; exact this
    by_cases h1 : M = i + 1
    · obtain ⟨f1, e1, e2, e3, e4⟩ := torn_prog f k (p + i) ((x.drop (16 * i)).take 16) hA.dead (by rw [hA.left]; omega) hk (by omega) (by simp; omega) hA.len hbl
      refine ⟨f1, ?_, e3, fun h => by omega, fun m hm => ?_⟩
      · simp only [progs]
        rw [if_neg (by rw [e1]; show ¬ ((14 : Int) = 0); decide), e1, if_pos (by omega)]
      · rw [e4 m hm]
        by_cases h2 : k * 1024 + (p + i) * 16 ≤ m ∧ m < k * 1024 + (p + i) * 16 + 16
        · rw [if_pos h2, if_pos (by omega), tornAt_mid (by omega), pad_piece _ _ _ (by omega), hmk]
          congr 2
          · congr 1; omega
          · congr 1; omega
        · rw [if_neg h2]
          by_cases h3 : k * 1024 + 16 * (p + i) ≤ m ∧ m < k * 1024 + 16 * (p + i + (n + 1))
          · rw [if_pos h3, tornAt_hi (by omega)]
            have := hb (m - k * 1024) (by omega) (by omega)
            rwa [show k * 1024 + (m - k * 1024) = m by omega] at this
          · rw [if_neg h3]
    · obtain ⟨q, hq⟩ : ∃ q, M - i = q + 2 := ⟨M - i - 2, by omega⟩
      rw [hq] at hA
      obtain ⟨f1, e1, hA1, hm1, e4⟩ := more_prog f k (p + i) ((x.drop (16 * i)).take 16) q hA hk (by omega) (by simp; omega) hbl
      have hat : ∀ m, m < 6144 → f1.S.getD m 0 = if k * 1024 + (p + i) * 16 ≤ m ∧ m < k * 1024 + (p + i) * 16 + 16 then x.getD (m - (k * 1024 + 16 * p)) 255 else f.S.getD m 0 := fun m hm => by
        rw [e4 m hm]
        by_cases hc : k * 1024 + (p + i) * 16 ≤ m ∧ m < k * 1024 + (p + i) * 16 + 16
        · rw [if_pos hc, if_pos hc, pad_piece _ _ _ (by omega)]
          congr 1
          omega
        · rw [if_neg hc, if_neg hc]
      rw [show q + 1 = M - (i + 1) by omega] at hA1
      obtain ⟨f', he, hlen, hA', hat'⟩ := progs_torn k hk x mask p M n (i + 1) f1 (by omega) hA1 (by rw [hm1, hmk]) (by omega) (fun m hm1 hm2 => by
        rw [hat _ (by omega), if_neg (by omega)]
        exact hb m (by omega) (by omega))
      refine ⟨f', ?_, hlen, fun h => by rw [show i + (n + 1) = i + 1 + n by omega]; exact hA' (by omega), fun m hm => ?_⟩
      · simp only [progs]
        rw [if_pos (by rw [e1]), e1, show i + (n + 1) = i + 1 + n by omega]
        exact he
      · rw [hat' m hm, hat m hm]
        by_cases h2 : k * 1024 + 16 * (p + (i + 1)) ≤ m ∧ m < k * 1024 + 16 * (p + (i + 1) + n)
        · rw [if_pos h2, if_pos (by omega)]
        · rw [if_neg h2]
          by_cases h3 : k * 1024 + (p + i) * 16 ≤ m ∧ m < k * 1024 + (p + i) * 16 + 16
          · rw [if_pos h3, if_pos (by omega), tornAt_lo (by omega)]
          · rw [if_neg h3, if_neg (by omega)]
/-- a sector whose last pages are an append that was torn, or not -/
structure TornS (c : List UInt8) (l : List (List UInt8)) (T : List UInt8) (n : Nat) : Prop where
  eq : c = packP l ++ (T ++ List.replicate (1024 - 16 * (usedP l + n)) 255)
  used : usedP l + n ≤ 64
  len : T.length = 16 * n
  short : ∀ x ∈ l, x.length ≤ 1018
theorem TornS.clen {c : List UInt8} {l : List (List UInt8)} {T : List UInt8} {n : Nat} (h : TornS c l T n) : c.length = 1024 := by
  have := h.used
  rw [h.eq, List.length_append, length_packP, List.length_append, h.len, List.length_replicate]; omega
theorem TornS.load {c : List UInt8} {l : List (List UInt8)} {T : List UInt8} {n : Nat} (h : TornS c l T n) (b : List UInt8) (hn : n = pagesN b.length) (hb : b.length ≤ 65535) (hge : b.length ≤ le (T.take 2)) :
    (loadR c).1 = l ∨ ∃ y, (loadR c).1 = l ++ [y] := by
  have hl := h.clen
  have hu := h.used
  have h1 := loadP_pack c l 0 [] _ (by rw [List.nil_append]; exact h.eq) rfl hl h.short
  rw [Nat.zero_add] at h1
  have hld : loadR c = loadP c 0 := by unfold loadR; rw [if_neg (by omega)]
  rw [hld, h1]
  dsimp only
  have hd : c.drop (16 * usedP l) = T ++ List.replicate (1024 - 16 * (usedP l + n)) 255 := by
    have := congrArg (List.drop (16 * usedP l)) h.eq
    rw [← length_packP, List.drop_left, length_packP] at this
    exact this
  have hnp := pagesN_pos b.length
  have hlt : usedP l < 64 := by omega
  cases hbl : blankP ((c.drop (16 * usedP l)).take 16) with
  | true => left; rw [loadP_blank hlt hbl, List.append_nil]
  | false =>
    by_cases ho : (opened (c.drop (16 * usedP l))).2.2 = 0
    · right
      refine ⟨(opened (c.drop (16 * usedP l))).1, ?_⟩
      rw [loadP_next hlt hbl ho]
      dsimp only
      have hxl : b.length ≤ (opened (c.drop (16 * usedP l))).1.length := by
        rw [hd] at ho ⊢
        have ht2 : (T ++ List.replicate (1024 - 16 * (usedP l + n)) 255).take 2 = T.take 2 := by rw [List.take_append_of_le_length (by rw [h.len]; omega)]
        unfold opened at ho ⊢
        rw [ht2] at ho ⊢
        by_cases c1 : (T ++ List.replicate (1024 - 16 * (usedP l + n)) 255).length < 6
        · rw [if_pos c1] at ho; cases ho
        · rw [if_neg c1] at ho ⊢
          by_cases c2 : (T ++ List.replicate (1024 - 16 * (usedP l + n)) 255).length - 6 < le (T.take 2)
          · rw [if_pos c2] at ho; cases ho
          · rw [if_neg c2] at ho ⊢
            split at ho
            · cases ho
            · rename_i c3
              rw [if_neg c3]
              dsimp only
              rw [List.length_take, List.length_drop]
              omega
      have hpm := pagesN_mono hxl
      obtain ⟨x, hx⟩ : ∃ x, (opened (c.drop (16 * usedP l))).1 = x := ⟨_, rfl⟩
      rw [hx] at hpm hxl ⊢
      have htail : (loadP c (usedP l + pagesN x.length)).1 = [] := by
        by_cases h64 : 64 ≤ usedP l + pagesN x.length
        · rw [loadP_end h64]
        · have hb2 : blankP ((c.drop (16 * (usedP l + pagesN x.length))).take 16) = true := by
            have e1 : c.drop (16 * (usedP l + pagesN x.length)) = (c.drop (16 * usedP l)).drop (16 * pagesN x.length) := by rw [List.drop_drop]; congr 1; omega
            rw [e1, hd, List.drop_append, List.drop_of_length_le (by rw [h.len]; omega), List.nil_append, List.drop_replicate, List.take_replicate]
            exact blankP_rep _
          rw [loadP_blank (by omega) hb2]
      rw [htail]
    · left; rw [loadP_bad hlt hbl ho, List.append_nil]
def tornL (mask x : List UInt8) (M n : Nat) : List UInt8 := (List.range (16 * n)).map (tornAt mask x M)
theorem tornL_len (mask x : List UInt8) (M n : Nat) : (tornL mask x M n).length = 16 * n := by simp [tornL]
theorem tornL_at (mask x : List UInt8) (M n r : Nat) (h : r < 16 * n) : (tornL mask x M n)[r]? = some (tornAt mask x M r) := by
  simp [tornL, List.getElem?_map, List.getElem?_range, h]
theorem tornL_whole (mask b : List UInt8) (M : Nat) (h : pagesN b.length < M) : tornL mask (sealed b) M (pagesN b.length) = recP b := by
  have hl := length_recP b
  apply List.ext_getElem?
  intro r
  by_cases hr : r < 16 * pagesN b.length
  · rw [tornL_at _ _ _ _ _ hr, tornAt_lo (by omega)]
    have h1 := recP_getD b r hr
    rw [List.getD_eq_getElem?_getD, List.getElem?_eq_getElem (by omega)] at h1
    rw [List.getElem?_eq_getElem (by omega)]
    congr 1
    exact h1.symm
  · rw [List.getElem?_eq_none (by rw [tornL_len]; omega), List.getElem?_eq_none (by omega)]
theorem torn_append (f : FlashSt) (M : Nat) (hA : Armed f M) (hM : 0 < M) (k : Nat) (hk : k < 6) (l : List (List UInt8)) (hP : Packed (readF f k) l) (b : List UInt8) (hb : b.length ≤ 1018) (hu : usedP l + pagesN b.length ≤ 64) :
    ∃ f', appendP f k b = (if M ≤ pagesN b.length then 14 else 0, f') ∧ f'.S.length = 6144 ∧ (pagesN b.length < M → Armed f' (M - pagesN b.length)) ∧ TornS (readF f' k) l (tornL f.mask (sealed b) M (pagesN b.length)) (pagesN b.length) ∧ ∀ j, j < 6 → j ≠ k → readF f' j = readF f j := by
  have hS : ∀ m, m < 1024 → f.S.getD (k * 1024 + m) 0 = if m < 16 * usedP l then (packP l).getD m 0 else 255 := fun m hm => by
    have h1 : (readF f k).getD m 0 = f.S.getD (k * 1024 + m) 0 := by rw [List.getD_eq_getElem?_getD, read_at f k hk hA.len m hm]; rfl
    rw [← hP.at_ m hm, h1]
  obtain ⟨f', he, hlen, hA', hat⟩ := progs_torn k hk (sealed b) f.mask (usedP l) M (pagesN b.length) 0 f hM (by rw [Nat.sub_zero]; exact hA) rfl (by omega) (fun m h1 h2 => by rw [hS m (by omega), if_neg (by omega)])
  rw [Nat.zero_add] at he hA'
  refine ⟨f', ?_, hlen, hA', ⟨?_, hu, tornL_len _ _ _ _, hP.short⟩, ?_⟩
  · unfold appendP
    rw [if_neg (by omega), if_neg (by omega), hP.load, if_neg (by dsimp only; omega)]
    exact he
  · have hlp := length_packP l
    apply List.ext_getElem?
    intro m
    by_cases hm : m < 1024
    · rw [read_at f' k hk hlen m hm, hat _ (by omega)]
      by_cases h1 : m < 16 * usedP l
      · rw [if_neg (by omega), hS m hm, if_pos h1, List.getElem?_append_left (by omega), List.getD_eq_getElem?_getD, List.getElem?_eq_getElem (by omega)]; rfl
      · rw [List.getElem?_append_right (by omega), hlp]
        by_cases h2 : m < 16 * (usedP l + pagesN b.length)
        · rw [if_pos (by omega), List.getElem?_append_left (by rw [tornL_len]; omega), tornL_at _ _ _ _ _ (by omega)]
          congr 2
          omega
        · rw [if_neg (by omega), hS m hm, if_neg h1, List.getElem?_append_right (by rw [tornL_len]; omega), List.getElem?_replicate, if_pos (by rw [tornL_len]; omega)]
    · have hr := read_len f' k hk hlen
      rw [List.getElem?_eq_none (by omega), List.getElem?_eq_none (by rw [List.length_append, hlp, List.length_append, tornL_len, List.length_replicate]; omega)]
  · intro j hj hne
    apply List.ext_getElem?
    intro m
    by_cases hm : m < 1024
    · rw [read_at f' j hj hlen m hm, read_at f j hj hA.len m hm, hat _ (by omega), if_neg (by omega)]
    · rw [List.getElem?_eq_none (by rw [read_len f' j hj hlen]; omega), List.getElem?_eq_none (by rw [read_len f j hj hA.len]; omega)]
theorem TornS.whole {c : List UInt8} {l : List (List UInt8)} {b mask : List UInt8} {M : Nat} (h : TornS c l (tornL mask (sealed b) M (pagesN b.length)) (pagesN b.length)) (hM : pagesN b.length < M) (hb : b.length ≤ 1018) : Packed c (l ++ [b]) := by
  have hu := h.used
  refine ⟨?_, by rw [usedP_snoc]; exact hu, fun x hx => by
    rcases List.mem_append.1 hx with h' | h'
    · exact h.short x h'
    · simp at h'; subst h'; exact hb⟩
  rw [packP_snoc, usedP_snoc, ← tornL_whole mask b M hM, List.append_assoc]
  exact h.eq
end Go.Proofs.Ytcpifcdndhhmgaa
