/- Records, plain: a sector whose one record is spoilt: what stands ahead is told, nothing behind. No program in sight. FlashTorn, plain: what a torn program and a torn erasure leave. Records, plain: an append while the power goes at some operation. No program in sight. SlotsTurns, plain: the sectors' blank pages. No program in sight. -/
import Derived.Test.YtkncomkncfcecaaRecLaws
import Derived.Test.YtkncomkncfcecaaSealPlain
import Derived.Test.YtkncomkncfcecaaSlotL
set_option linter.unusedVariables false
set_option linter.unusedSimpArgs false
namespace Go.Proofs.Ytkncomkncfcecaa
open Go.RowKit

/-- the page of a record with one byte of it another -/
def spoilP (l : List UInt8) (j : Nat) (y : UInt8) : List UInt8 := (recP l).set j y
def recN (n : Nat) : List (List UInt8) := (List.range n).map fun k => [255, u8n k, 255]
def recK (t : Nat) : List UInt8 := [255, u8n t, 255]
theorem sealed_pay (l : List UInt8) (i : Nat) (hi : i < l.length) : (sealed l)[6 + i]? = some l[i] := by
  unfold sealed
  rw [List.getElem?_append_right (by rw [length_sealHead]; omega), length_sealHead, show 6 + i - 6 = i by omega, List.getElem?_eq_getElem hi]
end Go.Proofs.Ytkncomkncfcecaa
set_option linter.unusedVariables false
set_option linter.unusedSimpArgs false
namespace Go.Proofs.Ytkncomkncfcecaa
open Go.RowKit

end Go.Proofs.Ytkncomkncfcecaa
set_option linter.unusedVariables false
set_option linter.unusedSimpArgs false
namespace Go.Proofs.Ytkncomkncfcecaa
open Go.RowKit

/-- the power goes at the m-th operation from here on -/
structure Armed (f : FlashSt) (m : Nat) : Prop where
  dead : f.dead = false
  left : f.left = (m : Int)
  len : f.S.length = 6144
/-- byte r of the pages of x, behind an append whose M-th operation is torn -/
def tornAt (mask x : List UInt8) (M r : Nat) : UInt8 :=
  if r + 16 < 16 * M then x.getD r 255 else if r < 16 * M then x.getD r 255 ||| ~~~(mByte false mask (r % 16)) else 255
theorem tornAt_lo {mask x : List UInt8} {M r : Nat} (h : r / 16 + 1 < M) : tornAt mask x M r = x.getD r 255 := by unfold tornAt; rw [if_pos (by omega)]
/-- a sector whose last pages are an append that was torn, or not -/
structure TornS (c : List UInt8) (l : List (List UInt8)) (T : List UInt8) (n : Nat) : Prop where
  eq : c = packP l ++ (T ++ List.replicate (1024 - 16 * (usedP l + n)) 255)
  used : usedP l + n ≤ 64
  len : T.length = 16 * n
  short : ∀ x ∈ l, x.length ≤ 1018
theorem TornS.clen {c : List UInt8} {l : List (List UInt8)} {T : List UInt8} {n : Nat} (h : TornS c l T n) : c.length = 1024 := by
  have := h.used
  rw [h.eq, List.length_append, length_packP, List.length_append, h.len, List.length_replicate]; omega
theorem TornS.load {c : List UInt8} {l : List (List UInt8)} {T : List UInt8} {n : Nat} (h : TornS c l T n) (b : List UInt8) (hn : n = pagesN b.length) (hb : b.length ≤ 65535) (hge : b.length ≤ le (T.take 2)) :
    (loadR c).1 = l ∨ ∃ y, (loadR c).1 = l ++ [y] := by
  have hl := h.clen
  have hu := h.used
  have h1 := loadP_pack c l 0 [] _ (by rw [List.nil_append]; exact h.eq) rfl hl h.short
  rw [Nat.zero_add] at h1
  have hld : loadR c = loadP c 0 := by unfold loadR; rw [if_neg (by omega)]
  rw [hld, h1]
  dsimp only
  have hd : c.drop (16 * usedP l) = T ++ List.replicate (1024 - 16 * (usedP l + n)) 255 := by
    have := congrArg (List.drop (16 * usedP l)) h.eq
    rw [← length_packP, List.drop_left, length_packP] at this
    exact this
  have hnp := pagesN_pos b.length
  have hlt : usedP l < 64 := by omega
  cases hbl : blankP ((c.drop (16 * usedP l)).take 16) with
  | true => left; rw [loadP_blank hlt hbl, List.append_nil]
  | false =>
    by_cases ho : (opened (c.drop (16 * usedP l))).2.2 = 0
    · right
      refine ⟨(opened (c.drop (16 * usedP l))).1, ?_⟩
      rw [loadP_next hlt hbl ho]
      dsimp only
      have hxl : b.length ≤ (opened (c.drop (16 * usedP l))).1.length := by
        rw [hd] at ho ⊢
        have ht2 : (T ++ List.replicate (1024 - 16 * (usedP l + n)) 255).take 2 = T.take 2 := by rw [List.take_append_of_le_length (by rw [h.len]; omega)]
        unfold opened at ho ⊢
        rw [ht2] at ho ⊢
        by_cases c1 : (T ++ List.replicate (1024 - 16 * (usedP l + n)) 255).length < 6
        · rw [if_pos c1] at ho; cases ho
        · rw [if_neg c1] at ho ⊢
          by_cases c2 : (T ++ List.replicate (1024 - 16 * (usedP l + n)) 255).length - 6 < le (T.take 2)
          · rw [if_pos c2] at ho; cases ho
          · rw [if_neg c2] at ho ⊢
            split at ho
            · cases ho
            · rename_i c3
              rw [if_neg c3]
              dsimp only
              rw [List.length_take, List.length_drop]
              omega
      have hpm := pagesN_mono hxl
      obtain ⟨x, hx⟩ : ∃ x, (opened (c.drop (16 * usedP l))).1 = x := ⟨_, rfl⟩
      rw [hx] at hpm hxl ⊢
      have htail : (loadP c (usedP l + pagesN x.length)).1 = [] := by
        by_cases h64 : 64 ≤ usedP l + pagesN x.length
        · rw [loadP_end h64]
        · have hb2 : blankP ((c.drop (16 * (usedP l + pagesN x.length))).take 16) = true := by
            have e1 : c.drop (16 * (usedP l + pagesN x.length)) = (c.drop (16 * usedP l)).drop (16 * pagesN x.length) := by rw [List.drop_drop]; congr 1; omega
            rw [e1, hd, List.drop_append, List.drop_of_length_le (by rw [h.len]; omega), List.nil_append, List.drop_replicate, List.take_replicate]
            exact blankP_rep _
          rw [loadP_blank (by omega) hb2]
      rw [htail]
    · left; rw [loadP_bad hlt hbl ho, List.append_nil]
def tornL (mask x : List UInt8) (M n : Nat) : List UInt8 := (List.range (16 * n)).map (tornAt mask x M)
theorem tornL_len (mask x : List UInt8) (M n : Nat) : (tornL mask x M n).length = 16 * n := by simp [tornL]
theorem tornL_at (mask x : List UInt8) (M n r : Nat) (h : r < 16 * n) : (tornL mask x M n)[r]? = some (tornAt mask x M r) := by
  simp [tornL, List.getElem?_map, List.getElem?_range, h]
theorem tornL_whole (mask b : List UInt8) (M : Nat) (h : pagesN b.length < M) : tornL mask (sealed b) M (pagesN b.length) = recP b := by
  have hl := length_recP b
  apply List.ext_getElem?
  intro r
  by_cases hr : r < 16 * pagesN b.length
  · rw [tornL_at _ _ _ _ _ hr, tornAt_lo (by omega)]
    have h1 := recP_getD b r hr
    rw [List.getD_eq_getElem?_getD, List.getElem?_eq_getElem (by omega)] at h1
    rw [List.getElem?_eq_getElem (by omega)]
    congr 1
    exact h1.symm
  · rw [List.getElem?_eq_none (by rw [tornL_len]; omega), List.getElem?_eq_none (by omega)]
theorem sealed_two (b : List UInt8) : (sealed b).getD 0 255 = u8n b.length ∧ (sealed b).getD 1 255 = u8n (b.length / 256) := ⟨rfl, rfl⟩
theorem TornS.whole {c : List UInt8} {l : List (List UInt8)} {b mask : List UInt8} {M : Nat} (h : TornS c l (tornL mask (sealed b) M (pagesN b.length)) (pagesN b.length)) (hM : pagesN b.length < M) (hb : b.length ≤ 1018) : Packed c (l ++ [b]) := by
  have hu := h.used
  refine ⟨?_, by rw [usedP_snoc]; exact hu, fun x hx => by
    rcases List.mem_append.1 hx with h' | h'
    · exact h.short x h'
    · simp at h'; subst h'; exact hb⟩
  rw [packP_snoc, usedP_snoc, ← tornL_whole mask b M hM, List.append_assoc]
  exact h.eq
end Go.Proofs.Ytkncomkncfcecaa
set_option linter.unusedVariables false
set_option linter.unusedSimpArgs false
namespace Go.Proofs.Ytkncomkncfcecaa
open Go.RowKit
def blkP (b : List UInt8) (p : Nat) : Bool := blankP ((b.drop (16 * p)).take 16)
/-- how many of the first k pages are blank -/
def blkN (b : List UInt8) : Nat → Nat
  | 0 => 0
  | k + 1 => blkN b k + if blkP b k = true then 1 else 0
theorem blk_no {b : List UInt8} {p j : Nat} (hj : j < 16) {x : UInt8} (h : b[16 * p + j]? = some x) (hx : x ≠ 255) : blkP b p = false := by
  unfold blkP blankP
  rw [Bool.eq_false_iff]
  intro ha
  have := List.all_eq_true.1 ha x (List.mem_of_getElem? (i := j) (by rw [List.getElem?_take, if_pos hj, List.getElem?_drop]; exact h))
  exact hx (by simpa using this)
theorem blk_yes {b : List UInt8} {p : Nat} (h : ∀ j x, j < 16 → b[16 * p + j]? = some x → x = 255) : blkP b p = true := by
  unfold blkP blankP
  rw [List.all_eq_true]
  intro x hx
  obtain ⟨j, hj⟩ := List.getElem?_of_mem hx
  rw [List.getElem?_take] at hj
  split at hj
  · rw [List.getElem?_drop] at hj
    rw [h j x (by assumption) hj]; rfl
  · cases hj
/-- an entry as the law marks it -/
def PlainE (e : EntS) : Prop := GoodE e ∧ e.slot = 2 ∧ ∃ u : UInt8, e.sum = u :: List.replicate 31 0
theorem recE_len (e : EntS) (h : e.sum.length = 32) : (recP (bytesE e)).length = 64 := by rw [length_recP, pagesE e h]
theorem recE_pay (e : EntS) (h : e.sum.length = 32) (i : Nat) (hi : i < 48) : (recP (bytesE e))[6 + i]? = (bytesE e)[i]? := by
  have hb := bytesE_len e h
  have hl := length_sealed (bytesE e)
  unfold recP
  rw [List.getElem?_append_left (by omega), sealed_pay _ i (by omega), List.getElem?_eq_getElem (by omega)]
theorem bytesE_slot (e : EntS) (h : e.slot = 2) : (bytesE e)[10]? = some 0 := by
  unfold bytesE
  rw [List.append_assoc, List.getElem?_append_right (by rw [length_le8]; omega), length_le8, List.getElem?_append_left (by rw [length_le8]; omega), h]
  rfl
theorem bytesE_sum (e : EntS) (u : UInt8) (h : e.sum = u :: List.replicate 31 0) (i : Nat) (h1 : 17 ≤ i) (h2 : i < 48) : (bytesE e)[i]? = some 0 := by
  unfold bytesE
  rw [List.getElem?_append_right (by rw [List.length_append, length_le8, length_le8]; omega), List.length_append, length_le8, length_le8, h]
  rw [show i - (8 + 8) = (i - 17) + 1 by omega, List.getElem?_cons_succ, List.getElem?_replicate, if_pos (by omega)]
theorem recE_zero (e : EntS) (h : PlainE e) (r : Nat) (hr : r < 4) : ∃ j, j < 16 ∧ (recP (bytesE e))[16 * r + j]? = some 0 := by
  obtain ⟨hg, hs, u, hu⟩ := h
  rcases (by omega : r = 0 ∨ r = 1 ∨ r = 2 ∨ r = 3) with rfl | rfl | rfl | rfl
  · refine ⟨1, by omega, ?_⟩
    have h2 := (sealed_two (bytesE e)).2
    have hl := length_sealed (bytesE e)
    have hb := bytesE_len e hg.sum
    rw [hb] at h2
    unfold recP
    rw [List.getElem?_append_left (by omega)]
    rw [List.getD_eq_getElem?_getD, List.getElem?_eq_getElem (by omega)] at h2
    rw [List.getElem?_eq_getElem (by omega)]
    congr 1
  · exact ⟨0, by omega, by rw [show 16 * 1 + 0 = 6 + 10 by omega, recE_pay e hg.sum 10 (by omega)]; exact bytesE_slot e hs⟩
  · exact ⟨0, by omega, by rw [show 16 * 2 + 0 = 6 + 26 by omega, recE_pay e hg.sum 26 (by omega)]; exact bytesE_sum e u hu 26 (by omega) (by omega)⟩
  · exact ⟨0, by omega, by rw [show 16 * 3 + 0 = 6 + 42 by omega, recE_pay e hg.sum 42 (by omega)]; exact bytesE_sum e u hu 42 (by omega) (by omega)⟩
theorem pack_at : ∀ (l : List EntS), (∀ e ∈ l, GoodE e) → ∀ (a m : Nat) (ha : a < l.length), m < 64 → (packP (l.map bytesE))[64 * a + m]? = (recP (bytesE l[a]))[m]?
  | [], _, _, _, ha, _ => by simp at ha
  | e :: l, h, a, m, ha, hm => by
    have hl := recE_len e (h e (by simp)).sum
    rw [List.map_cons, packP_cons]
    cases a with
    | zero => rw [List.getElem?_append_left (by omega)]; simp
    | succ a =>
      rw [List.getElem?_append_right (by omega), hl, show 64 * (a + 1) + m - 64 = 64 * a + m by omega, pack_at l (fun x hx => h x (by simp [hx])) a m (by simpa using ha) hm]
      simp
theorem blk_packed {c : List UInt8} {l : List EntS} (h : Packed c (l.map bytesE)) (hp : ∀ e ∈ l, PlainE e) : ∀ k, k ≤ 64 → blkN c k = k - 4 * l.length := by
  have hg : ∀ e ∈ l, GoodE e := fun e he => (hp e he).1
  have hu := usedE l hg
  have hlp := length_packP (l.map bytesE)
  have hul := h.used
  rw [hu] at hlp hul
  intro k
  induction k with
  | zero => intro _; simp [blkN]
  | succ k ih =>
    intro hk
    simp only [blkN]
    rw [ih (by omega)]
    by_cases hlt : k < 4 * l.length
    · have hno : blkP c k = false := by
        have ha : k / 4 < l.length := by omega
        obtain ⟨j, hj, hz⟩ := recE_zero l[k / 4] (hp _ (List.getElem_mem ha)) (k % 4) (by omega)
        refine blk_no hj (x := 0) ?_ (by decide)
        rw [h.eq, List.getElem?_append_left (by omega), show 16 * k + j = 64 * (k / 4) + (16 * (k % 4) + j) by omega, pack_at l hg _ _ ha (by omega)]
        exact hz
      rw [hno, if_neg (by simp)]
      omega
    · have hy : blkP c k = true := blk_yes fun j x hj hx => by
        rw [h.eq, List.getElem?_append_right (by omega), List.getElem?_replicate] at hx
        split at hx
        · injection hx with hx; exact hx.symm
        · cases hx
      rw [hy, if_pos rfl]
      omega
/-- k marks of slot 2 were made -/
structure TInv (k : Nat) (f : FlashSt) : Prop where
  live : Live f
  marks : ∃ l, Marks f k l ∧ ∀ e ∈ l, PlainE e
theorem turns_start : TInv 0 newF := ⟨live_new, [], marks_new, by simp⟩
theorem TInv.step {k : Nat} {f : FlashSt} (h : TInv k f) (hk : k < 1000) (u : UInt8) : ∃ f', markP f 2 (u :: List.replicate 31 0) = (0, f') ∧ TInv (k + 1) f' ∧ bootP f' = (⟨((k + 1 : Nat) : Int), 2, u :: List.replicate 31 0⟩, []) := by
  obtain ⟨L, l, M, hl⟩ := h
  obtain ⟨f1, t, e1, L1, M1, _, _⟩ := M.mark L (by omega) 2 (by omega) (u :: List.replicate 31 0) rfl
  refine ⟨f1, e1, ⟨L1, _, M1, fun e he => ?_⟩, ?_⟩
  · rcases List.mem_append.1 he with he | he
    · exact hl e (List.mem_of_mem_drop he)
    · simp at he
      subst he
      exact ⟨⟨by show 1 ≤ ((k + 1 : Nat) : Int) ∧ _; dsimp only; omega, by show (0 : Int) ≤ 2 ∧ (2 : Int) ≤ 2; omega, rfl⟩, rfl, u, rfl⟩
  · rw [M1.boot, bootL_last _ _ _ (by rw [image_two _ _ rfl]), image_two _ _ rfl]
theorem TInv.ends {n : Nat} {f : FlashSt} (h : TInv n f) (hn : n ≤ 70) : ∃ x y : Nat, blkN (readF f 0) 64 = x ∧ blkN (readF f 1) 64 = y ∧ (readF f 0).length = 1024 ∧ (readF f 1).length = 1024 ∧
    (n ≤ 16 → x = 64 - 4 * n ∧ y = 64) ∧ (16 < n → (n - 17) / 16 % 2 = 0 → x = 0 ∧ y = 64 - 4 * ((n - 17) % 16 + 1)) ∧ (16 < n → (n - 17) / 16 % 2 = 1 → y = 0 ∧ x = 64 - 4 * ((n - 17) % 16 + 1)) := by
  obtain ⟨L, l, ⟨old, cur, rfl, S⟩, hl⟩ := h
  have hc := blk_packed S.pcur (fun e he => hl e (by simp [he])) 64 (Nat.le_refl _)
  have ho := blk_packed S.pold (fun e he => hl e (by simp [he])) 64 (Nat.le_refl _)
  have hcl := S.clen
  have hol := S.olen
  refine ⟨_, _, rfl, rfl, read_len f 0 (by omega) L.len, read_len f 1 (by omega) L.len, ?_⟩
  rcases (by omega : (n - 1) / 16 % 2 = 0 ∨ (n - 1) / 16 % 2 = 1) with hs | hs
  · rw [hs] at hc ho
    have hc : blkN (readF f 0) 64 = 64 - 4 * cur.length := hc
    have ho : blkN (readF f 1) 64 = 64 - 4 * old.length := ho
    rw [hc, ho]
    refine ⟨fun _ => by omega, fun _ _ => by omega, fun _ _ => by omega⟩
  · rw [hs] at hc ho
    have hc : blkN (readF f 1) 64 = 64 - 4 * cur.length := hc
    have ho : blkN (readF f 0) 64 = 64 - 4 * old.length := ho
    rw [hc, ho]
    refine ⟨fun _ => by omega, fun _ _ => by omega, fun _ _ => by omega⟩
end Go.Proofs.Ytkncomkncfcecaa
