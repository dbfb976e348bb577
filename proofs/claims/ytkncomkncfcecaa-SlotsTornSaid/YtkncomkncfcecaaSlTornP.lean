/- SlotsTorn, plain: a mark while the power goes. No program in sight. -/
import Derived.Test.YtkncomkncfcecaaSlotL
import Derived.Test.YtkncomkncfcecaaRecTornP
set_option linter.unusedVariables false
set_option linter.unusedSimpArgs false
namespace Go.Proofs.Ytkncomkncfcecaa
open Go.RowKit

/-! ### what is written to a sector leaves the others -/
theorem read_lay (wh : Bool) (mask tb : List UInt8) (f g : FlashSt) (off n k j : Nat) (hS : f.S.length = 6144) (hg : g.S = layS wh mask tb off n f.S) (h1 : k * 1024 ≤ off) (h2 : off + n ≤ k * 1024 + 1024) (hj : j < 6) (hne : j ≠ k) : readF g j = readF f j := by
  have hl : g.S.length = 6144 := by rw [hg, length_layS, hS]
  apply List.ext_getElem?
  intro m
  by_cases hm : m < 1024
  · rw [read_at g j hj hl m hm, read_at f j hj hS m hm, hg, layS_getD _ _ _ _ _ _ _ (by rw [hS]; omega), if_neg (by omega)]
  · rw [List.getElem?_eq_none (by rw [read_len g j hj hl]; omega), List.getElem?_eq_none (by rw [read_len f j hj hS]; omega)]
theorem progF_form (f : FlashSt) (k : Nat) (p : Int) (b : List UInt8) : (∃ e, progF f k p b = (e, f)) ∨ ∃ e f' q, progF f k p b = (e, f') ∧ q < 64 ∧ f'.S = layS (!(spendF f).dead) f.mask (pad b) (k * 1024 + q * 16) 16 f.S := by
  unfold progF
  by_cases h1 : f.dead = true
  · rw [if_pos h1]; exact .inl ⟨_, rfl⟩
  · rw [if_neg h1]
    by_cases h2 : (k : Int) < 0 ∨ 6 ≤ (k : Int) ∨ p < 0 ∨ 64 ≤ p
    · rw [if_pos h2]; exact .inl ⟨_, rfl⟩
    · rw [if_neg h2]
      by_cases h3 : 16 < b.length
      · rw [if_pos h3]; exact .inl ⟨_, rfl⟩
      · rw [if_neg h3]
        rw [Int.toNat_natCast]
        generalize fits b (k * 1024 + p.toNat * 16) f.S 16 = ft
        cases ft
        · exact .inl ⟨13, by rw [if_pos rfl]⟩
        · exact .inr ⟨if (spendF f).dead = true then 14 else 0, { spendF f with S := layS (!(spendF f).dead) f.mask (pad b) (k * 1024 + p.toNat * 16) 16 f.S }, p.toNat, by rw [if_neg (by simp)], by omega, rfl⟩
theorem progF_other (f : FlashSt) (k : Nat) (p : Int) (b : List UInt8) (hS : f.S.length = 6144) : (progF f k p b).2.S.length = 6144 ∧ ∀ j : Nat, j < 6 → j ≠ k → readF (progF f k p b).2 j = readF f j := by
  rcases progF_form f k p b with ⟨e, h⟩ | ⟨e, f', q, h, hq, h2⟩
  · rw [h]; exact ⟨hS, fun _ _ _ => rfl⟩
  · rw [h]
    exact ⟨by dsimp only; rw [h2, length_layS, hS], fun j hj hne => read_lay _ _ _ f f' _ 16 k j hS h2 (by omega) (by omega) hj hne⟩
theorem eraseF_form (f : FlashSt) (k : Nat) : ((f.dead = true ∨ 6 ≤ k) ∧ ∃ e, eraseF f k = (e, f)) ∨ ∃ f', eraseF f k = (if (spendF f).dead = true then 14 else 0, f') ∧ f'.dead = (spendF f).dead ∧ f'.left = (spendF f).left ∧ f'.S = layS (!(spendF f).dead) f.mask (List.replicate 1024 255) (k * 1024) 1024 f.S := by
  unfold eraseF
  generalize List.replicate 1024 (255 : UInt8) = R
  by_cases h1 : f.dead = true
  · rw [if_pos h1]; exact .inl ⟨.inl h1, _, rfl⟩
  · rw [if_neg h1]
    by_cases h2 : (k : Int) < 0 ∨ 6 ≤ (k : Int)
    · rw [if_pos h2]; exact .inl ⟨.inr (by omega), _, rfl⟩
    · rw [if_neg h2, Int.toNat_natCast]
      exact .inr ⟨{ spendF f with S := layS (!(spendF f).dead) f.mask R (k * 1024) 1024 f.S }, rfl, by dsimp only, by dsimp only, by dsimp only⟩
theorem eraseF_other (f : FlashSt) (k : Nat) (hS : f.S.length = 6144) : (eraseF f k).2.S.length = 6144 ∧ ∀ j : Nat, j < 6 → j ≠ k → readF (eraseF f k).2 j = readF f j := by
  rcases eraseF_form f k with ⟨_, e, h⟩ | ⟨f', h, _, _, h2⟩
  · rw [h]; exact ⟨hS, fun _ _ _ => rfl⟩
  · rw [h]
    generalize List.replicate 1024 (255 : UInt8) = R at h2
    exact ⟨by dsimp only; rw [h2, length_layS, hS], fun j hj hne => read_lay _ _ _ f f' _ 1024 k j hS h2 (Nat.le_refl _) (Nat.le_refl _) hj hne⟩
theorem progs_other (k : Nat) (p : Nat) (x : List UInt8) : ∀ (n i : Nat) (f : FlashSt), f.S.length = 6144 → (progs k p x n i f).2.S.length = 6144 ∧ ∀ j : Nat, j < 6 → j ≠ k → readF (progs k p x n i f).2 j = readF f j
  | 0, _, _, hS => ⟨hS, fun _ _ _ => rfl⟩
  | n + 1, i, f, hS => by
    have h1 := progF_other f k ((p + i : Nat) : Int) ((x.drop (16 * i)).take 16) hS
    simp only [progs]
    generalize progF f k ((p + i : Nat) : Int) ((x.drop (16 * i)).take 16) = r at h1
    by_cases h0 : r.1 = 0
    · rw [if_pos h0]
      have h2 := progs_other k p x n (i + 1) r.2 h1.1
      generalize progs k p x n (i + 1) r.2 = r2 at h2
      exact ⟨h2.1, fun j hj hne => (h2.2 j hj hne).trans (h1.2 j hj hne)⟩
    · rw [if_neg h0]; exact h1
theorem append_other (f : FlashSt) (k : Nat) (b : List UInt8) (hS : f.S.length = 6144) : (appendP f k b).2.S.length = 6144 ∧ ∀ j : Nat, j < 6 → j ≠ k → readF (appendP f k b).2 j = readF f j := by
  unfold appendP
  split
  · exact ⟨hS, fun _ _ _ => rfl⟩
  · split
    · exact ⟨hS, fun _ _ _ => rfl⟩
    · split
      · exact ⟨hS, fun _ _ _ => rfl⟩
      · exact progs_other k _ _ _ _ f hS
theorem write_other (f : FlashSt) (s : Nat) (hs : s < 2) (b : List UInt8) (hS : f.S.length = 6144) : (writeP f s b).2.S.length = 6144 ∧ ∀ j : Nat, 2 ≤ j → j < 6 → readF (writeP f s b).2 j = readF f j := by
  have hc : (1 : Int) - (s : Int) = ((1 - s : Nat) : Int) := by omega
  unfold writeP
  rw [hc]
  have h1 := append_other f s b hS
  generalize appendP f s b = r1 at h1
  have h2 := eraseF_other r1.2 (1 - s) h1.1
  generalize eraseF r1.2 ((1 - s : Nat) : Int) = r2 at h2
  have h3 := append_other r2.2 (1 - s) b h2.1
  generalize appendP r2.2 ((1 - s : Nat) : Int) b = r3 at h3
  by_cases h4 : r1.1 ≠ 4
  · rw [if_pos h4]; exact ⟨h1.1, fun j h4 h5 => h1.2 j h5 (by omega)⟩
  · rw [if_neg h4]
    by_cases h5 : r2.1 ≠ 0
    · rw [if_pos h5]; exact ⟨h2.1, fun j h4 h5 => (h2.2 j h5 (by omega)).trans (h1.2 j h5 (by omega))⟩
    · rw [if_neg h5]; exact ⟨h3.1, fun j h4 h5 => ((h3.2 j h5 (by omega)).trans (h2.2 j h5 (by omega))).trans (h1.2 j h5 (by omega))⟩
theorem mark_other (f : FlashSt) (slot : Int) (sum : List UInt8) (hS : f.S.length = 6144) : (markP f slot sum).2.S.length = 6144 ∧ ∀ j : Nat, 2 ≤ j → j < 6 → readF (markP f slot sum).2 j = readF f j := by
  unfold markP
  have hb := (lastP_bds f).2.2
  generalize lastP f = q at hb
  by_cases h1 : slot < 0 ∨ 2 < slot
  · rw [if_pos h1]; exact ⟨hS, fun _ _ _ => rfl⟩
  · rw [if_neg h1]
    by_cases h2 : 1073741824 ≤ q.1
    · rw [if_pos h2]; exact ⟨hS, fun _ _ _ => rfl⟩
    · rw [if_neg h2]
      rcases hb with h | h
      · rw [h]; exact write_other f 0 (by omega) _ hS
      · rw [h]; exact write_other f 1 (by omega) _ hS

/-! ### a mark while the power goes that tells OK is whole -/
theorem more_erase (f : FlashSt) (k m : Nat) (h : Armed f (m + 2)) (hk : k < 6) : ∃ f', eraseF f k = (0, f') ∧ Armed f' (m + 1) ∧ Packed (readF f' k) [] ∧ ∀ j : Nat, j < 6 → j ≠ k → readF f' j = readF f j := by
  have hs := spend_more f m h.left
  obtain ⟨f', e1, e2, e3, e4⟩ : ∃ f', eraseF f k = (0, f') ∧ f'.dead = false ∧ f'.left = ((m + 1 : Nat) : Int) ∧ f'.S = layS true f.mask (List.replicate 1024 255) (k * 1024) 1024 f.S := by
    rcases eraseF_form f k with ⟨h1 | h1, _⟩ | ⟨f', h1, h2, h3, h4⟩
    · rw [h.dead] at h1; cases h1
    · omega
    · rw [hs] at h1 h2 h3 h4
      exact ⟨f', h1, h2, h3, h4⟩
  have hl : f'.S.length = 6144 := by rw [e4, length_layS, h.len]
  have hr := read_erased f k h.len hk f' hl (fun i hi => by
    rw [e4, lay_whole _ _ _ _ _ _ (by rw [h.len]; exact hi)]
    split
    · rw [List.getD_eq_getElem?_getD, List.getElem?_replicate, if_pos (by omega)]; rfl
    · rfl)
  exact ⟨f', e1, ⟨e2, e3, hl⟩, hr⟩
theorem torn_mark {f : FlashSt} {n : Nat} {l : List EntS} (h : Marks f n l) (hL : Live f) (hn : n < 1073741824) (m : Nat) (hm : 0 < m) (mask : List UInt8) (slot : Int) (hsl : 0 ≤ slot ∧ slot ≤ 2) (sum : List UInt8) (hsum : sum.length = 32)
    (h0 : (markP (stopF f (m : Int) mask) slot sum).1 = 0) : ∃ t, Marks (markP (stopF f (m : Int) mask) slot sum).2 (n + 1) (l.drop t ++ [⟨((n + 1 : Nat) : Int), slot, sum⟩]) := by
  obtain ⟨old, cur, rfl, h'⟩ := h
  have hA : Armed (stopF f (m : Int) mask) m := ⟨hL.dead, by show max (m : Int) 0 = m; omega, hL.len⟩
  have h : Secs (stopF f (m : Int) mask) n old cur := h'.other fun _ _ => rfl
  clear h' hL
  generalize stopF f (m : Int) mask = f at hA h h0 ⊢
  have hg : GoodE ⟨((n + 1 : Nat) : Int), slot, sum⟩ := ⟨by show 1 ≤ ((n + 1 : Nat) : Int) ∧ ((n + 1 : Nat) : Int) ≤ _; omega, hsl, hsum⟩
  have hgc : ∀ e ∈ cur, GoodE e := fun e he => h.good e (by simp [he])
  have hu := usedE cur hgc
  have hp := pagesE ⟨((n + 1 : Nat) : Int), slot, sum⟩ hsum
  have hb := bytesE_len ⟨((n + 1 : Nat) : Int), slot, sum⟩ hsum
  have hmk : markP f slot sum = writeP f (((n - 1) / 16 % 2 : Nat) : Int) (bytesE ⟨((n + 1 : Nat) : Int), slot, sum⟩) := by
    unfold markP
    rw [if_neg (by omega), h.lastq, if_neg (by dsimp only; omega)]
    rfl
  have hcl := h.clen
  have hol := h.olen
  rw [hmk] at h0 ⊢
  by_cases hc : cur.length < 16
  · obtain ⟨f', ha, hlen, _, hT, hr⟩ := torn_append f m hA hm ((n - 1) / 16 % 2) (by omega) _ h.pcur (bytesE ⟨((n + 1 : Nat) : Int), slot, sum⟩) (by omega) (by omega)
    have hw : writeP f (((n - 1) / 16 % 2 : Nat) : Int) (bytesE ⟨((n + 1 : Nat) : Int), slot, sum⟩) = (if m ≤ pagesN (bytesE ⟨((n + 1 : Nat) : Int), slot, sum⟩).length then 14 else 0, f') := by
      unfold writeP
      rw [ha, if_pos (by dsimp only; split <;> omega)]
    rw [hw] at h0 ⊢
    have hgt : pagesN (bytesE ⟨((n + 1 : Nat) : Int), slot, sum⟩).length < m := by
      dsimp only at h0
      split at h0
      · cases h0
      · omega
    have hP := hT.whole hgt (by omega)
    exact ⟨0, old, cur ++ [⟨((n + 1 : Nat) : Int), slot, sum⟩], by simp, h.step1 hc hP (hr _ (by omega) (by omega)) hg rfl⟩
  · have hc16 : cur.length = 16 := by omega
    have ha := append_full f ((n - 1) / 16 % 2) (by omega) _ h.pcur (bytesE ⟨((n + 1 : Nat) : Int), slot, sum⟩) (by omega) (by omega)
    have hcast : ((1 - (n - 1) / 16 % 2 : Nat) : Int) = 1 - (((n - 1) / 16 % 2 : Nat) : Int) := by omega
    by_cases h1 : m = 1
    · subst h1
      obtain ⟨f1, e1, _⟩ := torn_erase f (1 - (n - 1) / 16 % 2) hA.dead hA.left (by omega) hA.len
      have hw : (writeP f (((n - 1) / 16 % 2 : Nat) : Int) (bytesE ⟨((n + 1 : Nat) : Int), slot, sum⟩)).1 = 14 := by
        unfold writeP
        rw [ha, if_neg (by simp), ← hcast, e1, if_pos (by simp)]
      rw [hw] at h0
      cases h0
    · obtain ⟨q, rfl⟩ : ∃ q, m = q + 2 := ⟨m - 2, by omega⟩
      obtain ⟨f1, he, hA1, hP1, hr1⟩ := more_erase f (1 - (n - 1) / 16 % 2) q hA (by omega)
      obtain ⟨f', ha2, hlen, _, hT, hr⟩ := torn_append f1 (q + 1) hA1 (by omega) (1 - (n - 1) / 16 % 2) (by omega) _ hP1 (bytesE ⟨((n + 1 : Nat) : Int), slot, sum⟩) (by omega) (by rw [hp]; decide)
      have hw : writeP f (((n - 1) / 16 % 2 : Nat) : Int) (bytesE ⟨((n + 1 : Nat) : Int), slot, sum⟩) = (if q + 1 ≤ pagesN (bytesE ⟨((n + 1 : Nat) : Int), slot, sum⟩).length then 14 else 0, f') := by
        unfold writeP
        rw [ha, if_neg (by simp), ← hcast, he, if_neg (by simp)]
        exact ha2
      rw [hw] at h0 ⊢
      have hgt : pagesN (bytesE ⟨((n + 1 : Nat) : Int), slot, sum⟩).length < q + 1 := by
        dsimp only at h0
        split at h0
        · cases h0
        · omega
      have hP := hT.whole hgt (by omega)
      exact ⟨old.length, cur, [⟨((n + 1 : Nat) : Int), slot, sum⟩], by rw [List.drop_left], h.step2 hc16 hP (by rw [hr _ (by omega) (by omega), hr1 _ (by omega) (by omega)]) hg rfl⟩

/-! ### the law's cases -/
structure NInv (a : List UInt8) (k : Nat) (f : FlashSt) : Prop where
  live : Live f
  img : Packed (readF f 2) [a]
  marks : ∃ l, Marks f k l
theorem torn_start (a : List UInt8) (ha : a.length ≤ 1000) : ∃ f1, storeP newF 0 a = (0, f1) ∧ NInv a 0 f1 := by
  obtain ⟨f1, e1, L1, P1, r1⟩ := store_ok newF live_new 0 (by omega) a ha
  exact ⟨f1, e1, L1, P1, [], marks_new.other fun i hi => r1 i (by omega) (by omega)⟩
theorem NInv.step {a : List UInt8} {k : Nat} {f : FlashSt} (h : NInv a k f) (hk : k < 1000) (slot : Int) (hs : 0 ≤ slot ∧ slot ≤ 2) : ∃ f', markP f slot (sha a) = (0, f') ∧ NInv a (k + 1) f' := by
  obtain ⟨L, P, l, M⟩ := h
  obtain ⟨f1, t, e1, L1, M1, _, r1⟩ := M.mark L (by omega) slot hs (sha a) (length_sha a)
  refine ⟨f1, e1, L1, ?_, _, M1⟩
  have := r1 2 (by omega) (by omega)
  show Packed (readF f1 ((2 : Nat) : Int)) [a]
  rw [this]; exact P
theorem boot_sum (f : FlashSt) : (bootP f).1.sum.length = 32 := by
  unfold bootP
  cases h : (allP f).find? (fun p => (imageP f p.1).2) with
  | none => exact z32_len
  | some p => exact (allP_good f p (List.mem_of_find?_eq_some h)).1.sum
theorem boot_slot0 (f : FlashSt) (a : List UInt8) (hP : Packed (readF f 2) [a]) (h : (bootP f).1.slot = 0) : (bootP f).1.sum = sha a := by
  unfold bootP at h ⊢
  cases hf : (allP f).find? (fun p => (imageP f p.1).2) with
  | none => rw [hf] at h; cases h
  | some p =>
    rw [hf] at h
    have h : p.1.slot = 0 := h
    have hi : (imageP f p.1).2 = true := by have := List.find?_some hf; exact this
    rw [image_one f p.1 (by omega) a [] (by rw [h]; exact hP)] at hi
    split at hi
    · rename_i hs; exact hs.symm
    · cases hi
theorem torn_law (a : List UInt8) (n : Nat) (f : FlashSt) (h : NInv a n f) (hn : n < 1000) (m : Nat) (hm : 0 < m) (mask : List UInt8) (r : Int × FlashSt) (hr : markP (stopF f (m : Int) mask) 0 (sha a) = r) :
    ((bootP (startF r.2)).1 ≠ (bootP f).1 ∧ ((bootP (startF r.2)).1.seq ≠ (bootP f).1.seq + 1 ∨ (bootP (startF r.2)).1.slot ≠ 0)) ∨
    ((bootP (startF r.2)).1 = (bootP f).1 ∧ r.1 ≠ 0) ∨
    ((bootP (startF r.2)).1 ≠ (bootP f).1 ∧ (bootP (startF r.2)).1.seq = (bootP f).1.seq + 1 ∧ (bootP (startF r.2)).1.slot = 0 ∧ (bootP (startF r.2)).1.sum = sha a) := by
  obtain ⟨L, P, l, M⟩ := h
  have hb : bootP (startF r.2) = bootP r.2 := rfl
  rw [hb]
  have hP : Packed (readF r.2 2) [a] := by
    have := (mark_other (stopF f (m : Int) mask) 0 (sha a) L.len).2 2 (by omega) (by omega)
    rw [hr] at this
    show Packed (readF r.2 ((2 : Nat) : Int)) [a]
    rw [this]; exact P
  by_cases hw : (bootP r.2).1 = (bootP f).1
  · refine .inr (.inl ⟨hw, fun h0 => ?_⟩)
    obtain ⟨t, M1⟩ := torn_mark M L (by omega) m hm mask 0 (by omega) (sha a) (length_sha a) (by rw [hr]; exact h0)
    rw [hr] at M1
    have hi : imageP r.2 ⟨((n + 1 : Nat) : Int), 0, sha a⟩ = (a, true) := by rw [image_one r.2 ⟨((n + 1 : Nat) : Int), 0, sha a⟩ (by show (0 : Int) ≠ 2; decide) a [] hP, if_pos rfl]
    have hbt : (bootP r.2).1 = ⟨((n + 1 : Nat) : Int), 0, sha a⟩ := by rw [M1.boot, bootL_last _ _ _ (by rw [hi])]
    have hle : (bootP f).1.seq ≤ (n : Int) := by
      obtain ⟨old, cur, rfl, S⟩ := M
      rw [S.boot]
      unfold bootL
      cases hf : (old ++ cur).reverse.find? (fun e => (imageP f e).2) with
      | none => show (0 : Int) ≤ n; omega
      | some e => exact S.top e (List.mem_reverse.1 (List.mem_of_find?_eq_some hf))
    rw [← hw, hbt] at hle
    have hle : ((n + 1 : Nat) : Int) ≤ (n : Int) := hle
    omega
  · by_cases hc : (bootP r.2).1.seq = (bootP f).1.seq + 1 ∧ (bootP r.2).1.slot = 0
    · exact .inr (.inr ⟨hw, hc.1, hc.2, boot_slot0 r.2 a hP hc.2⟩)
    · refine .inl ⟨hw, ?_⟩
      by_cases hq : (bootP r.2).1.seq = (bootP f).1.seq + 1
      · exact .inr fun h0 => hc ⟨hq, h0⟩
      · exact .inl hq
end Go.Proofs.Ytkncomkncfcecaa
