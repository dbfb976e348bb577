/- of: an entry as the document's. Records, plain: a sector whose one record is spoilt: what stands ahead is told, nothing behind. No program in sight. FlashTorn, plain: what a torn program and a torn erasure leave. Records, plain: an append while the power goes at some operation. No program in sight. SlotsTorn, plain: a mark while the power goes. No program in sight. boots: what both memories boot is alike. SlotsPlay: the walk. -/
import Derived.Test.YtkncomkncfcecaaSlotKnown
import Derived.Test.YtkncomkncfcecaaSlotBytes
import Derived.Test.YtkncomkncfcecaaConcat
import Derived.Test.YtkncomkncfcecaaFlashLaws
import Derived.Test.YtkncomkncfcecaaSlotL
import Derived.Test.YtkncomkncfcecaaSlotBootR
import Derived.Test.YtkncomkncfcecaaWithin4
import Derived.Test.YtkncomkncfcecaaKnF
import Derived.Test.YtkncomkncfcecaaKnZ
import Derived.Test.YtkncomkncfcecaaSlDo
import Derived.Test.YtkncomkncfcecaaActArgs
set_option linter.unusedVariables false
set_option linter.unusedSimpArgs false
namespace Go.Proofs.Ytkncomkncfcecaa
open Go.RowKit
attribute [local go_sem] Y1 Yl Yp ZT Yy Yo ZI ZO Yi ZN ZH ZU Ya
set_option maxRecDepth 100000 in
set_option maxHeartbeats 2000000 in
theorem of_any (e : EntS) (w : World) (hs : e.sum.length = 32) : Calls Try.prog 28 #[.agg (entC e).toArray] w fun r w' => r = .returned (.agg (entC e).toArray) ∧ Below w.heap.size w w' := by
  refine ZZ Try.func28 rfl Try.ntmps28 rfl [(0, .agg (entC e).toArray)] rfl ?_
  refine Zv ?_
  refine Zc ?_
  refine Xx (Lay.start w) rfl rfl rfl rfl rfl ?_
  intro g1 w1 hg1 hb1 hL1
  clear hg1 hb1
  refine W6 hL1 rentZero rfl rfl rfl rfl ?_
  intro g2 w2 hg2 hb2 hL2
  clear hg2 hb2 hL1
  have c0 := row_seq (hL2.at_ 1 rfl)
  have c1 := row_slot (hL2.at_ 1 rfl)
  have c2 := row_sum (hL2.at_ 1 rfl)
  repeat (first | refine Zv ?_ | refine Zc ?_ | refine Zq ?_ | refine Zm ?_ | refine Y8 29 g1 2 _ _ c2 Try.underlying29 rfl (hashSize _ hs) rfl rfl rfl rfl rfl ?_ | refine Yr 59 _ (entC e).toArray rfl rfl rfl (by rfl) (by rfl) (rentBuilt3 e.seq e.slot e.sum hs) ?_ | (first | refine Zb rfl rfl (.inl rfl) rfl rfl ?_ | refine Zb rfl rfl (.inr rfl) rfl rfl ?_ | refine Za rfl rfl (.inl rfl) rfl ?_ | refine Za rfl rfl (.inr rfl) rfl ?_) | ((first | refine Zn rfl rfl rfl fun K hK => ?_ | refine Zh rfl rfl rfl fun K hK => ?_); go_simp; (try go_bits); (first | refine hK _ _ ?_ | refine hK _ ?_); clear hK K))
  refine YL (cells := (entC e).toArray) hL2 0 rfl (rentInfo e hs) (by rw [List.size_toArray, List.size_toArray, ZR entZ ZL, ZR e hs]) (Yu e) rfl rfl rfl rfl rfl (fun hL3 => ?_)
  generalize w2.setRow g2 (entC e).toArray = w3 at hL3 ⊢
  have HL3 := Lib.hid hL3
  clear hL3 hL2 c0 c1 c2
  repeat (first | refine Zv ?_ | refine Zs ?_ | refine Zu ?_ | refine Zc ?_ | refine Zq ?_ | refine Zm ?_ | refine Zp ?_ | refine Zw ?_ | refine Zf ?_ | refine Zd rfl ?_ | refine Zj rfl ?_ | refine Ze ?_ | refine Z3 ?_ | refine Zk ?_ | refine Zg ?_ | refine Zi ?_ | refine Zy rfl ?_ | refine Zx rfl ?_ | refine Zz rfl rfl ?_ | refine Zt rfl rfl rfl rfl ?_ | refine Zr rfl rfl rfl ?_ | (first | refine Zb rfl rfl (.inl rfl) rfl rfl ?_ | refine Zb rfl rfl (.inr rfl) rfl rfl ?_ | refine Za rfl rfl (.inl rfl) rfl ?_ | refine Za rfl rfl (.inr rfl) rfl ?_) | ((first | refine Zn rfl rfl rfl fun K hK => ?_ | refine Zh rfl rfl rfl fun K hK => ?_); go_simp; (try go_bits); (first | refine hK _ _ ?_ | refine hK _ ?_); clear hK K))
  refine YO (v := .agg (entC e).toArray) (fun a k => results_cell_row rfl _ _ g2 59 (entC e).toArray (0, 0) _ (k.slot 2 rfl) (HL3.out.at_ 0 rfl) Try.underlying59 rfl (rentInfo e hs)) ?_
  exact ⟨rfl, HL3.out.below⟩
end Go.Proofs.Ytkncomkncfcecaa
set_option linter.unusedVariables false
set_option linter.unusedSimpArgs false
namespace Go.Proofs.Ytkncomkncfcecaa
open Go.RowKit
def spoilP (l : List UInt8) (j : Nat) (y : UInt8) : List UInt8 := (recP l).set j y
def recN (n : Nat) : List (List UInt8) := (List.range n).map fun k => [255, u8n k, 255]
def recK (t : Nat) : List UInt8 := [255, u8n t, 255]
end Go.Proofs.Ytkncomkncfcecaa
set_option linter.unusedVariables false
set_option linter.unusedSimpArgs false
namespace Go.Proofs.Ytkncomkncfcecaa
open Go.RowKit
end Go.Proofs.Ytkncomkncfcecaa
set_option linter.unusedVariables false
set_option linter.unusedSimpArgs false
namespace Go.Proofs.Ytkncomkncfcecaa
open Go.RowKit
structure Armed (f : FlashSt) (m : Nat) : Prop where
  dead : f.dead = false
  left : f.left = (m : Int)
  len : f.S.length = 6144
def tornAt (mask x : List UInt8) (M r : Nat) : UInt8 :=
  if r + 16 < 16 * M then x.getD r 255 else if r < 16 * M then x.getD r 255 ||| ~~~(mByte false mask (r % 16)) else 255
theorem tornAt_lo {mask x : List UInt8} {M r : Nat} (h : r / 16 + 1 < M) : tornAt mask x M r = x.getD r 255 := by unfold tornAt; rw [if_pos (by omega)]
structure TornS (c : List UInt8) (l : List (List UInt8)) (T : List UInt8) (n : Nat) : Prop where
  eq : c = packP l ++ (T ++ List.replicate (1024 - 16 * (usedP l + n)) 255)
  used : usedP l + n ≤ 64
  len : T.length = 16 * n
  short : ∀ x ∈ l, x.length ≤ 1018
theorem TornS.clen {c : List UInt8} {l : List (List UInt8)} {T : List UInt8} {n : Nat} (h : TornS c l T n) : c.length = 1024 := by
  have := h.used
  rw [h.eq, List.length_append, Y0, List.length_append, h.len, List.length_replicate]; omega
theorem TornS.load {c : List UInt8} {l : List (List UInt8)} {T : List UInt8} {n : Nat} (h : TornS c l T n) (b : List UInt8) (hn : n = pagesN b.length) (hb : b.length ≤ 65535) (hge : b.length ≤ le (T.take 2)) :
    (loadR c).1 = l ∨ ∃ y, (loadR c).1 = l ++ [y] := by
  have hl := h.clen
  have hu := h.used
  have h1 := loadP_pack c l 0 [] _ (by rw [List.nil_append]; exact h.eq) rfl hl h.short
  rw [Nat.zero_add] at h1
  have hld : loadR c = loadP c 0 := by unfold loadR; rw [if_neg (by omega)]
  rw [hld, h1]
  dsimp only
  have hd : c.drop (16 * usedP l) = T ++ List.replicate (1024 - 16 * (usedP l + n)) 255 := by
    have := congrArg (List.drop (16 * usedP l)) h.eq
    rw [← Y0, List.drop_left, Y0] at this
    exact this
  have hnp := Xa b.length
  have hlt : usedP l < 64 := by omega
  cases hbl : blankP ((c.drop (16 * usedP l)).take 16) with
  | true => left; rw [X4 hlt hbl, List.append_nil]
  | false =>
    by_cases ho : (opened (c.drop (16 * usedP l))).2.2 = 0
    · right
      refine ⟨(opened (c.drop (16 * usedP l))).1, ?_⟩
      rw [WA hlt hbl ho]
      dsimp only
      have hxl : b.length ≤ (opened (c.drop (16 * usedP l))).1.length := by
        rw [hd] at ho ⊢
        have ht2 : (T ++ List.replicate (1024 - 16 * (usedP l + n)) 255).take 2 = T.take 2 := by rw [List.take_append_of_le_length (by rw [h.len]; omega)]
        unfold opened at ho ⊢
        rw [ht2] at ho ⊢
        by_cases c1 : (T ++ List.replicate (1024 - 16 * (usedP l + n)) 255).length < 6
        · rw [if_pos c1] at ho; cases ho
        · rw [if_neg c1] at ho ⊢
          by_cases c2 : (T ++ List.replicate (1024 - 16 * (usedP l + n)) 255).length - 6 < le (T.take 2)
          · rw [if_pos c2] at ho; cases ho
          · rw [if_neg c2] at ho ⊢
            split at ho
            · cases ho
            · rename_i c3
              rw [if_neg c3]
              dsimp only
              rw [List.length_take, List.length_drop]
              omega
      have hpm := pagesN_mono hxl
      obtain ⟨x, hx⟩ : ∃ x, (opened (c.drop (16 * usedP l))).1 = x := ⟨_, rfl⟩
      rw [hx] at hpm hxl ⊢
      have htail : (loadP c (usedP l + pagesN x.length)).1 = [] := by
        by_cases h64 : 64 ≤ usedP l + pagesN x.length
        · rw [Vd h64]
        · have hb2 : blankP ((c.drop (16 * (usedP l + pagesN x.length))).take 16) = true := by
            have e1 : c.drop (16 * (usedP l + pagesN x.length)) = (c.drop (16 * usedP l)).drop (16 * pagesN x.length) := by rw [List.drop_drop]; congr 1; omega
            rw [e1, hd, List.drop_append, List.drop_of_length_le (by rw [h.len]; omega), List.nil_append, List.drop_replicate, List.take_replicate]
            exact blankP_rep _
          rw [X4 (by omega) hb2]
      rw [htail]
    · left; rw [loadP_bad hlt hbl ho, List.append_nil]
def tornL (mask x : List UInt8) (M n : Nat) : List UInt8 := (List.range (16 * n)).map (tornAt mask x M)
theorem tornL_len (mask x : List UInt8) (M n : Nat) : (tornL mask x M n).length = 16 * n := by simp [tornL]
theorem tornL_at (mask x : List UInt8) (M n r : Nat) (h : r < 16 * n) : (tornL mask x M n)[r]? = some (tornAt mask x M r) := by
  simp [tornL, List.getElem?_map, List.getElem?_range, h]
theorem tornL_whole (mask b : List UInt8) (M : Nat) (h : pagesN b.length < M) : tornL mask (sealed b) M (pagesN b.length) = recP b := by
  have hl := X3 b
  apply List.ext_getElem?
  intro r
  by_cases hr : r < 16 * pagesN b.length
  · rw [tornL_at _ _ _ _ _ hr, tornAt_lo (by omega)]
    have h1 := recP_getD b r hr
    rw [List.getD_eq_getElem?_getD, List.getElem?_eq_getElem (by omega)] at h1
    rw [List.getElem?_eq_getElem (by omega)]
    congr 1
    exact h1.symm
  · rw [List.getElem?_eq_none (by rw [tornL_len]; omega), List.getElem?_eq_none (by omega)]
theorem TornS.whole {c : List UInt8} {l : List (List UInt8)} {b mask : List UInt8} {M : Nat} (h : TornS c l (tornL mask (sealed b) M (pagesN b.length)) (pagesN b.length)) (hM : pagesN b.length < M) (hb : b.length ≤ 1018) : Packed c (l ++ [b]) := by
  have hu := h.used
  refine ⟨?_, by rw [usedP_snoc]; exact hu, fun x hx => by
    rcases List.mem_append.1 hx with h' | h'
    · exact h.short x h'
    · simp at h'; subst h'; exact hb⟩
  rw [packP_snoc, usedP_snoc, ← tornL_whole mask b M hM, List.append_assoc]
  exact h.eq
end Go.Proofs.Ytkncomkncfcecaa
set_option linter.unusedVariables false
set_option linter.unusedSimpArgs false
namespace Go.Proofs.Ytkncomkncfcecaa
open Go.RowKit
/-! ### what is written to a sector leaves the others -/
/-! ### a mark while the power goes that tells OK is whole -/
/-! ### the law's cases -/
structure NInv (a : List UInt8) (k : Nat) (f : FlashSt) : Prop where
  live : Live f
  img : Packed (readF f 2) [a]
  marks : ∃ l, Marks f k l
theorem NInv.step {a : List UInt8} {k : Nat} {f : FlashSt} (h : NInv a k f) (hk : k < 1000) (slot : Int) (hs : 0 ≤ slot ∧ slot ≤ 2) : ∃ f', markP f slot (sha a) = (0, f') ∧ NInv a (k + 1) f' := by
  obtain ⟨L, P, l, M⟩ := h
  obtain ⟨f1, t, e1, L1, M1, _, r1⟩ := M.mark L (by omega) slot hs (sha a) (Xv a)
  refine ⟨f1, e1, L1, ?_, _, M1⟩
  have := r1 2 (by omega) (by omega)
  show Packed (readF f1 ((2 : Nat) : Int)) [a]
  rw [this]; exact P
theorem boot_sum (f : FlashSt) : (bootP f).1.sum.length = 32 := by
  unfold bootP
  cases h : (allP f).find? (fun p => (imageP f p.1).2) with
  | none => exact ZL
  | some p => exact (Vp f p (List.mem_of_find?_eq_some h)).1.sum
end Go.Proofs.Ytkncomkncfcecaa
set_option linter.unusedVariables false
set_option linter.unusedSimpArgs false
namespace Go.Proofs.Ytkncomkncfcecaa
open Go.RowKit
theorem bs_hold {w : World} {A : Option Addr} {n : Nat} {l : List UInt8} (h : Bs w A n l) : ∃ bs, Hold bs w ∧ ∀ W, Hold bs W → Bs W A n l := by
  by_cases hn : 0 < n
  · obtain ⟨b, o, rfl, hc⟩ := h.2 hn
    cases hb : w.heap[b]? with
    | none =>
      exfalso
      have hl : 0 < (bv l).length := by rw [h.1]; exact hn
      have := hc 0 _ (List.getElem?_eq_getElem hl)
      simp [World.cell?, hb] at this
    | some obj =>
      refine ⟨[(b, obj)], .cons hb (.nil _), fun W hW => ⟨h.1, fun _ => ⟨b, o, rfl, fun i v hv => ?_⟩⟩⟩
      have h2 := hW.at_ 0 rfl
      have h3 := hc i v hv
      simpa [World.cell?, hb, h2] using h3
  · exact ⟨[], .nil _, fun W _ => ⟨h.1, fun h => absurd h hn⟩⟩
theorem Hold.app {xs ys : List (Nat × Obj)} {W : World} (h : Hold xs W) (k : Hold ys W) : Hold (xs ++ ys) W := fun p hp => by
  rcases List.mem_append.1 hp with hp | hp
  · exact h p hp
  · exact k p hp
theorem Hold.left {xs ys : List (Nat × Obj)} {W : World} (h : Hold (xs ++ ys) W) : Hold xs W := fun p hp => h p (List.mem_append.2 (.inl hp))
theorem Hold.right {xs ys : List (Nat × Obj)} {W : World} (h : Hold (xs ++ ys) W) : Hold ys W := fun p hp => h p (List.mem_append.2 (.inr hp))
theorem Hold.tl {x : Nat × Obj} {ys : List (Nat × Obj)} {W : World} (h : Hold (x :: ys) W) : Hold ys W := fun p hp => h p (List.mem_cons_of_mem _ hp)
attribute [local go_sem] Y1 Yl Yp ZT Yy Yo ZI ZO Yi ZN ZH ZU Ya
set_option maxRecDepth 100000 in
set_option maxHeartbeats 2000000 in
theorem boots_any (Q Q2 : Nat → Prop) (g x : Nat) (f : FlashSt) (w : World) (hF : FS Q w g f) (hR : RF Q2 w x f) : Calls Try.prog 32 #[.pointer (some ⟨g, 0, none⟩), .pointer (some ⟨x, 0, none⟩)] w fun r w' => r = .returned (.bool true) ∧ Below w.heap.size w w' := by
  refine ZZ Try.func32 rfl Try.ntmps32 rfl [(0, .pointer (some ⟨g, 0, none⟩)), (1, .pointer (some ⟨x, 0, none⟩))] rfl ?_
  repeat (first | refine Zv ?_ | refine Zu ?_ | refine Zc ?_ | refine Zq ?_ | refine Zm ?_ | refine Zp ?_ | refine Zw ?_ | refine Zf ?_ | refine Zd rfl ?_ | refine Zj rfl ?_ | refine Ze ?_ | refine Z3 ?_ | refine Zk ?_ | refine Zg ?_ | refine Zi ?_ | refine Zy rfl ?_ | refine Zx rfl ?_ | refine Zz rfl rfl ?_ | refine Zt rfl rfl rfl rfl ?_ | refine Zr rfl rfl rfl ?_ | (first | refine Zb rfl rfl (.inl rfl) rfl rfl ?_ | refine Zb rfl rfl (.inr rfl) rfl rfl ?_ | refine Za rfl rfl (.inl rfl) rfl ?_ | refine Za rfl rfl (.inr rfl) rfl ?_) | ((first | refine Zn rfl rfl rfl fun K hK => ?_ | refine Zh rfl rfl rfl fun K hK => ?_); go_simp; (try go_bits); (first | refine hK _ _ ?_ | refine hK _ ?_); clear hK K))
  refine Z9 rfl rfl rfl Try.func14 rfl (by kernel_rfl) rfl ?_
  refine Calls.mono (boot_any Q g f w hF) ?_
  rintro e w1 ⟨A1, n1, c1, rfl, hB1, _, _, _, hb1⟩
  refine ⟨_, rfl, ?_⟩
  obtain ⟨E, hE⟩ : ∃ E, (bootP f).1 = E := ⟨_, rfl⟩
  obtain ⟨M, hM⟩ : ∃ M, (bootP f).2 = M := ⟨_, rfl⟩
  have HEL : Hid (E.sum.length = 32) := by show _ = _; rw [← hE]; exact boot_sum f
  have HE := Lib.hid hE
  have HM := Lib.hid hM
  rw [hE]
  rw [hM] at hB1
  have hR1 := hR.below hb1
  have hL1 : Lay w w1 [] := ⟨hb1, trivial⟩
  clear hE hM hb1 hF hR
  repeat (first | (first | refine Zb rfl rfl (.inl rfl) rfl rfl ?_ | refine Zb rfl rfl (.inr rfl) rfl rfl ?_ | refine Za rfl rfl (.inl rfl) rfl ?_ | refine Za rfl rfl (.inr rfl) rfl ?_) | ((first | refine Zn rfl rfl rfl fun K hK => ?_ | refine Zh rfl rfl rfl fun K hK => ?_); go_simp; (try go_bits); (first | refine hK _ _ ?_ | refine hK _ ?_); clear hK K))
  refine XH (z := (entC entZ).toArray) (cells := (entC E).toArray) hL1 entZero (entInfo E HEL.out) (by rw [List.size_toArray, List.size_toArray, ZR entZ ZL, ZR E HEL.out]) (Yu E) rfl rfl rfl rfl rfl rfl rfl rfl rfl ?_
  intro gn w2 hgn hb2 hL2
  have hR2 := hR1.below hb2
  have hB2 := hB1.keep (.of_below hb2)
  clear hgn hb2 hL1 hR1 hB1
  repeat (first | refine Zv ?_ | refine Zu ?_ | refine Zc ?_ | refine Zq ?_ | refine Zm ?_ | refine Zp ?_ | refine Zw ?_ | refine Zf ?_ | refine Zd rfl ?_ | refine Zj rfl ?_ | refine Ze ?_ | refine Z3 ?_ | refine Zk ?_ | refine Zg ?_ | refine Zi ?_ | refine Zy rfl ?_ | refine Zx rfl ?_ | refine Zz rfl rfl ?_ | refine Zt rfl rfl rfl rfl ?_ | refine Zr rfl rfl rfl ?_ | (first | refine Zb rfl rfl (.inl rfl) rfl rfl ?_ | refine Zb rfl rfl (.inr rfl) rfl rfl ?_ | refine Za rfl rfl (.inl rfl) rfl ?_ | refine Za rfl rfl (.inr rfl) rfl ?_) | ((first | refine Zn rfl rfl rfl fun K hK => ?_ | refine Zh rfl rfl rfl fun K hK => ?_); go_simp; (try go_bits); (first | refine hK _ _ ?_ | refine hK _ ?_); clear hK K))
  refine Z9 rfl rfl rfl Try.func27 rfl (by kernel_rfl) rfl ?_
  refine Calls.mono (bootR_any Q2 x f w2 hR2) ?_
  rintro e w3 ⟨A2, n2, c2, rfl, hC3, _, _, _, hb3⟩
  refine ⟨_, rfl, ?_⟩
  rw [HE.out]
  rw [HM.out] at hC3
  have hL3 := hL2.next hb3
  have hB3 := hB2.keep (.of_below hb3)
  clear hb3 hL2 hR2 hB2
  repeat (first | (first | refine Zb rfl rfl (.inl rfl) rfl rfl ?_ | refine Zb rfl rfl (.inr rfl) rfl rfl ?_ | refine Za rfl rfl (.inl rfl) rfl ?_ | refine Za rfl rfl (.inr rfl) rfl ?_) | ((first | refine Zn rfl rfl rfl fun K hK => ?_ | refine Zh rfl rfl rfl fun K hK => ?_); go_simp; (try go_bits); (first | refine hK _ _ ?_ | refine hK _ ?_); clear hK K))
  refine XH (z := (entC entZ).toArray) (cells := (entC E).toArray) hL3 rentZero (rentInfo E HEL.out) (by rw [List.size_toArray, List.size_toArray, ZR entZ ZL, ZR E HEL.out]) (Yu E) rfl rfl rfl rfl rfl rfl rfl rfl rfl ?_
  intro gr w4 hgr hb4 hL4
  have hB4 := (hB3.keep (.of_below hb4)).keep (.of_below ((Below.refl _ w4).drew))
  have hC4 := (hC3.keep (.of_below hb4)).keep (.of_below ((Below.refl _ w4).drew))
  have hL5 := hL4.next ((Below.refl _ w4).drew)
  clear hgr hb4 hL3 hL4 hB3 hC3
  repeat (first | (first | refine Zb rfl rfl (.inl rfl) rfl rfl ?_ | refine Zb rfl rfl (.inr rfl) rfl rfl ?_ | refine Za rfl rfl (.inl rfl) rfl ?_ | refine Za rfl rfl (.inr rfl) rfl ?_) | refine Zq ?_)
  refine Zm ?_
  refine Zv ?_
  obtain ⟨xs, hxs, hxB⟩ := bs_hold hB4
  obtain ⟨ys, hys, hyB⟩ := bs_hold hC4
  have hR : Hold ((gr, .cells (entC E).toArray 59 (0, 0)) :: (gn, .cells (entC E).toArray 31 (0, 0)) :: (xs ++ ys)) w4.drew := .cons (hL5.at_ 0 rfl) (.cons (hL5.at_ 1 rfl) (hxs.app hys))
  have v1 : ∀ W, Hold ((gr, .cells (entC E).toArray 59 (0, 0)) :: (gn, .cells (entC E).toArray 31 (0, 0)) :: (xs ++ ys)) W → (convert 32 9 (.slice A1 n1 c1)).run Try.prog W = .ok (.string ⟨M.toArray⟩) W := fun W h => convB (c := c1) (hxB W h.tl.tl.left)
  have v2 : ∀ W, Hold ((gr, .cells (entC E).toArray 59 (0, 0)) :: (gn, .cells (entC E).toArray 31 (0, 0)) :: (xs ++ ys)) W → (convert 32 9 (.slice A2 n2 c2)).run Try.prog W = .ok (.string ⟨M.toArray⟩) W := fun W h => convB (c := c2) (hyB W h.tl.tl.right)
  have he : ∀ W, (Op.equalIn 10000 59 (.agg (entC E).toArray) (.agg (entC E).toArray)).run Try.prog W = .ok true W := fun W => by rw [reqEnt W E E HEL.out HEL.out, eqE_self]
  clear hxs hys hxB hyB hB4 hC4
  refine ZX (Hold ((gr, .cells (entC E).toArray 59 (0, 0)) :: (gn, .cells (entC E).toArray 31 (0, 0)) :: (xs ++ ys))) [true, false, true, true, true, true, true, true, true, true, true, true] (by kernel_rfl) (by kernel_rfl) hR ?_
  generalize w4.drew = w5 at *
  repeat (first | refine Ym ?_ | refine Yj rfl rfl ?_ | refine ZM rfl rfl rfl rfl ?_ | refine Xj 1 rfl Try.underlying31 rfl (entInfoL E HEL.out) rfl rfl rfl rfl rfl ?_ | refine Xj 0 rfl Try.underlying59 rfl (rentInfoL E HEL.out) rfl rfl rfl rfl rfl ?_ | (first | refine Z5 rfl rfl (.inl rfl) rfl rfl ?_ | refine Z5 rfl rfl (.inr rfl) rfl rfl ?_ | refine Z2 rfl rfl (.inl rfl) rfl ?_ | refine Z2 rfl rfl (.inr rfl) rfl ?_) | (refine Yf rfl rfl rfl ?_; apply Exists.intro; refine And.intro (fun W hW N hN => ?_) ?_; · (go_simp; (try go_bits); exact hN)))
  refine YT ?_
  refine Z9 rfl rfl rfl Try.func28 rfl (by kernel_rfl) rfl ?_
  refine Calls.mono (of_any E w5 HEL.out) ?_
  rintro e w6 ⟨rfl, hb6⟩
  refine ⟨_, rfl, ?_⟩
  refine Zq ?_
  refine kq_f (hR.below hb6) ?_
  have hL6 := hL5.next hb6
  clear hb6 hR hL5
  have hs : (M == M) = true := beq_self_eq_true _
  repeat (first | refine Ym ?_ | refine Yj rfl rfl ?_ | refine ZM rfl rfl rfl rfl ?_ | refine Xj 1 rfl Try.underlying31 rfl (entInfoL E HEL.out) rfl rfl rfl rfl rfl ?_ | refine Xj 0 rfl Try.underlying59 rfl (rentInfoL E HEL.out) rfl rfl rfl rfl rfl ?_ | (first | refine Z5 rfl rfl (.inl rfl) rfl rfl ?_ | refine Z5 rfl rfl (.inr rfl) rfl rfl ?_ | refine Z2 rfl rfl (.inl rfl) rfl ?_ | refine Z2 rfl rfl (.inr rfl) rfl ?_) | (refine Yf rfl rfl rfl ?_; apply Exists.intro; refine And.intro (fun W hW N hN => ?_) ?_; · (go_simp; (try go_bits); exact hN)))
  refine Zm ?_
  clear v1 v2 he hs
  repeat (first | refine Zv ?_ | refine Zs ?_ | refine Zu ?_ | refine Zc ?_ | refine Zq ?_ | refine Zm ?_ | refine Zp ?_ | refine Zw ?_ | refine Zf ?_ | refine Zd rfl ?_ | refine Zj rfl ?_ | refine Ze ?_ | refine Z3 ?_ | refine Zk ?_ | refine Zg ?_ | refine Zi ?_ | refine Zy rfl ?_ | refine Zx rfl ?_ | refine Zz rfl rfl ?_ | refine Zt rfl rfl rfl rfl ?_ | refine Zr rfl rfl rfl ?_ | (first | refine Zb rfl rfl (.inl rfl) rfl rfl ?_ | refine Zb rfl rfl (.inr rfl) rfl rfl ?_ | refine Za rfl rfl (.inl rfl) rfl ?_ | refine Za rfl rfl (.inr rfl) rfl ?_) | ((first | refine Zn rfl rfl rfl fun K hK => ?_ | refine Zh rfl rfl rfl fun K hK => ?_); go_simp; (try go_bits); (first | refine hK _ _ ?_ | refine hK _ ?_); clear hK K))
  exact ZE rfl rfl ⟨rfl, hL6.below⟩
end Go.Proofs.Ytkncomkncfcecaa
set_option linter.unusedVariables false
set_option linter.unusedSimpArgs false
namespace Go.Proofs.Ytkncomkncfcecaa
open Go.RowKit
attribute [local go_sem] Y1 Yl Yp ZT Yy Yo ZI ZO Yi ZN ZH ZU Ya
theorem act6_range {w : World} {g o : Nat} {a : Act6} (h : Act6At w g o a) : ∃ B m c B2 m2 c2, w.rangeAt g o [.int .i64 a.kind, .int .i64 a.n, .slice B m c, .int .i64 a.f.kind, .int .i64 a.f.s, .int .i64 a.f.p, .int .i64 a.f.n, .slice B2 m2 c2] ∧ Bs w B m a.b ∧ m ≤ c ∧ c ≤ 9223372036854775807 ∧ Bs w B2 m2 a.f.b ∧ m2 ≤ c2 ∧ c2 ≤ 9223372036854775807 := by
  obtain ⟨h0, h1, ⟨B, m, c, h2, hB, hm, hc⟩, h3, h4, h5, h6, B2, m2, c2, h7, hB2, hm2, hc2⟩ := h
  refine ⟨B, m, c, B2, m2, c2, fun j v hv => ?_, hB, hm, hc, hB2, hm2, hc2⟩
  match j, hv with
  | 0, hv => simp at hv; subst hv; exact h0
  | 1, hv => simp at hv; subst hv; exact h1
  | 2, hv => simp at hv; subst hv; exact h2
  | 3, hv => simp at hv; subst hv; exact h3
  | 4, hv => simp at hv; subst hv; exact h4
  | 5, hv => simp at hv; subst hv; exact h5
  | 6, hv => simp at hv; subst hv; exact h6
  | 7, hv => simp at hv; subst hv; exact h7
set_option maxRecDepth 100000 in
set_option maxHeartbeats 4000000 in
theorem slotsPlay_top (A : Option Addr) (n c : Nat) (la : List Act6) (w : World)
    (hA : Acts6 w A n la) (hnc : n ≤ c) (hc : c ≤ 9223372036854775807) :
    Calls Try.prog 9 #[.slice A n c] w fun e w' => e = .returned (.bool true) ∧ Below w.heap.size w w' := by
  refine ZZ Try.func9 rfl Try.ntmps9 rfl [(0, .slice A n c)] rfl ?_
  repeat (first | refine Zv ?_ | refine Zs ?_ | refine Zu ?_ | refine Zc ?_ | refine Zq ?_ | refine Zm ?_ | refine Zp ?_ | refine Zw ?_ | refine Zf ?_ | refine Zd rfl ?_ | refine Zj rfl ?_ | refine Ze ?_ | refine Z3 ?_ | refine Zk ?_ | refine Zg ?_ | refine Zi ?_ | refine Zy rfl ?_ | refine Zx rfl ?_ | refine Zz rfl rfl ?_ | refine Zt rfl rfl rfl rfl ?_ | refine Zr rfl rfl rfl ?_ | (first | refine Zb rfl rfl (.inl rfl) rfl rfl ?_ | refine Zb rfl rfl (.inr rfl) rfl rfl ?_ | refine Za rfl rfl (.inl rfl) rfl ?_ | refine Za rfl rfl (.inr rfl) rfl ?_) | ((first | refine Zn rfl rfl rfl fun K hK => ?_ | refine Zh rfl rfl rfl fun K hK => ?_); go_simp; (try go_bits); (first | refine hK _ _ ?_ | refine hK _ ?_); clear hK K))
  refine Z9 rfl rfl rfl Try.func10 rfl (by kernel_rfl) rfl ?_
  refine Calls.mono (known6_any w) ?_
  rintro e w0 ⟨rfl, hb0⟩
  refine ⟨_, rfl, ?_⟩
  have HLL := Lib.hid hA.1
  repeat (first | refine Zv ?_ | refine Zs ?_ | refine Zu ?_ | refine Zc ?_ | refine Zq ?_ | refine Zm ?_ | refine Zp ?_ | refine Zw ?_ | refine Zf ?_ | refine Zd rfl ?_ | refine Zj rfl ?_ | refine Ze ?_ | refine Z3 ?_ | refine Zk ?_ | refine Zg ?_ | refine Zi ?_ | refine Zy rfl ?_ | refine Zx rfl ?_ | refine Zz rfl rfl ?_ | refine Zt rfl rfl rfl rfl ?_ | refine Zr rfl rfl rfl ?_ | (first | refine Zb rfl rfl (.inl rfl) rfl rfl ?_ | refine Zb rfl rfl (.inr rfl) rfl rfl ?_ | refine Za rfl rfl (.inl rfl) rfl ?_ | refine Za rfl rfl (.inr rfl) rfl ?_) | ((first | refine Zn rfl rfl rfl fun K hK => ?_ | refine Zh rfl rfl rfl fun K hK => ?_); go_simp; (try go_bits); (first | refine hK _ _ ?_ | refine hK _ ?_); clear hK K))
  refine Z9 rfl rfl rfl Try.func29 rfl (by kernel_rfl) rfl ?_
  refine Calls.mono (few6_any A n c la w0 (hA.keep (Keeps.of_below hb0)) hnc hc) ?_
  rintro e _ ⟨rfl, rfl⟩
  refine ⟨_, rfl, ?_⟩
  by_cases hfew : (few6 la && decide (n ≤ 60)) = true
  case neg =>
    rw [Bool.eq_false_iff.2 hfew]
    clear hfew
    repeat (first | refine Zv ?_ | refine Zs ?_ | refine Zu ?_ | refine Zc ?_ | refine Zq ?_ | refine Zm ?_ | refine Zp ?_ | refine Zw ?_ | refine Zf ?_ | refine Zd rfl ?_ | refine Zj rfl ?_ | refine Ze ?_ | refine Z3 ?_ | refine Zk ?_ | refine Zg ?_ | refine Zi ?_ | refine Zy rfl ?_ | refine Zx rfl ?_ | refine Zz rfl rfl ?_ | refine Zt rfl rfl rfl rfl ?_ | refine Zr rfl rfl rfl ?_ | (first | refine Zb rfl rfl (.inl rfl) rfl rfl ?_ | refine Zb rfl rfl (.inr rfl) rfl rfl ?_ | refine Za rfl rfl (.inl rfl) rfl ?_ | refine Za rfl rfl (.inr rfl) rfl ?_) | ((first | refine Zn rfl rfl rfl fun K hK => ?_ | refine Zh rfl rfl rfl fun K hK => ?_); go_simp; (try go_bits); (first | refine hK _ _ ?_ | refine hK _ ?_); clear hK K))
    exact ZE rfl rfl ⟨rfl, hb0⟩
  rw [hfew]
  have HFW : Hid (few6 la = true ∧ n ≤ 60) := by
    rw [Bool.and_eq_true, decide_eq_true_eq] at hfew
    exact hfew
  clear hfew
  repeat (first | refine Zv ?_ | refine Zs ?_ | refine Zu ?_ | refine Zc ?_ | refine Zq ?_ | refine Zm ?_ | refine Zp ?_ | refine Zw ?_ | refine Zf ?_ | refine Zd rfl ?_ | refine Zj rfl ?_ | refine Ze ?_ | refine Z3 ?_ | refine Zk ?_ | refine Zg ?_ | refine Zi ?_ | refine Zy rfl ?_ | refine Zx rfl ?_ | refine Zz rfl rfl ?_ | refine Zt rfl rfl rfl rfl ?_ | refine Zr rfl rfl rfl ?_ | (first | refine Zb rfl rfl (.inl rfl) rfl rfl ?_ | refine Zb rfl rfl (.inr rfl) rfl rfl ?_ | refine Za rfl rfl (.inl rfl) rfl ?_ | refine Za rfl rfl (.inr rfl) rfl ?_) | ((first | refine Zn rfl rfl rfl fun K hK => ?_ | refine Zh rfl rfl rfl fun K hK => ?_); go_simp; (try go_bits); (first | refine hK _ _ ?_ | refine hK _ ?_); clear hK K))
  refine Z9 rfl rfl rfl Try.func12 rfl (by kernel_rfl) rfl ?_
  refine Calls.mono (new_any w0) ?_
  rintro e w1 ⟨rfl, hf1, hb1⟩
  refine ⟨_, rfl, ?_⟩
  repeat (first | refine Zv ?_ | refine Zs ?_ | refine Zu ?_ | refine Zc ?_ | refine Zq ?_ | refine Zm ?_ | refine Zp ?_ | refine Zw ?_ | refine Zf ?_ | refine Zd rfl ?_ | refine Zj rfl ?_ | refine Ze ?_ | refine Z3 ?_ | refine Zk ?_ | refine Zg ?_ | refine Zi ?_ | refine Zy rfl ?_ | refine Zx rfl ?_ | refine Zz rfl rfl ?_ | refine Zt rfl rfl rfl rfl ?_ | refine Zr rfl rfl rfl ?_ | (first | refine Zb rfl rfl (.inl rfl) rfl rfl ?_ | refine Zb rfl rfl (.inr rfl) rfl rfl ?_ | refine Za rfl rfl (.inl rfl) rfl ?_ | refine Za rfl rfl (.inr rfl) rfl ?_) | ((first | refine Zn rfl rfl rfl fun K hK => ?_ | refine Zh rfl rfl rfl fun K hK => ?_); go_simp; (try go_bits); (first | refine hK _ _ ?_ | refine hK _ ?_); clear hK K))
  refine Z9 rfl rfl rfl Try.func20 rfl (by kernel_rfl) rfl ?_
  refine Calls.mono (refNew_any w1) ?_
  rintro e w2 ⟨rfl, hf2, hb2⟩
  refine ⟨_, rfl, ?_⟩
  have hD0 := Duo.start w w0 w1 w2 hb0 hf1 hb1 hf2 hb2
  obtain ⟨g, hg⟩ : ∃ g, w0.heap.size = g := ⟨_, rfl⟩
  obtain ⟨x, hx⟩ : ∃ x, w1.heap.size = x := ⟨_, rfl⟩
  rw [hg, hx] at hD0 ⊢
  clear hf1 hb1 hf2 hb2 hg hx hb0
  repeat (first | refine Zv ?_ | refine Zu ?_ | refine Zc ?_ | refine Zq ?_ | refine Zm ?_ | refine Zp ?_ | refine Zw ?_ | refine Zf ?_ | refine Zd rfl ?_ | refine Zj rfl ?_ | refine Ze ?_ | refine Z3 ?_ | refine Zk ?_ | refine Zg ?_ | refine Zi ?_ | refine Zy rfl ?_ | refine Zx rfl ?_ | refine Zz rfl rfl ?_ | refine Zt rfl rfl rfl rfl ?_ | refine Zr rfl rfl rfl ?_ | (first | refine Zb rfl rfl (.inl rfl) rfl rfl ?_ | refine Zb rfl rfl (.inr rfl) rfl rfl ?_ | refine Za rfl rfl (.inl rfl) rfl ?_ | refine Za rfl rfl (.inr rfl) rfl ?_) | ((first | refine Zn rfl rfl rfl fun K hK => ?_ | refine Zh rfl rfl rfl fun K hK => ?_); go_simp; (try go_bits); (first | refine hK _ _ ?_ | refine hK _ ?_); clear hK K))
  refine KW.less [0, 3, 4, 5] ?_
  simp only [nrm, lk, Nat.reduceBEq, cond_true, cond_false]
  refine Zs ?_
  refine Yw (fun mm L W => ∃ i f, i ≤ n ∧ mm = n - i ∧ Hid (Duo w W g x f f) ∧ L = [(0, .slice A n c), (3, .pointer (some ⟨g, 0, none⟩)), (4, .pointer (some ⟨x, 0, none⟩)), (5, .int .i64 (i : Int))]) ⟨0, newF, by omega, rfl, hD0, rfl⟩ ?_
  clear hD0
  rintro mm L W ⟨i, f, hi, rfl, D, rfl⟩
  by_cases hlt : i < n
  case neg =>
    have t1 : decide ((i : Int) < (n : Int)) = false := by rw [decide_eq_false_iff_not]; omega
    have t1n : decide (i < n) = false := decide_eq_false hlt
    clear hlt hi
    repeat (first | refine Zv ?_ | refine Zs ?_ | refine Zu ?_ | refine Zc ?_ | refine Zq ?_ | refine Zm ?_ | refine Zp ?_ | refine Zw ?_ | refine Zf ?_ | refine Zd rfl ?_ | refine Zj rfl ?_ | refine Ze ?_ | refine Z3 ?_ | refine Zk ?_ | refine Zg ?_ | refine Zi ?_ | refine Zy rfl ?_ | refine Zx rfl ?_ | refine Zz rfl rfl ?_ | refine Zt rfl rfl rfl rfl ?_ | refine Zr rfl rfl rfl ?_ | (first | refine Zb rfl rfl (.inl rfl) rfl rfl ?_ | refine Zb rfl rfl (.inr rfl) rfl rfl ?_ | refine Za rfl rfl (.inl rfl) rfl ?_ | refine Za rfl rfl (.inr rfl) rfl ?_) | ((first | refine Zn rfl rfl rfl fun K hK => ?_ | refine Zh rfl rfl rfl fun K hK => ?_); go_simp; (try go_bits); (first | refine hK _ _ ?_ | refine hK _ ?_); clear hK K))
    exact ZE rfl rfl ⟨rfl, D.out.bel⟩
  have t1 : decide ((i : Int) < (n : Int)) = true := by rw [decide_eq_true_eq]; omega
  have t1n : decide (i < n) = true := decide_eq_true hlt
  have u0 : (0 : Int) ≤ i := by omega
  have u1 : (i : Int) < n := by omega
  obtain ⟨i1, hi1⟩ : ∃ i1, i + 1 = i1 := ⟨_, rfl⟩
  have k1 : (i : Int) + 1 = (i1 : Int) := by omega
  have k2 : (0 : Int) ≤ i1 := by omega
  have k3 : (i1 : Int) ≤ 61 := by have := HFW.out.2; omega
  have HI := Lib.hid (And.intro hi1 hlt)
  obtain ⟨gA, oA, a, rfl, hat, _, hgx⟩ := hA.next hlt
  obtain ⟨B, m, d, B2, m2, d2, hr, hB, hmd, hd, hB2, hmd2, hd2⟩ := act6_range hat
  have hr := Lib.hid (fun j v hv => D.out.keeps _ _ (hr j v hv) : W.rangeAt _ _ _)
  have hlen : a.b.length ≤ 200 ∧ a.f.b.length ≤ 40 := by
    have := List.all_eq_true.1 HFW.out.1 _ (List.mem_of_getElem? hgx.out)
    rw [Bool.and_eq_true, decide_eq_true_eq, decide_eq_true_eq] at this
    exact this
  have HB := Lib.hid hB
  have HB2 := Lib.hid hB2
  have HLE := Lib.hid hlen
  have HMD : Hid ((m ≤ d ∧ d ≤ 9223372036854775807) ∧ m2 ≤ d2 ∧ d2 ≤ 9223372036854775807) := ⟨⟨hmd, hd⟩, hmd2, hd2⟩
  clear hat hgx hi1 hlt hi hB hB2 hlen hmd hd hmd2 hd2
  repeat (first | refine Zv ?_ | refine Zs ?_ | refine Zc ?_ | refine Zq ?_ | refine Zm ?_ | refine Zp ?_ | refine Zy rfl ?_ | refine Zx rfl ?_ | refine Zu ?_ | refine Zz rfl rfl ?_ | refine Zt rfl rfl rfl rfl ?_ | refine Y8 69 gA _ _ _ hr.out Try.underlying69 rfl rfl rfl rfl rfl rfl rfl ?_ | (first | refine Zb rfl rfl (.inl rfl) rfl rfl ?_ | refine Zb rfl rfl (.inr rfl) rfl rfl ?_ | refine Za rfl rfl (.inl rfl) rfl ?_ | refine Za rfl rfl (.inr rfl) rfl ?_) | ((first | refine Zn rfl rfl rfl fun K hK => ?_ | refine Zh rfl rfl rfl fun K hK => ?_); go_simp; (try go_bits); (first | refine hK _ _ ?_ | refine hK _ ?_); clear hK K))
  refine Z9 rfl rfl rfl Try.func30 rfl (by kernel_rfl) rfl ?_
  refine Calls.mono (do6_any w W g x f a.kind a.n a.f.kind a.f.s a.f.p a.f.n B B2 m d m2 d2 a.b a.f.b D.out HB.out HMD.out.1.1 HMD.out.1.2 HB2.out HMD.out.2.1 HMD.out.2.2 HLE.out.1 HLE.out.2) ?_
  rintro e w3 ⟨rfl, f2, D2⟩
  refine ⟨_, rfl, ?_⟩
  have D2 := Lib.hid D2
  clear hr D t1 t1n u0 u1
  repeat (first | refine Zv ?_ | refine Zs ?_ | refine Zc ?_ | refine Zq ?_ | refine Zm ?_ | refine Zp ?_ | refine Zy rfl ?_ | refine Zx rfl ?_ | refine Zu ?_ | refine Zz rfl rfl ?_ | refine Zt rfl rfl rfl rfl ?_ | (first | refine Zb rfl rfl (.inl rfl) rfl rfl ?_ | refine Zb rfl rfl (.inr rfl) rfl rfl ?_ | refine Za rfl rfl (.inl rfl) rfl ?_ | refine Za rfl rfl (.inr rfl) rfl ?_) | ((first | refine Zn rfl rfl rfl fun K hK => ?_ | refine Zh rfl rfl rfl fun K hK => ?_); go_simp; (try go_bits); (first | refine hK _ _ ?_ | refine hK _ ?_); clear hK K))
  refine Z9 rfl rfl rfl Try.func31 rfl (by kernel_rfl) rfl ?_
  refine Calls.mono (same_any (NeQ g x) (NeQ g x) g x f2 w3 D2.out.fs D2.out.rf) ?_
  rintro e w4 ⟨rfl, hb4⟩
  refine ⟨_, rfl, ?_⟩
  have D3 := Lib.hid (D2.out.next hb4)
  clear D2 hb4
  repeat (first | refine Zv ?_ | refine Zs ?_ | refine Zc ?_ | refine Zq ?_ | refine Zm ?_ | refine Zp ?_ | refine Zy rfl ?_ | refine Zx rfl ?_ | refine Zu ?_ | refine Zz rfl rfl ?_ | refine Zt rfl rfl rfl rfl ?_ | (first | refine Zb rfl rfl (.inl rfl) rfl rfl ?_ | refine Zb rfl rfl (.inr rfl) rfl rfl ?_ | refine Za rfl rfl (.inl rfl) rfl ?_ | refine Za rfl rfl (.inr rfl) rfl ?_) | ((first | refine Zn rfl rfl rfl fun K hK => ?_ | refine Zh rfl rfl rfl fun K hK => ?_); go_simp; (try go_bits); (first | refine hK _ _ ?_ | refine hK _ ?_); clear hK K))
  refine Z9 rfl rfl rfl Try.func32 rfl (by kernel_rfl) rfl ?_
  refine Calls.mono (boots_any (NeQ g x) (NeQ g x) g x f2 w4 D3.out.fs D3.out.rf) ?_
  rintro e w5 ⟨rfl, hb5⟩
  refine ⟨_, rfl, ?_⟩
  have D4 := Lib.hid (D3.out.next hb5)
  clear D3 hb5
  repeat (first | refine Zv ?_ | refine Zs ?_ | refine Zc ?_ | refine Zq ?_ | refine Zm ?_ | refine Zp ?_ | refine Zy rfl ?_ | refine Zx rfl ?_ | refine Zu ?_ | refine Zz rfl rfl ?_ | refine Zt rfl rfl rfl rfl ?_ | (first | refine Zb rfl rfl (.inl rfl) rfl rfl ?_ | refine Zb rfl rfl (.inr rfl) rfl rfl ?_ | refine Za rfl rfl (.inl rfl) rfl ?_ | refine Za rfl rfl (.inr rfl) rfl ?_) | ((first | refine Zn rfl rfl rfl fun K hK => ?_ | refine Zh rfl rfl rfl fun K hK => ?_); go_simp; (try go_bits); (first | refine hK _ _ ?_ | refine hK _ ?_); clear hK K))
  refine Yk (n - i1) [0, 3, 4, 5] (by have := HI.out; omega) ?_
  exact ⟨i1, f2, by have := HI.out; omega, rfl, D4, rfl⟩
end Go.Proofs.Ytkncomkncfcecaa
