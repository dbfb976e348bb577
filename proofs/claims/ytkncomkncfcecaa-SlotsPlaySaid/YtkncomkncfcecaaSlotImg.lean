/- The image of an entry: image (the code's), stored (the document's). -/
import Derived.Test.YtkncomkncfcecaaKnV
import Derived.Test.YtkncomkncfcecaaRecLoad
import Derived.Test.YtkncomkncfcecaaRecLoadR
import Derived.Test.YtkncomkncfcecaaRs
import Derived.Test.YtkncomkncfcecaaShaSum
import Derived.Test.YtkncomkncfcecaaShaRef
import Derived.Test.YtkncomkncfcecaaSlotAll
set_option linter.unusedVariables false
set_option linter.unusedSimpArgs false
namespace Go.Proofs.Ytkncomkncfcecaa
open Go.RowKit
attribute [local go_sem] Y1 Yl Yp ZT Yy Yo ZI ZO Yi ZN ZH ZU Ya
def ImgP (f : FlashSt) (e : EntS) (w : World) (r : Ending) (w' : World) : Prop := ∃ A n c, r = .returned (.tuple #[.slice A n c, .bool (imageP f e).2]) ∧ Bs w' A n (imageP f e).1 ∧ n ≤ c ∧ c ≤ 9223372036854775807 ∧ TyB w' A ∧ Below w.heap.size w w'
theorem XY (w : World) : TyB w none := fun b o e => by cases e
theorem img_2 (f : FlashSt) (e : EntS) (h : e.slot = 2) : imageP f e = ([], true) := by unfold imageP; rw [if_pos h]
theorem img_nil (f : FlashSt) (e : EntS) (h : e.slot ≠ 2) (hl : (loadR (readF f (2 + e.slot))).1 = []) : imageP f e = ([], false) := by unfold imageP; rw [if_neg h, hl]
theorem img_no (f : FlashSt) (e : EntS) (h : e.slot ≠ 2) {x : List UInt8} {l : List (List UInt8)} (hl : (loadR (readF f (2 + e.slot))).1 = x :: l) (hs : sha x ≠ e.sum) : imageP f e = ([], false) := by unfold imageP; rw [if_neg h, hl]; simp only; rw [if_neg hs]
theorem img_yes (f : FlashSt) (e : EntS) (h : e.slot ≠ 2) {x : List UInt8} {l : List (List UInt8)} (hl : (loadR (readF f (2 + e.slot))).1 = x :: l) (hs : sha x = e.sum) : imageP f e = (x, true) := by unfold imageP; rw [if_neg h, hl]; simp only; rw [if_pos hs]
theorem ent_range {w : World} {b : Nat} {e : EntS} {t : TypeId} (h : w.heap[b]? = some (.cells (entC e).toArray t (0, 0))) : w.rangeAt b 2 (bv e.sum) := fun j u hu => Z4 h (by rw [List.getElem?_toArray, ent_sum]; exact hu)
set_option maxRecDepth 100000 in
set_option maxHeartbeats 4000000 in
theorem image_any (Q : Nat → Prop) (g : Nat) (f : FlashSt) (e : EntS) (w : World) (h : FS Q w g f) (hG : GoodE e) : Calls Try.prog 38 #[.pointer (some ⟨g, 0, none⟩), .agg (entC e).toArray] w (ImgP f e w) := by
  have hsl := hG.slot
  have HSM := Lib.hid hG.sum
  refine ZZ Try.func38 rfl Try.ntmps38 rfl [(0, .pointer (some ⟨g, 0, none⟩)), (1, .agg (entC e).toArray)] rfl ?_
  refine Zv ?_
  refine Zc ?_
  refine Xx (Lay.start w) rfl rfl rfl rfl rfl ?_
  intro b3 w1 hb3 hb1 hL
  clear hb3
  have h1 := h.below hb1
  have c1 := hL.get (j := 1) 0 rfl (ent_1 e)
  obtain ⟨sl, hsl'⟩ : ∃ sl, e.slot = sl := ⟨_, rfl⟩
  rw [hsl'] at c1 hsl
  have HSL := Lib.hid hsl'
  clear hb1 hsl'
  by_cases h2 : sl = 2
  case pos =>
    subst h2
    have HE := Lib.hid (img_2 f e HSL.out)
    have t1 : ((2 : Int) == 2) = true := rfl
    repeat (first | refine Zv ?_ | refine Zs ?_ | refine Zu ?_ | refine Zc ?_ | refine Zq ?_ | refine Zm ?_ | refine Zp ?_ | refine Zw ?_ | refine Zf ?_ | refine Zd rfl ?_ | refine Zj rfl ?_ | refine Ze ?_ | refine Z3 ?_ | refine Zk ?_ | refine Zg ?_ | refine Zi ?_ | refine Zy rfl ?_ | refine Zx rfl ?_ | refine Zz rfl rfl ?_ | refine Zt rfl rfl rfl rfl ?_ | refine Zr rfl rfl rfl ?_ | (first | refine Zb rfl rfl (.inl rfl) rfl rfl ?_ | refine Zb rfl rfl (.inr rfl) rfl rfl ?_ | refine Za rfl rfl (.inl rfl) rfl ?_ | refine Za rfl rfl (.inr rfl) rfl ?_) | ((first | refine Zn rfl rfl rfl fun K hK => ?_ | refine Zh rfl rfl rfl fun K hK => ?_); go_simp; (try go_bits); (first | refine hK _ _ ?_ | refine hK _ ?_); clear hK K))
    exact YN rfl rfl rfl ⟨none, 0, 0, by rw [HE.out], by rw [HE.out]; exact Bs.nil _ _, Nat.le_refl _, by omega, XY _, hL.below⟩
  have t1 : (sl == 2) = false := beq_eq_false_iff_ne.2 h2
  obtain ⟨k, hk⟩ : ∃ k, 2 + sl = k := ⟨_, rfl⟩
  have HK : Hid (2 + e.slot = k) := by show _ = _; rw [HSL.out]; exact hk
  have k1 : -9223372036854775808 ≤ k := by omega
  have k2 : k ≤ 9223372036854775807 := by omega
  have HNE : Hid (e.slot ≠ 2) := by show _ ≠ _; rw [HSL.out]; exact h2
  clear h2
  repeat (first | refine Zv ?_ | refine Zs ?_ | refine Zu ?_ | refine Zc ?_ | refine Zq ?_ | refine Zm ?_ | refine Zp ?_ | refine Zw ?_ | refine Zf ?_ | refine Zd rfl ?_ | refine Zj rfl ?_ | refine Ze ?_ | refine Z3 ?_ | refine Zk ?_ | refine Zg ?_ | refine Zi ?_ | refine Zy rfl ?_ | refine Zx rfl ?_ | refine Zz rfl rfl ?_ | refine Zt rfl rfl rfl rfl ?_ | refine Zr rfl rfl rfl ?_ | (first | refine Zb rfl rfl (.inl rfl) rfl rfl ?_ | refine Zb rfl rfl (.inr rfl) rfl rfl ?_ | refine Za rfl rfl (.inl rfl) rfl ?_ | refine Za rfl rfl (.inr rfl) rfl ?_) | ((first | refine Zn rfl rfl rfl fun K hK => ?_ | refine Zh rfl rfl rfl fun K hK => ?_); go_simp; (try go_bits); (first | refine hK _ _ ?_ | refine hK _ ?_); clear hK K))
  refine Z9 rfl rfl rfl Try.func52 rfl (by kernel_rfl) rfl ?_
  refine Calls.mono (load_anyT Q g f k w1 h1) ?_
  rintro e w3 ⟨B0, A2, n2, c2, xs2, rfl, ho2, hy2, hn2, hc2, hb3⟩
  refine ⟨_, rfl, ?_⟩
  have hL3 := hL.next hb3
  have r3 := Lib.hid (ent_range (hL3.at_ 0 rfl))
  clear hL hb3 c1 h1
  obtain ⟨R, hR⟩ : ∃ R, (loadR (readF f k)).1 = R := ⟨_, rfl⟩
  have hshort := XV (readF f k)
  rw [hR] at hy2 hshort
  have hp2 : PsT w3 A2 n2 R := ⟨B0, c2, xs2, ho2, hy2⟩
  clear ho2 hy2
  have HR : Hid ((loadR (readF f (2 + e.slot))).1 = R) := by show _ = _; rw [HK.out]; exact hR
  have hl2 := hp2.ps.len
  clear hR
  repeat (first | refine Zv ?_ | refine Zq ?_ | refine Zm ?_ | (first | refine Zb rfl rfl (.inl rfl) rfl rfl ?_ | refine Zb rfl rfl (.inr rfl) rfl rfl ?_ | refine Za rfl rfl (.inl rfl) rfl ?_ | refine Za rfl rfl (.inr rfl) rfl ?_) | ((first | refine Zn rfl rfl rfl fun K hK => ?_ | refine Zh rfl rfl rfl fun K hK => ?_); go_simp; (try go_bits); (first | refine hK _ _ ?_ | refine hK _ ?_); clear hK K))
  have hbd : Below w3.heap.size w3 w3.drew := (Below.refl _ _).drew
  have hLd := hL3.next hbd
  cases R with
  | nil =>
    obtain rfl : n2 = 0 := by rw [← hl2]; rfl
    have HE := Lib.hid (img_nil f e HNE.out HR.out)
    have t2 : (((0 : Nat) : Int) == 0) = true := rfl
    clear hshort hp2
    refine ZX (Below w3.heap.size w3) [true, true, true, true, true, true, true, false, false, true, true, true, true] (by kernel_rfl) (by kernel_rfl) hbd ?_
    repeat (first | refine Ym ?_ | refine ZM rfl rfl rfl rfl ?_ | refine kf_skipc rfl rfl rfl rfl hbd ?_ | (first | refine Z5 rfl rfl (.inl rfl) rfl rfl ?_ | refine Z5 rfl rfl (.inr rfl) rfl rfl ?_ | refine Z2 rfl rfl (.inl rfl) rfl ?_ | refine Z2 rfl rfl (.inr rfl) rfl ?_) | (refine Yf rfl rfl rfl ?_; apply Exists.intro; refine And.intro (fun W hW N hN => ?_) ?_; · (go_simp; (try go_bits); exact hN)))
    refine Zm ?_
    repeat (first | refine Zv ?_ | refine Zs ?_ | refine Zu ?_ | refine Zc ?_ | refine Zq ?_ | refine Zm ?_ | refine Zp ?_ | refine Zw ?_ | refine Zf ?_ | refine Zd rfl ?_ | refine Zj rfl ?_ | refine Ze ?_ | refine Z3 ?_ | refine Zk ?_ | refine Zg ?_ | refine Zi ?_ | refine Zy rfl ?_ | refine Zx rfl ?_ | refine Zz rfl rfl ?_ | refine Zt rfl rfl rfl rfl ?_ | refine Zr rfl rfl rfl ?_ | (first | refine Zb rfl rfl (.inl rfl) rfl rfl ?_ | refine Zb rfl rfl (.inr rfl) rfl rfl ?_ | refine Za rfl rfl (.inl rfl) rfl ?_ | refine Za rfl rfl (.inr rfl) rfl ?_) | ((first | refine Zn rfl rfl rfl fun K hK => ?_ | refine Zh rfl rfl rfl fun K hK => ?_); go_simp; (try go_bits); (first | refine hK _ _ ?_ | refine hK _ ?_); clear hK K))
    exact YN rfl rfl rfl ⟨none, 0, 0, by rw [HE.out], by rw [HE.out]; exact Bs.nil _ _, Nat.le_refl _, by omega, XY _, hLd.below⟩
  | cons x R =>
    have hn0 : 0 < n2 := by rw [← hl2]; simp
    obtain ⟨bA, oA, B, m, c, l, rfl, hcell, hB, hm, hc, hty, hgx⟩ := hp2.next (k := 0) hn0
    obtain rfl : l = x := by have := hgx; simp at this; exact this.symm
    rw [Nat.add_zero] at hcell
    have hlen : l.length ≤ 65535 := hshort l (by simp)
    have hml := hB.len
    have r1 := fun W (h : Below w3.heap.size w3 W) => Keeps.of_below h _ _ hcell
    have hBW := fun W (h : Below w3.heap.size w3 W) => hB.keep (Keeps.of_below h)
    have hrW := fun W (h : Below w3.heap.size w3 W) => YC r3.out h
    have t2 : ((n2 : Int) == 0) = false := by rw [beq_eq_false_iff_ne]; omega
    have u1 : (0 : Int) < n2 := by omega
    have HBW := Lib.hid hBW
    have HTY := Lib.hid (fun W (h : Below w3.heap.size w3 W) => hty.below h)
    have HRW := Lib.hid hrW
    have HML := Lib.hid (And.intro hml hlen)
    have hc0 := hcell
    clear hp2 hshort hcell hB hBW hrW hml hlen hty
    by_cases hs : sha l = e.sum
    · have he : ∀ W, (Op.equalIn 10000 29 (.agg (bv (sha l)).toArray) (.agg (bv e.sum).toArray)).run Try.prog W = .ok true W := fun W => by rw [eqH W _ _ (Xv _) HSM.out, hs, beq_self_eq_true]
      have HE := Lib.hid (img_yes f e HNE.out HR.out hs)
      clear hs
      refine ZX (Below w3.heap.size w3) [true, true, true, true, true, true, true, false, false, true, true, true, true] (by kernel_rfl) (by kernel_rfl) hbd ?_
      have hbd2 := hbd
      generalize w3.drew = w4 at hbd2 hLd ⊢
      repeat (first | refine Yj rfl rfl ?_ | (first | refine Z5 rfl rfl (.inl rfl) rfl rfl ?_ | refine Z5 rfl rfl (.inr rfl) rfl rfl ?_ | refine Z2 rfl rfl (.inl rfl) rfl ?_ | refine Z2 rfl rfl (.inr rfl) rfl ?_) | (refine Yf rfl rfl rfl ?_; apply Exists.intro; refine And.intro (fun W hW N hN => ?_) ?_; · (go_simp; (try go_bits); exact hN)))
      refine YT ?_
      (try refine Zz rfl rfl ?_)
      ((first | refine Zn rfl rfl rfl fun K hK => ?_ | refine Zh rfl rfl rfl fun K hK => ?_); go_simp; (try go_bits); (first | refine hK _ _ ?_ | refine hK _ ?_); clear hK K)
      have hP : Ps (w4.alloc (.cells #[.slice B m c] 32)) (some ⟨w4.heap.size, 0, none⟩) 1 [l] := Ps.lit1 32 rfl (HBW.out w4 hbd2) hm hc
      have hb5 : Below w3.heap.size w3 (w4.alloc (.cells #[.slice B m c] 32)) := hbd2.alloc hbd2.size _
      refine Zq ?_
      generalize w4.alloc (.cells #[.slice B m c] 32) = w5 at hP hb5 ⊢
      refine kq_f hb5 ?_
      repeat (first | refine Yj rfl rfl ?_ | (first | refine Z5 rfl rfl (.inl rfl) rfl rfl ?_ | refine Z5 rfl rfl (.inr rfl) rfl rfl ?_ | refine Z2 rfl rfl (.inl rfl) rfl ?_ | refine Z2 rfl rfl (.inr rfl) rfl ?_) | (refine Yf rfl rfl rfl ?_; apply Exists.intro; refine And.intro (fun W hW N hN => ?_) ?_; · (go_simp; (try go_bits); exact hN)))
      refine YT ?_
      (try refine Zz rfl rfl ?_)
      refine Z9 rfl rfl rfl Try.func64 rfl (by kernel_rfl) rfl ?_
      refine Calls.mono (shaSum_any _ 1 1 [l] w5 hP (by omega) (by simp; have := HML.out; omega)) ?_
      rintro e9 w6 ⟨rfl, hb6⟩
      refine ⟨_, rfl, ?_⟩
      rw [show [l].flatten = l by simp]
      have hbd3 := Z1 hb5 hb6 hb5.size
      clear hb5 hb6 hP
      refine Zq ?_
      refine kq_f hbd3 ?_
      repeat (first | refine Yj rfl rfl ?_ | refine Wc (cs := bv e.sum) (b := b3) (off := 2) HRW.out Try.underlying29 rfl (hashSize _ HSM.out) rfl rfl rfl rfl rfl ?_ | (first | refine Z5 rfl rfl (.inl rfl) rfl rfl ?_ | refine Z5 rfl rfl (.inr rfl) rfl rfl ?_ | refine Z2 rfl rfl (.inl rfl) rfl ?_ | refine Z2 rfl rfl (.inr rfl) rfl ?_) | (refine Yf rfl rfl rfl ?_; apply Exists.intro; refine And.intro (fun W hW N hN => ?_) ?_; · (go_simp; (try go_bits); exact hN)))
      refine Ym ?_
      refine Zm ?_
      have r9 := r1 _ hbd3
      have hB9 := Lib.hid (HBW.out _ hbd3)
      have HT9 := Lib.hid (HTY.out _ hbd3)
      have HB9 := Lib.hid (Z1 hL3.below hbd3 hL3.below.size)
      clear r1 hbd3 he
      repeat (first | refine Zv ?_ | refine Zs ?_ | refine Zu ?_ | refine Zc ?_ | refine Zq ?_ | refine Zm ?_ | refine Zp ?_ | refine Zw ?_ | refine Zf ?_ | refine Zd rfl ?_ | refine Zj rfl ?_ | refine Ze ?_ | refine Z3 ?_ | refine Zk ?_ | refine Zg ?_ | refine Zi ?_ | refine Zy rfl ?_ | refine Zx rfl ?_ | refine Zz rfl rfl ?_ | refine Zt rfl rfl rfl rfl ?_ | refine Zr rfl rfl rfl ?_ | (first | refine Zb rfl rfl (.inl rfl) rfl rfl ?_ | refine Zb rfl rfl (.inr rfl) rfl rfl ?_ | refine Za rfl rfl (.inl rfl) rfl ?_ | refine Za rfl rfl (.inr rfl) rfl ?_) | ((first | refine Zn rfl rfl rfl fun K hK => ?_ | refine Zh rfl rfl rfl fun K hK => ?_); go_simp; (try go_bits); (first | refine hK _ _ ?_ | refine hK _ ?_); clear hK K))
      exact YN rfl rfl rfl ⟨B, m, c, by rw [HE.out], by rw [HE.out]; exact hB9.out, hm, hc, HT9.out, HB9.out⟩
    · have he : ∀ W, (Op.equalIn 10000 29 (.agg (bv (sha l)).toArray) (.agg (bv e.sum).toArray)).run Try.prog W = .ok false W := fun W => by rw [eqH W _ _ (Xv _) HSM.out, beq_eq_false_iff_ne.2 hs]
      have HE := Lib.hid (img_no f e HNE.out HR.out hs)
      clear hs
      refine ZX (Below w3.heap.size w3) [true, true, true, true, true, true, true, false, false, true, true, true, true] (by kernel_rfl) (by kernel_rfl) hbd ?_
      have hbd2 := hbd
      generalize w3.drew = w4 at hbd2 hLd ⊢
      repeat (first | refine Yj rfl rfl ?_ | (first | refine Z5 rfl rfl (.inl rfl) rfl rfl ?_ | refine Z5 rfl rfl (.inr rfl) rfl rfl ?_ | refine Z2 rfl rfl (.inl rfl) rfl ?_ | refine Z2 rfl rfl (.inr rfl) rfl ?_) | (refine Yf rfl rfl rfl ?_; apply Exists.intro; refine And.intro (fun W hW N hN => ?_) ?_; · (go_simp; (try go_bits); exact hN)))
      refine YT ?_
      (try refine Zz rfl rfl ?_)
      ((first | refine Zn rfl rfl rfl fun K hK => ?_ | refine Zh rfl rfl rfl fun K hK => ?_); go_simp; (try go_bits); (first | refine hK _ _ ?_ | refine hK _ ?_); clear hK K)
      have hP : Ps (w4.alloc (.cells #[.slice B m c] 32)) (some ⟨w4.heap.size, 0, none⟩) 1 [l] := Ps.lit1 32 rfl (HBW.out w4 hbd2) hm hc
      have hb5 : Below w3.heap.size w3 (w4.alloc (.cells #[.slice B m c] 32)) := hbd2.alloc hbd2.size _
      refine Zq ?_
      generalize w4.alloc (.cells #[.slice B m c] 32) = w5 at hP hb5 ⊢
      refine kq_f hb5 ?_
      repeat (first | refine Yj rfl rfl ?_ | (first | refine Z5 rfl rfl (.inl rfl) rfl rfl ?_ | refine Z5 rfl rfl (.inr rfl) rfl rfl ?_ | refine Z2 rfl rfl (.inl rfl) rfl ?_ | refine Z2 rfl rfl (.inr rfl) rfl ?_) | (refine Yf rfl rfl rfl ?_; apply Exists.intro; refine And.intro (fun W hW N hN => ?_) ?_; · (go_simp; (try go_bits); exact hN)))
      refine YT ?_
      (try refine Zz rfl rfl ?_)
      refine Z9 rfl rfl rfl Try.func64 rfl (by kernel_rfl) rfl ?_
      refine Calls.mono (shaSum_any _ 1 1 [l] w5 hP (by omega) (by simp; have := HML.out; omega)) ?_
      rintro e9 w6 ⟨rfl, hb6⟩
      refine ⟨_, rfl, ?_⟩
      rw [show [l].flatten = l by simp]
      have hbd3 := Z1 hb5 hb6 hb5.size
      clear hb5 hb6 hP
      refine Zq ?_
      refine kq_f hbd3 ?_
      repeat (first | refine Yj rfl rfl ?_ | refine Wc (cs := bv e.sum) (b := b3) (off := 2) HRW.out Try.underlying29 rfl (hashSize _ HSM.out) rfl rfl rfl rfl rfl ?_ | (first | refine Z5 rfl rfl (.inl rfl) rfl rfl ?_ | refine Z5 rfl rfl (.inr rfl) rfl rfl ?_ | refine Z2 rfl rfl (.inl rfl) rfl ?_ | refine Z2 rfl rfl (.inr rfl) rfl ?_) | (refine Yf rfl rfl rfl ?_; apply Exists.intro; refine And.intro (fun W hW N hN => ?_) ?_; · (go_simp; (try go_bits); exact hN)))
      refine Ym ?_
      refine Zm ?_
      have HB9 := Lib.hid (Z1 hL3.below hbd3 hL3.below.size)
      clear r1 hbd3 he
      repeat (first | refine Zv ?_ | refine Zs ?_ | refine Zu ?_ | refine Zc ?_ | refine Zq ?_ | refine Zm ?_ | refine Zp ?_ | refine Zw ?_ | refine Zf ?_ | refine Zd rfl ?_ | refine Zj rfl ?_ | refine Ze ?_ | refine Z3 ?_ | refine Zk ?_ | refine Zg ?_ | refine Zi ?_ | refine Zy rfl ?_ | refine Zx rfl ?_ | refine Zz rfl rfl ?_ | refine Zt rfl rfl rfl rfl ?_ | refine Zr rfl rfl rfl ?_ | (first | refine Zb rfl rfl (.inl rfl) rfl rfl ?_ | refine Zb rfl rfl (.inr rfl) rfl rfl ?_ | refine Za rfl rfl (.inl rfl) rfl ?_ | refine Za rfl rfl (.inr rfl) rfl ?_) | ((first | refine Zn rfl rfl rfl fun K hK => ?_ | refine Zh rfl rfl rfl fun K hK => ?_); go_simp; (try go_bits); (first | refine hK _ _ ?_ | refine hK _ ?_); clear hK K))
      exact YN rfl rfl rfl ⟨none, 0, 0, by rw [HE.out], by rw [HE.out]; exact Bs.nil _ _, Nat.le_refl _, by omega, XY _, HB9.out⟩
set_option maxRecDepth 100000 in
set_option maxHeartbeats 4000000 in
theorem stored_any (Q : Nat → Prop) (g : Nat) (f : FlashSt) (e : EntS) (w : World) (h : RF Q w g f) (hG : GoodE e) : Calls Try.prog 47 #[.pointer (some ⟨g, 0, none⟩), .agg (entC e).toArray] w (ImgP f e w) := by
  have hsl := hG.slot
  have HSM := Lib.hid hG.sum
  refine ZZ Try.func47 rfl Try.ntmps47 rfl [(0, .pointer (some ⟨g, 0, none⟩)), (1, .agg (entC e).toArray)] rfl ?_
  refine Zv ?_
  refine Zc ?_
  refine Xx (Lay.start w) rfl rfl rfl rfl rfl ?_
  intro b3 w1 hb3 hb1 hL
  clear hb3
  have h1 := h.below hb1
  have c1 := hL.get (j := 1) 0 rfl (ent_1 e)
  obtain ⟨sl, hsl'⟩ : ∃ sl, e.slot = sl := ⟨_, rfl⟩
  rw [hsl'] at c1 hsl
  have HSL := Lib.hid hsl'
  clear hb1 hsl'
  by_cases h2 : sl = 2
  case pos =>
    subst h2
    have HE := Lib.hid (img_2 f e HSL.out)
    have t1 : ((2 : Int) == 2) = true := rfl
    repeat (first | refine Zv ?_ | refine Zs ?_ | refine Zu ?_ | refine Zc ?_ | refine Zq ?_ | refine Zm ?_ | refine Zp ?_ | refine Zw ?_ | refine Zf ?_ | refine Zd rfl ?_ | refine Zj rfl ?_ | refine Ze ?_ | refine Z3 ?_ | refine Zk ?_ | refine Zg ?_ | refine Zi ?_ | refine Zy rfl ?_ | refine Zx rfl ?_ | refine Zz rfl rfl ?_ | refine Zt rfl rfl rfl rfl ?_ | refine Zr rfl rfl rfl ?_ | (first | refine Zb rfl rfl (.inl rfl) rfl rfl ?_ | refine Zb rfl rfl (.inr rfl) rfl rfl ?_ | refine Za rfl rfl (.inl rfl) rfl ?_ | refine Za rfl rfl (.inr rfl) rfl ?_) | ((first | refine Zn rfl rfl rfl fun K hK => ?_ | refine Zh rfl rfl rfl fun K hK => ?_); go_simp; (try go_bits); (first | refine hK _ _ ?_ | refine hK _ ?_); clear hK K))
    exact YN rfl rfl rfl ⟨none, 0, 0, by rw [HE.out], by rw [HE.out]; exact Bs.nil _ _, Nat.le_refl _, by omega, XY _, hL.below⟩
  have t1 : (sl == 2) = false := beq_eq_false_iff_ne.2 h2
  obtain ⟨k, hk⟩ : ∃ k, 2 + sl = k := ⟨_, rfl⟩
  have HK : Hid (2 + e.slot = k) := by show _ = _; rw [HSL.out]; exact hk
  have k1 : -9223372036854775808 ≤ k := by omega
  have k2 : k ≤ 9223372036854775807 := by omega
  have HNE : Hid (e.slot ≠ 2) := by show _ ≠ _; rw [HSL.out]; exact h2
  clear h2
  repeat (first | refine Zv ?_ | refine Zs ?_ | refine Zu ?_ | refine Zc ?_ | refine Zq ?_ | refine Zm ?_ | refine Zp ?_ | refine Zw ?_ | refine Zf ?_ | refine Zd rfl ?_ | refine Zj rfl ?_ | refine Ze ?_ | refine Z3 ?_ | refine Zk ?_ | refine Zg ?_ | refine Zi ?_ | refine Zy rfl ?_ | refine Zx rfl ?_ | refine Zz rfl rfl ?_ | refine Zt rfl rfl rfl rfl ?_ | refine Zr rfl rfl rfl ?_ | (first | refine Zb rfl rfl (.inl rfl) rfl rfl ?_ | refine Zb rfl rfl (.inr rfl) rfl rfl ?_ | refine Za rfl rfl (.inl rfl) rfl ?_ | refine Za rfl rfl (.inr rfl) rfl ?_) | ((first | refine Zn rfl rfl rfl fun K hK => ?_ | refine Zh rfl rfl rfl fun K hK => ?_); go_simp; (try go_bits); (first | refine hK _ _ ?_ | refine hK _ ?_); clear hK K))
  refine Z9 rfl rfl rfl Try.func66 rfl (by kernel_rfl) rfl ?_
  refine Calls.mono (loadR_anyT Q g f k w1 h1 ⟨k1, k2⟩) ?_
  rintro e w3 ⟨B0, A2, n2, c2, xs2, rfl, ho2, hy2, hn2, hc2, hb3⟩
  refine ⟨_, rfl, ?_⟩
  have hL3 := hL.next hb3
  have r3 := Lib.hid (ent_range (hL3.at_ 0 rfl))
  clear hL hb3 c1 h1
  obtain ⟨R, hR⟩ : ∃ R, (loadR (readF f k)).1 = R := ⟨_, rfl⟩
  have hshort := XV (readF f k)
  rw [hR] at hy2 hshort
  have hp2 : PsT w3 A2 n2 R := ⟨B0, c2, xs2, ho2, hy2⟩
  clear ho2 hy2
  have HR : Hid ((loadR (readF f (2 + e.slot))).1 = R) := by show _ = _; rw [HK.out]; exact hR
  have hl2 := hp2.ps.len
  clear hR
  repeat (first | refine Zv ?_ | refine Zq ?_ | refine Zm ?_ | (first | refine Zb rfl rfl (.inl rfl) rfl rfl ?_ | refine Zb rfl rfl (.inr rfl) rfl rfl ?_ | refine Za rfl rfl (.inl rfl) rfl ?_ | refine Za rfl rfl (.inr rfl) rfl ?_) | ((first | refine Zn rfl rfl rfl fun K hK => ?_ | refine Zh rfl rfl rfl fun K hK => ?_); go_simp; (try go_bits); (first | refine hK _ _ ?_ | refine hK _ ?_); clear hK K))
  have hbd : Below w3.heap.size w3 w3.drew := (Below.refl _ _).drew
  have hLd := hL3.next hbd
  cases R with
  | nil =>
    obtain rfl : n2 = 0 := by rw [← hl2]; rfl
    have HE := Lib.hid (img_nil f e HNE.out HR.out)
    have t2 : (((0 : Nat) : Int) == 0) = true := rfl
    clear hshort hp2
    refine ZX (Below w3.heap.size w3) [true, true, true, true, true, true, true, false, true, true, true, true] (by kernel_rfl) (by kernel_rfl) hbd ?_
    repeat (first | refine Ym ?_ | refine ZM rfl rfl rfl rfl ?_ | refine kf_skipc rfl rfl rfl rfl hbd ?_ | (first | refine Z5 rfl rfl (.inl rfl) rfl rfl ?_ | refine Z5 rfl rfl (.inr rfl) rfl rfl ?_ | refine Z2 rfl rfl (.inl rfl) rfl ?_ | refine Z2 rfl rfl (.inr rfl) rfl ?_) | (refine Yf rfl rfl rfl ?_; apply Exists.intro; refine And.intro (fun W hW N hN => ?_) ?_; · (go_simp; (try go_bits); exact hN)))
    refine Zm ?_
    repeat (first | refine Zv ?_ | refine Zs ?_ | refine Zu ?_ | refine Zc ?_ | refine Zq ?_ | refine Zm ?_ | refine Zp ?_ | refine Zw ?_ | refine Zf ?_ | refine Zd rfl ?_ | refine Zj rfl ?_ | refine Ze ?_ | refine Z3 ?_ | refine Zk ?_ | refine Zg ?_ | refine Zi ?_ | refine Zy rfl ?_ | refine Zx rfl ?_ | refine Zz rfl rfl ?_ | refine Zt rfl rfl rfl rfl ?_ | refine Zr rfl rfl rfl ?_ | (first | refine Zb rfl rfl (.inl rfl) rfl rfl ?_ | refine Zb rfl rfl (.inr rfl) rfl rfl ?_ | refine Za rfl rfl (.inl rfl) rfl ?_ | refine Za rfl rfl (.inr rfl) rfl ?_) | ((first | refine Zn rfl rfl rfl fun K hK => ?_ | refine Zh rfl rfl rfl fun K hK => ?_); go_simp; (try go_bits); (first | refine hK _ _ ?_ | refine hK _ ?_); clear hK K))
    exact YN rfl rfl rfl ⟨none, 0, 0, by rw [HE.out], by rw [HE.out]; exact Bs.nil _ _, Nat.le_refl _, by omega, XY _, hLd.below⟩
  | cons x R =>
    have hn0 : 0 < n2 := by rw [← hl2]; simp
    obtain ⟨bA, oA, B, m, c, l, rfl, hcell, hB, hm, hc, hty, hgx⟩ := hp2.next (k := 0) hn0
    obtain rfl : l = x := by have := hgx; simp at this; exact this.symm
    rw [Nat.add_zero] at hcell
    have hlen : l.length ≤ 65535 := hshort l (by simp)
    have hml := hB.len
    have r1 := fun W (h : Below w3.heap.size w3 W) => Keeps.of_below h _ _ hcell
    have hBW := fun W (h : Below w3.heap.size w3 W) => hB.keep (Keeps.of_below h)
    have hrW := fun W (h : Below w3.heap.size w3 W) => YC r3.out h
    have t2 : ((n2 : Int) == 0) = false := by rw [beq_eq_false_iff_ne]; omega
    have u1 : (0 : Int) < n2 := by omega
    have HBW := Lib.hid hBW
    have HTY := Lib.hid (fun W (h : Below w3.heap.size w3 W) => hty.below h)
    have HRW := Lib.hid hrW
    have HML := Lib.hid (And.intro hml hlen)
    have hc0 := hcell
    clear hp2 hshort hcell hB hBW hrW hml hlen hty
    by_cases hs : sha l = e.sum
    · have he : ∀ W, (Op.equalIn 10000 29 (.agg (bv (sha l)).toArray) (.agg (bv e.sum).toArray)).run Try.prog W = .ok true W := fun W => by rw [eqH W _ _ (Xv _) HSM.out, hs, beq_self_eq_true]
      have HE := Lib.hid (img_yes f e HNE.out HR.out hs)
      clear hs
      refine ZX (Below w3.heap.size w3) [true, true, true, true, true, true, true, false, true, true, true, true] (by kernel_rfl) (by kernel_rfl) hbd ?_
      have hbd2 := hbd
      generalize w3.drew = w4 at hbd2 hLd ⊢
      repeat (first | refine Yj rfl rfl ?_ | (first | refine Z5 rfl rfl (.inl rfl) rfl rfl ?_ | refine Z5 rfl rfl (.inr rfl) rfl rfl ?_ | refine Z2 rfl rfl (.inl rfl) rfl ?_ | refine Z2 rfl rfl (.inr rfl) rfl ?_) | (refine Yf rfl rfl rfl ?_; apply Exists.intro; refine And.intro (fun W hW N hN => ?_) ?_; · (go_simp; (try go_bits); exact hN)))
      refine YT ?_
      (try refine Zz rfl rfl ?_)
      refine Z9 rfl rfl rfl Try.func18 rfl (by kernel_rfl) rfl ?_
      refine Calls.mono (refSha_any B m c l w4 (HBW.out w4 hbd2) (by have := HML.out; omega)) ?_
      rintro e9 w6 ⟨rfl, hb6⟩
      refine ⟨_, rfl, ?_⟩
      have hbd3 := Z1 hbd2 hb6 hbd2.size
      clear hb6
      refine Zq ?_
      refine kq_f hbd3 ?_
      repeat (first | refine Yj rfl rfl ?_ | refine Wc (cs := bv e.sum) (b := b3) (off := 2) HRW.out Try.underlying29 rfl (hashSize _ HSM.out) rfl rfl rfl rfl rfl ?_ | (first | refine Z5 rfl rfl (.inl rfl) rfl rfl ?_ | refine Z5 rfl rfl (.inr rfl) rfl rfl ?_ | refine Z2 rfl rfl (.inl rfl) rfl ?_ | refine Z2 rfl rfl (.inr rfl) rfl ?_) | (refine Yf rfl rfl rfl ?_; apply Exists.intro; refine And.intro (fun W hW N hN => ?_) ?_; · (go_simp; (try go_bits); exact hN)))
      refine Ym ?_
      refine Zm ?_
      have r9 := r1 _ hbd3
      have hB9 := Lib.hid (HBW.out _ hbd3)
      have HT9 := Lib.hid (HTY.out _ hbd3)
      have HB9 := Lib.hid (Z1 hL3.below hbd3 hL3.below.size)
      clear r1 hbd3 he
      repeat (first | refine Zv ?_ | refine Zs ?_ | refine Zu ?_ | refine Zc ?_ | refine Zq ?_ | refine Zm ?_ | refine Zp ?_ | refine Zw ?_ | refine Zf ?_ | refine Zd rfl ?_ | refine Zj rfl ?_ | refine Ze ?_ | refine Z3 ?_ | refine Zk ?_ | refine Zg ?_ | refine Zi ?_ | refine Zy rfl ?_ | refine Zx rfl ?_ | refine Zz rfl rfl ?_ | refine Zt rfl rfl rfl rfl ?_ | refine Zr rfl rfl rfl ?_ | (first | refine Zb rfl rfl (.inl rfl) rfl rfl ?_ | refine Zb rfl rfl (.inr rfl) rfl rfl ?_ | refine Za rfl rfl (.inl rfl) rfl ?_ | refine Za rfl rfl (.inr rfl) rfl ?_) | ((first | refine Zn rfl rfl rfl fun K hK => ?_ | refine Zh rfl rfl rfl fun K hK => ?_); go_simp; (try go_bits); (first | refine hK _ _ ?_ | refine hK _ ?_); clear hK K))
      exact YN rfl rfl rfl ⟨B, m, c, by rw [HE.out], by rw [HE.out]; exact hB9.out, hm, hc, HT9.out, HB9.out⟩
    · have he : ∀ W, (Op.equalIn 10000 29 (.agg (bv (sha l)).toArray) (.agg (bv e.sum).toArray)).run Try.prog W = .ok false W := fun W => by rw [eqH W _ _ (Xv _) HSM.out, beq_eq_false_iff_ne.2 hs]
      have HE := Lib.hid (img_no f e HNE.out HR.out hs)
      clear hs
      refine ZX (Below w3.heap.size w3) [true, true, true, true, true, true, true, false, true, true, true, true] (by kernel_rfl) (by kernel_rfl) hbd ?_
      have hbd2 := hbd
      generalize w3.drew = w4 at hbd2 hLd ⊢
      repeat (first | refine Yj rfl rfl ?_ | (first | refine Z5 rfl rfl (.inl rfl) rfl rfl ?_ | refine Z5 rfl rfl (.inr rfl) rfl rfl ?_ | refine Z2 rfl rfl (.inl rfl) rfl ?_ | refine Z2 rfl rfl (.inr rfl) rfl ?_) | (refine Yf rfl rfl rfl ?_; apply Exists.intro; refine And.intro (fun W hW N hN => ?_) ?_; · (go_simp; (try go_bits); exact hN)))
      refine YT ?_
      (try refine Zz rfl rfl ?_)
      refine Z9 rfl rfl rfl Try.func18 rfl (by kernel_rfl) rfl ?_
      refine Calls.mono (refSha_any B m c l w4 (HBW.out w4 hbd2) (by have := HML.out; omega)) ?_
      rintro e9 w6 ⟨rfl, hb6⟩
      refine ⟨_, rfl, ?_⟩
      have hbd3 := Z1 hbd2 hb6 hbd2.size
      clear hb6
      refine Zq ?_
      refine kq_f hbd3 ?_
      repeat (first | refine Yj rfl rfl ?_ | refine Wc (cs := bv e.sum) (b := b3) (off := 2) HRW.out Try.underlying29 rfl (hashSize _ HSM.out) rfl rfl rfl rfl rfl ?_ | (first | refine Z5 rfl rfl (.inl rfl) rfl rfl ?_ | refine Z5 rfl rfl (.inr rfl) rfl rfl ?_ | refine Z2 rfl rfl (.inl rfl) rfl ?_ | refine Z2 rfl rfl (.inr rfl) rfl ?_) | (refine Yf rfl rfl rfl ?_; apply Exists.intro; refine And.intro (fun W hW N hN => ?_) ?_; · (go_simp; (try go_bits); exact hN)))
      refine Ym ?_
      refine Zm ?_
      have HB9 := Lib.hid (Z1 hL3.below hbd3 hL3.below.size)
      clear r1 hbd3 he
      repeat (first | refine Zv ?_ | refine Zs ?_ | refine Zu ?_ | refine Zc ?_ | refine Zq ?_ | refine Zm ?_ | refine Zp ?_ | refine Zw ?_ | refine Zf ?_ | refine Zd rfl ?_ | refine Zj rfl ?_ | refine Ze ?_ | refine Z3 ?_ | refine Zk ?_ | refine Zg ?_ | refine Zi ?_ | refine Zy rfl ?_ | refine Zx rfl ?_ | refine Zz rfl rfl ?_ | refine Zt rfl rfl rfl rfl ?_ | refine Zr rfl rfl rfl ?_ | (first | refine Zb rfl rfl (.inl rfl) rfl rfl ?_ | refine Zb rfl rfl (.inr rfl) rfl rfl ?_ | refine Za rfl rfl (.inl rfl) rfl ?_ | refine Za rfl rfl (.inr rfl) rfl ?_) | ((first | refine Zn rfl rfl rfl fun K hK => ?_ | refine Zh rfl rfl rfl fun K hK => ?_); go_simp; (try go_bits); (first | refine hK _ _ ?_ | refine hK _ ?_); clear hK K))
      exact YN rfl rfl rfl ⟨none, 0, 0, by rw [HE.out], by rw [HE.out]; exact Bs.nil _ _, Nat.le_refl _, by omega, XY _, HB9.out⟩
end Go.Proofs.Ytkncomkncfcecaa
