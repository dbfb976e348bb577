/- Mark of the document. Store of the document. within of the law's package. Records: the chapter's example. Both memories side by side: the code's at g, the document's at x. within of the law's package. -/
import Derived.Test.YtkncomkncfcecaaSlotMark
import Derived.Test.YtkncomkncfcecaaSlotBootR
import Derived.Test.YtkncomkncfcecaaRecAppR
import Derived.Test.YtkncomkncfcecaaRefErase
import Derived.Test.YtkncomkncfcecaaSlotL
import Derived.Test.YtkncomkncfcecaaChecked
import Derived.Test.YtkncomkncfcecaaSlotKnown
import Derived.Test.YtkncomkncfcecaaRecApp
import Derived.Test.YtkncomkncfcecaaConcat
import Derived.Test.YtkncomkncfcecaaRefFlash2
import Derived.Test.YtkncomkncfcecaaFlashOps
set_option linter.unusedVariables false
set_option linter.unusedSimpArgs false
namespace Go.Proofs.Ytkncomkncfcecaa
open Go.RowKit
attribute [local go_sem] Y1 Yl Yp ZT Yy Yo ZI ZO Yi ZN ZH ZU Ya
def lastK (f : FlashSt) : Nat → Int × Int
  | 0 => (0, 0)
  | 1 => (secE f 0).foldl (stepM 0) (0, 0)
  | _ => lastR f
theorem lastK_next (f : FlashSt) (s : Nat) (hs : s < 2) : (secE f (s : Int)).foldl (stepM (s : Int)) (lastK f s) = lastK f (s + 1) := by
  rcases (by omega : s = 0 ∨ s = 1) with rfl | rfl <;> rfl
set_option maxRecDepth 100000 in
set_option maxHeartbeats 8000000 in
theorem markR_any (Q : Nat → Prop) (g : Nat) (hQ : ∀ b, Q b → b ≠ g) (f : FlashSt) (slot : Int) (sum : List UInt8) (w : World) (h : RF Q w g f) (hs : sum.length = 32) (hsl : I64 slot) : Calls Try.prog 22 #[.pointer (some ⟨g, 0, none⟩), .int .i64 slot, .agg (bv sum).toArray] w (DoP RF Q g (markP f slot sum) w) := by
  have hglt := h.lt
  unfold I64 at hsl
  refine ZZ Try.func22 rfl Try.ntmps22 rfl [(0, .pointer (some ⟨g, 0, none⟩)), (1, .int .i64 slot), (2, .agg (bv sum).toArray)] rfl ?_
  refine Zv ?_
  refine Zc ?_
  refine Xx (Lay.start w) rfl rfl rfl rfl rfl ?_
  intro g5 w1 hg5 hb1 hL1
  have hg5w : w.heap.size ≤ g5 := by omega
  clear hg5
  by_cases d1 : slot < 0
  · have t1 : decide (slot < 0) = true := decide_eq_true d1
    have HE := Lib.hid (mark_arg (f := f) (sum := sum) (.inl d1))
    clear d1
    repeat (first | refine Zv ?_ | refine Zs ?_ | refine Zu ?_ | refine Zc ?_ | refine Zq ?_ | refine Zm ?_ | refine Zp ?_ | refine Zw ?_ | refine Zf ?_ | refine Zd rfl ?_ | refine Zj rfl ?_ | refine Ze ?_ | refine Z3 ?_ | refine Zk ?_ | refine Zg ?_ | refine Zi ?_ | refine Zy rfl ?_ | refine Zx rfl ?_ | refine Zz rfl rfl ?_ | refine Zt rfl rfl rfl rfl ?_ | refine Zr rfl rfl rfl ?_ | (first | refine Zb rfl rfl (.inl rfl) rfl rfl ?_ | refine Zb rfl rfl (.inr rfl) rfl rfl ?_ | refine Za rfl rfl (.inl rfl) rfl ?_ | refine Za rfl rfl (.inr rfl) rfl ?_) | ((first | refine Zn rfl rfl rfl fun K hK => ?_ | refine Zh rfl rfl rfl fun K hK => ?_); go_simp; (try go_bits); (first | refine hK _ _ ?_ | refine hK _ ?_); clear hK K))
    exact ZE rfl rfl ⟨by rw [HE.out], by rw [HE.out]; exact h.below hb1, Z8 hb1 _⟩
  have t1 : decide (slot < 0) = false := decide_eq_false d1
  by_cases d2 : 2 < slot
  · have t2 : decide (2 < slot) = true := decide_eq_true d2
    have HE := Lib.hid (mark_arg (f := f) (sum := sum) (.inr d2))
    clear d1 d2
    repeat (first | refine Zv ?_ | refine Zs ?_ | refine Zu ?_ | refine Zc ?_ | refine Zq ?_ | refine Zm ?_ | refine Zp ?_ | refine Zw ?_ | refine Zf ?_ | refine Zd rfl ?_ | refine Zj rfl ?_ | refine Ze ?_ | refine Z3 ?_ | refine Zk ?_ | refine Zg ?_ | refine Zi ?_ | refine Zy rfl ?_ | refine Zx rfl ?_ | refine Zz rfl rfl ?_ | refine Zt rfl rfl rfl rfl ?_ | refine Zr rfl rfl rfl ?_ | (first | refine Zb rfl rfl (.inl rfl) rfl rfl ?_ | refine Zb rfl rfl (.inr rfl) rfl rfl ?_ | refine Za rfl rfl (.inl rfl) rfl ?_ | refine Za rfl rfl (.inr rfl) rfl ?_) | ((first | refine Zn rfl rfl rfl fun K hK => ?_ | refine Zh rfl rfl rfl fun K hK => ?_); go_simp; (try go_bits); (first | refine hK _ _ ?_ | refine hK _ ?_); clear hK K))
    exact ZE rfl rfl ⟨by rw [HE.out], by rw [HE.out]; exact h.below hb1, Z8 hb1 _⟩
  have t2 : decide (2 < slot) = false := decide_eq_false d2
  have HSL : Hid (¬ (slot < 0 ∨ 2 < slot)) := by show ¬ _; omega
  have HSI : Hid (I64 slot) := by show I64 slot; unfold I64; omega
  clear d1 d2
  have h1 := h.below hb1
  have HL1 := Lib.hid hL1
  clear hL1 hb1
  repeat (first | refine Zv ?_ | refine Zq ?_ | refine Zm ?_ | refine Zc ?_ | refine Zx rfl ?_ | refine Zu ?_ | refine Zz rfl rfl ?_ | (first | refine Zb rfl rfl (.inl rfl) rfl rfl ?_ | refine Zb rfl rfl (.inr rfl) rfl rfl ?_ | refine Za rfl rfl (.inl rfl) rfl ?_ | refine Za rfl rfl (.inr rfl) rfl ?_) | ((first | refine Zn rfl rfl rfl fun K hK => ?_ | refine Zh rfl rfl rfl fun K hK => ?_); go_simp; (try go_bits); (first | refine hK _ _ ?_ | refine hK _ ?_); clear hK K))
  refine KW.less [0, 1, 5, 7, 8, 9] ?_
  simp only [nrm, lk, Nat.reduceBEq, cond_true, cond_false]
  clear t1 t2
  refine Zs ?_
  refine Yw (fun mm L W => ∃ s st, s ≤ 2 ∧ mm = 2 - s ∧ Hid (st = lastK f s) ∧ Hid (0 ≤ st.1 ∧ st.1 ≤ 1073741824 ∧ (st.2 = 0 ∨ st.2 = 1)) ∧ Hid (Lay w W [(g5, (bv sum).toArray, 29)]) ∧ L = [(0, .pointer (some ⟨g, 0, none⟩)), (1, .int .i64 slot), (5, .pointer (some ⟨g5, 0, none⟩)), (7, .int .i64 st.1), (8, .int .i64 st.2), (9, .int .i64 (s : Int))]) ⟨0, (0, 0), by omega, rfl, by show _ = _; rfl, ⟨by decide, by decide, .inl rfl⟩, HL1, rfl⟩ ?_
  clear HL1 h1
  rintro mm L W ⟨s, ⟨sq, sc⟩, hs2, rfl, hst, hsb, hL, rfl⟩
  dsimp only at hsb ⊢
  by_cases hlt : s < 2
  case pos =>
    have t1 : decide ((s : Int) < 2) = true := by rw [decide_eq_true_eq]; omega
    have t1n : decide (s < 2) = true := decide_eq_true hlt
    obtain ⟨s1, hs1⟩ : ∃ s1, s + 1 = s1 := ⟨_, rfl⟩
    have k1 : (s : Int) + 1 = (s1 : Int) := by omega
    have k2 : (0 : Int) ≤ s1 := by omega
    have k3 : (s1 : Int) ≤ 64 := by omega
    have hnx := lastK_next f s hlt
    rw [hs1, ← hst.out] at hnx
    have HI := Lib.hid (And.intro hs1 hlt)
    clear hs1
    repeat (first | refine Zv ?_ | refine Zs ?_ | refine Zc ?_ | refine Zq ?_ | refine Zm ?_ | refine Zy rfl ?_ | refine Zu ?_ | (first | refine Zb rfl rfl (.inl rfl) rfl rfl ?_ | refine Zb rfl rfl (.inr rfl) rfl rfl ?_ | refine Za rfl rfl (.inl rfl) rfl ?_ | refine Za rfl rfl (.inr rfl) rfl ?_) | ((first | refine Zn rfl rfl rfl fun K hK => ?_ | refine Zh rfl rfl rfl fun K hK => ?_); go_simp; (try go_bits); (first | refine hK _ _ ?_ | refine hK _ ?_); clear hK K))
    refine Z9 rfl rfl rfl Try.func45 rfl (by kernel_rfl) rfl ?_
    refine Calls.mono (entries_any Q g f (s : Int) W (h.below hL.out.below) (by omega)) ?_
    rintro e w3 ⟨ve, rfl, hOe, hb3⟩
    refine ⟨_, rfl, ?_⟩
    have hL3 := Lib.hid (hL.out.next hb3)
    clear hL hb3 t1 t1n
    have hgood := XK (loadR (readF f (s : Int))).1
    obtain ⟨A3, c3, rfl, hen, hec, hec9, _⟩ := hOe.ens
    have hcnt := secE_len f (s : Int)
    obtain ⟨es, hes⟩ : ∃ es, secE f (s : Int) = es := ⟨_, rfl⟩
    have HGD : Hid (∀ e ∈ es, GoodE e) := by rw [← hes]; exact hgood
    rw [hes] at hen hec hcnt hnx ⊢
    have HNX := Lib.hid hnx
    obtain ⟨N, hN⟩ : ∃ N, es.length = N := ⟨_, rfl⟩
    rw [hN] at hen hec hcnt ⊢
    have HN := Lib.hid hN
    have HEN := Lib.hid hen
    clear hgood hOe hes hN hen hnx
    repeat (first | refine Zv ?_ | refine Zc ?_ | refine Zq ?_ | refine Zm ?_ | (first | refine Zb rfl rfl (.inl rfl) rfl rfl ?_ | refine Zb rfl rfl (.inr rfl) rfl rfl ?_ | refine Za rfl rfl (.inl rfl) rfl ?_ | refine Za rfl rfl (.inr rfl) rfl ?_) | ((first | refine Zn rfl rfl rfl fun K hK => ?_ | refine Zh rfl rfl rfl fun K hK => ?_); go_simp; (try go_bits); (first | refine hK _ _ ?_ | refine hK _ ?_); clear hK K))
    refine KW.less [0, 1, 5, 7, 8, 9, 10, 11] ?_
    simp only [nrm, lk, Nat.reduceBEq, cond_true, cond_false]
    refine Zs ?_
    refine Yw (fun mm L W => ∃ k st, k ≤ N ∧ mm = N - k ∧ Hid ((es.take k).foldl (stepM (s : Int)) (sq, sc) = st) ∧ Hid (0 ≤ st.1 ∧ st.1 ≤ 1073741824 ∧ (st.2 = 0 ∨ st.2 = 1)) ∧ Hid (Lay w W [(g5, (bv sum).toArray, 29)]) ∧ Hid (EnS W A3 N es) ∧ L = [(0, .pointer (some ⟨g, 0, none⟩)), (1, .int .i64 slot), (5, .pointer (some ⟨g5, 0, none⟩)), (7, .int .i64 st.1), (8, .int .i64 st.2), (9, .int .i64 (s : Int)), (10, .slice A3 N c3), (11, .int .i64 (k : Int))]) ⟨0, (sq, sc), by omega, rfl, by show _ = _; rfl, hsb, hL3, HEN, rfl⟩ ?_
    clear hL3 HEN hsb
    rintro mm L W ⟨k, ⟨kq, ks⟩, hk, rfl, hkt, hkb, hL, hE, rfl⟩
    dsimp only at hkb ⊢
    by_cases hkn : k < N
    case neg =>
      obtain rfl : k = N := by omega
      have t1 : decide ((k : Int) < (k : Int)) = false := by simp
      have t1n : decide (k < k) = false := by simp
      have hfin : Hid ((kq, ks) = lastK f s1) := by
        have := hkt.out
        rw [List.take_of_length_le (by rw [HN.out]; exact Nat.le_refl _), HNX.out] at this
        exact this.symm
      clear hkn hkt
      repeat (first | refine Zv ?_ | refine Zc ?_ | refine Zq ?_ | refine Zm ?_ | refine Zp ?_ | refine Zx rfl ?_ | refine Zw ?_ | refine Zf ?_ | refine Zd rfl ?_ | refine Zu ?_ | (first | refine Zb rfl rfl (.inl rfl) rfl rfl ?_ | refine Zb rfl rfl (.inr rfl) rfl rfl ?_ | refine Za rfl rfl (.inl rfl) rfl ?_ | refine Za rfl rfl (.inr rfl) rfl ?_) | ((first | refine Zn rfl rfl rfl fun K hK => ?_ | refine Zh rfl rfl rfl fun K hK => ?_); go_simp; (try go_bits); (first | refine hK _ _ ?_ | refine hK _ ?_); clear hK K))
      refine Yk (2 - s1) [0, 1, 5, 7, 8, 9] (by have := HI.out; omega) ?_
      exact ⟨s1, (kq, ks), by have := HI.out; omega, rfl, hfin, hkb, hL, rfl⟩
    have t1 : decide ((k : Int) < (N : Int)) = true := by rw [decide_eq_true_eq]; omega
    have t1n : decide (k < N) = true := decide_eq_true hkn
    have u0 : (0 : Int) ≤ k := by omega
    have u1 : (k : Int) < N := by omega
    obtain ⟨nk, hnk⟩ : ∃ nk, k + 1 = nk := ⟨_, rfl⟩
    have i3 : (k : Int) + 1 = (nk : Int) := by omega
    have i4 : (0 : Int) ≤ nk := by omega
    have i5 : (nk : Int) ≤ 65 := by omega
    have HNK := Lib.hid (And.intro hnk hkn)
    obtain ⟨gA, oA, e, rfl, hra, hes, hx1, hx2⟩ := hE.out.next hkn
    have hgd := HGD.out e (List.mem_of_getElem? hx2.out)
    have HKT : Hid ((es.take nk).foldl (stepM (s : Int)) (sq, sc) = stepM (s : Int) (kq, ks) e) := by
      show _ = _
      rw [← HNK.out.1, hx1.out, List.foldl_append, hkt.out]; rfl
    obtain ⟨oi, hoi⟩ : ∃ oi, oA + k * 34 = oi := ⟨_, rfl⟩
    rw [hoi] at hra
    have ce := hra 0 (.int .i64 e.seq) rfl
    rw [Nat.add_zero] at ce
    obtain ⟨es1, hes1⟩ : ∃ es1, e.seq = es1 := ⟨_, rfl⟩
    have hsq := hgd.seq
    rw [hes1] at ce hsq
    have HES := Lib.hid hes1
    clear hra hgd hnk hkn hkt hes1
    by_cases hgt : kq < es1
    · have t2 : decide (kq < es1) = true := decide_eq_true hgt
      have hk2 : Hid ((es.take nk).foldl (stepM (s : Int)) (sq, sc) = (es1, (s : Int))) := by
        show _ = _
        rw [HKT.out]; unfold stepM; rw [if_pos (by rw [HES.out]; exact hgt), HES.out]
      clear hgt
      repeat (first | refine Zv ?_ | refine Zs ?_ | refine Zc ?_ | refine Zq ?_ | refine Zm ?_ | refine Zp ?_ | refine Zy rfl ?_ | refine Zu ?_ | (first | refine Zb rfl rfl (.inl rfl) rfl rfl ?_ | refine Zb rfl rfl (.inr rfl) rfl rfl ?_ | refine Za rfl rfl (.inl rfl) rfl ?_ | refine Za rfl rfl (.inr rfl) rfl ?_) | ((first | refine Zn rfl rfl rfl fun K hK => ?_ | refine Zh rfl rfl rfl fun K hK => ?_); go_simp; (try go_bits); (first | refine hK _ _ ?_ | refine hK _ ?_); clear hK K))
      refine Yk (N - nk) [0, 1, 5, 7, 8, 9, 10, 11] (by have := HNK.out; omega) ?_
      exact ⟨nk, (es1, (s : Int)), by have := HNK.out; omega, rfl, hk2, ⟨by dsimp only; omega, by dsimp only; omega, by dsimp only; have := HI.out; omega⟩, hL, hE, rfl⟩
    · have t2 : decide (kq < es1) = false := decide_eq_false hgt
      have hk2 : Hid ((es.take nk).foldl (stepM (s : Int)) (sq, sc) = (kq, ks)) := by
        show _ = _
        rw [HKT.out]; unfold stepM; rw [if_neg (by rw [HES.out]; exact hgt)]
      clear hgt
      repeat (first | refine Zv ?_ | refine Zs ?_ | refine Zc ?_ | refine Zq ?_ | refine Zm ?_ | refine Zp ?_ | refine Zy rfl ?_ | refine Zx rfl ?_ | refine Zu ?_ | (first | refine Zb rfl rfl (.inl rfl) rfl rfl ?_ | refine Zb rfl rfl (.inr rfl) rfl rfl ?_ | refine Za rfl rfl (.inl rfl) rfl ?_ | refine Za rfl rfl (.inr rfl) rfl ?_) | ((first | refine Zn rfl rfl rfl fun K hK => ?_ | refine Zh rfl rfl rfl fun K hK => ?_); go_simp; (try go_bits); (first | refine hK _ _ ?_ | refine hK _ ?_); clear hK K))
      refine Yk (N - nk) [0, 1, 5, 7, 8, 9, 10, 11] (by have := HNK.out; omega) ?_
      exact ⟨nk, (kq, ks), by have := HNK.out; omega, rfl, hk2, hkb, hL, hE, rfl⟩
  obtain rfl : s = 2 := by omega
  have t1 : decide (((2 : Nat) : Int) < 2) = false := by decide
  have hle : lastP f = (sq, sc) := by rw [← last_eq]; exact hst.out.symm
  obtain ⟨q, hq'⟩ : ∃ q, sq = q := ⟨_, rfl⟩
  subst hq'
  have hq : (lastP f).1 = sq := by rw [hle]
  have HSC : Hid ((lastP f).2 = sc) := by show _ = _; rw [hle]
  have hbd := hsb.out
  clear hlt hst hle hsb
  by_cases hov : 1073741824 ≤ sq
  · have t3 : decide (1073741824 ≤ sq) = true := decide_eq_true hov
    have HE := Lib.hid (mark_over (f := f) (sum := sum) HSL.out (by rw [hq]; exact hov))
    clear hov hbd
    repeat (first | refine Zv ?_ | refine Zs ?_ | refine Zu ?_ | refine Zc ?_ | refine Zq ?_ | refine Zm ?_ | refine Zp ?_ | refine Zw ?_ | refine Zf ?_ | refine Zd rfl ?_ | refine Zj rfl ?_ | refine Ze ?_ | refine Z3 ?_ | refine Zk ?_ | refine Zg ?_ | refine Zi ?_ | refine Zy rfl ?_ | refine Zx rfl ?_ | refine Zz rfl rfl ?_ | refine Zt rfl rfl rfl rfl ?_ | refine Zr rfl rfl rfl ?_ | (first | refine Zb rfl rfl (.inl rfl) rfl rfl ?_ | refine Zb rfl rfl (.inr rfl) rfl rfl ?_ | refine Za rfl rfl (.inl rfl) rfl ?_ | refine Za rfl rfl (.inr rfl) rfl ?_) | ((first | refine Zn rfl rfl rfl fun K hK => ?_ | refine Zh rfl rfl rfl fun K hK => ?_); go_simp; (try go_bits); (first | refine hK _ _ ?_ | refine hK _ ?_); clear hK K))
    exact ZE rfl rfl ⟨by rw [HE.out], by rw [HE.out]; exact h.below hL.out.below, Z8 hL.out.below _⟩
  have t3 : decide (1073741824 ≤ sq) = false := decide_eq_false hov
  obtain ⟨q1, hq1⟩ : ∃ q1, sq + 1 = q1 := ⟨_, rfl⟩
  have a1 : 0 ≤ q1 := by omega
  have a2 : q1 ≤ 1073741825 := by omega
  have HQ1 : Hid ((lastP f).1 + 1 = q1) := by show _ = _; rw [hq]; exact hq1
  have HNO : Hid (¬ 1073741824 ≤ (lastP f).1) := by show ¬ _; rw [hq]; exact hov
  have HQI : Hid (I64 q1) := by show I64 q1; unfold I64; omega
  have LG := hL.out
  clear hov hq
  repeat (first | refine Zv ?_ | refine Zc ?_ | refine Zq ?_ | refine Zm ?_ | refine Zx rfl ?_ | refine Zw ?_ | refine Zf ?_ | refine Zd rfl ?_ | refine Zu ?_ | (first | refine Zb rfl rfl (.inl rfl) rfl rfl ?_ | refine Zb rfl rfl (.inr rfl) rfl rfl ?_ | refine Za rfl rfl (.inl rfl) rfl ?_ | refine Za rfl rfl (.inr rfl) rfl ?_) | refine Wf LG 0 rfl Try.underlying29 rfl (hash_1 sum hs) rfl rfl rfl rfl rfl ?_ | refine Yr 59 _ (entC ⟨q1, slot, sum⟩).toArray rfl rfl rfl (by rfl) (by rfl) (rentBuilt3 q1 slot sum hs) ?_ | ((first | refine Zn rfl rfl rfl fun K hK => ?_ | refine Zh rfl rfl rfl fun K hK => ?_); go_simp; (try go_bits); (first | refine hK _ _ ?_ | refine hK _ ?_); clear hK K))
  refine Z9 rfl rfl rfl Try.func46 rfl (by kernel_rfl) rfl ?_
  refine Calls.mono (eBytesR_any ⟨q1, slot, sum⟩ _ hs HQI.out HSI.out) ?_
  rintro e w8 ⟨v8, rfl, ho8, hb8⟩
  refine ⟨_, rfl, ?_⟩
  have h8w := YP ho8 LG.below.size
  have hb08 := Z1 LG.below hb8 LG.below.size
  obtain ⟨A8, c8, rfl, hB8, hn8, hc8, haw⟩ := eb_own h8w
  have HAW : Hid (0 < 48 → Away g A8) := fun _ a e => by have := haw a e; omega
  obtain ⟨b, hbe⟩ : ∃ b, bytesE ⟨q1, slot, sum⟩ = b := ⟨_, rfl⟩
  rw [hbe] at hB8
  have HM := mark_go (f := f) (sum := sum) HSL.out HNO.out (q := q1) (s := sc) HQ1.out HSC.out
  rw [hbe] at HM
  obtain ⟨r1, hr1⟩ : ∃ r1, appendP f sc b = r1 := ⟨_, rfl⟩
  have HR1 := Lib.hid hr1
  have HM := Lib.hid HM
  have h8 := h.below hb08
  have HB8 := Lib.hid hB8
  have hg8 := Z8 hb08 (some g)
  clear hbe ho8 h8w haw hr1 hB8 hb8 hL LG
  repeat (first | (first | refine Zb rfl rfl (.inl rfl) rfl rfl ?_ | refine Zb rfl rfl (.inr rfl) rfl rfl ?_ | refine Za rfl rfl (.inl rfl) rfl ?_ | refine Za rfl rfl (.inr rfl) rfl ?_) | ((first | refine Zn rfl rfl rfl fun K hK => ?_ | refine Zh rfl rfl rfl fun K hK => ?_); go_simp; (try go_bits); (first | refine hK _ _ ?_ | refine hK _ ?_); clear hK K) | refine Zq ?_ | refine Zm ?_ | refine Zv ?_ | refine Zc ?_)
  refine Z9 rfl rfl rfl Try.func44 rfl (by kernel_rfl) rfl ?_
  refine Calls.mono (WL Q g hQ f sc A8 48 c8 b w8 h8 (by omega) HB8.out hn8 hc8) ?_
  rintro e w9 ⟨rfl, h9, hg9⟩
  refine ⟨_, rfl, ?_⟩
  rw [HR1.out] at h9 ⊢
  have HG9 := Lib.hid (Z0 hg8 hg9)
  have HB9 := Lib.hid (HB8.out.grownKeep0 hg9 HAW.out)
  clear h8 hg8 hg9 HB8
  obtain ⟨e1, f1⟩ := r1
  dsimp only at h9 ⊢
  by_cases h4 : e1 = 4
  case neg =>
    have t4 : (e1 != 4) = true := bne_iff_ne.2 h4
    have HW := Lib.hid (HM.out.trans (write_1 HR1.out h4))
    clear h4
    repeat (first | refine Zv ?_ | refine Zs ?_ | refine Zu ?_ | refine Zc ?_ | refine Zq ?_ | refine Zm ?_ | refine Zp ?_ | refine Zw ?_ | refine Zf ?_ | refine Zd rfl ?_ | refine Zj rfl ?_ | refine Ze ?_ | refine Z3 ?_ | refine Zk ?_ | refine Zg ?_ | refine Zi ?_ | refine Zy rfl ?_ | refine Zx rfl ?_ | refine Zz rfl rfl ?_ | refine Zt rfl rfl rfl rfl ?_ | refine Zr rfl rfl rfl ?_ | (first | refine Zb rfl rfl (.inl rfl) rfl rfl ?_ | refine Zb rfl rfl (.inr rfl) rfl rfl ?_ | refine Za rfl rfl (.inl rfl) rfl ?_ | refine Za rfl rfl (.inr rfl) rfl ?_) | ((first | refine Zn rfl rfl rfl fun K hK => ?_ | refine Zh rfl rfl rfl fun K hK => ?_); go_simp; (try go_bits); (first | refine hK _ _ ?_ | refine hK _ ?_); clear hK K))
    exact ZE rfl rfl ⟨by rw [HW.out], by rw [HW.out]; exact h9, HG9.out⟩
  subst h4
  have t4 : ((4 : Int) != 4) = false := rfl
  obtain ⟨os, hos⟩ : ∃ os, 1 - sc = os := ⟨_, rfl⟩
  have b1 : 0 ≤ os := by omega
  have b2 : os ≤ 1 := by omega
  obtain ⟨r2, hr2⟩ : ∃ r2, eraseF f1 (1 - sc) = r2 := ⟨_, rfl⟩
  have HR2 := Lib.hid hr2
  rw [hos] at hr2
  have HR2o := Lib.hid hr2
  clear hr2
  repeat (first | refine Zv ?_ | refine Zc ?_ | refine Zq ?_ | refine Zm ?_ | refine Zx rfl ?_ | refine Zu ?_ | (first | refine Zb rfl rfl (.inl rfl) rfl rfl ?_ | refine Zb rfl rfl (.inr rfl) rfl rfl ?_ | refine Za rfl rfl (.inl rfl) rfl ?_ | refine Za rfl rfl (.inr rfl) rfl ?_) | ((first | refine Zn rfl rfl rfl fun K hK => ?_ | refine Zh rfl rfl rfl fun K hK => ?_); go_simp; (try go_bits); (first | refine hK _ _ ?_ | refine hK _ ?_); clear hK K))
  refine Z9 rfl rfl rfl Try.func43 rfl (by kernel_rfl) rfl ?_
  refine Calls.mono (X8 Q g hQ f1 os w9 h9) ?_
  rintro e w10 ⟨rfl, h10, hg10⟩
  refine ⟨_, rfl, ?_⟩
  rw [HR2o.out] at h10 ⊢
  have HG10 := Lib.hid (Z0 HG9.out hg10)
  have HB10 := Lib.hid (HB9.out.grownKeep0 hg10 HAW.out)
  clear h9 hg10 HB9 HG9
  obtain ⟨e2, f2⟩ := r2
  dsimp only at h10 ⊢
  by_cases h0 : e2 = 0
  case neg =>
    have t5 : (e2 != 0) = true := bne_iff_ne.2 h0
    have HW := Lib.hid (HM.out.trans (write_2 HR1.out rfl HR2.out h0))
    clear h0
    repeat (first | refine Zv ?_ | refine Zs ?_ | refine Zu ?_ | refine Zc ?_ | refine Zq ?_ | refine Zm ?_ | refine Zp ?_ | refine Zw ?_ | refine Zf ?_ | refine Zd rfl ?_ | refine Zj rfl ?_ | refine Ze ?_ | refine Z3 ?_ | refine Zk ?_ | refine Zg ?_ | refine Zi ?_ | refine Zy rfl ?_ | refine Zx rfl ?_ | refine Zz rfl rfl ?_ | refine Zt rfl rfl rfl rfl ?_ | refine Zr rfl rfl rfl ?_ | (first | refine Zb rfl rfl (.inl rfl) rfl rfl ?_ | refine Zb rfl rfl (.inr rfl) rfl rfl ?_ | refine Za rfl rfl (.inl rfl) rfl ?_ | refine Za rfl rfl (.inr rfl) rfl ?_) | ((first | refine Zn rfl rfl rfl fun K hK => ?_ | refine Zh rfl rfl rfl fun K hK => ?_); go_simp; (try go_bits); (first | refine hK _ _ ?_ | refine hK _ ?_); clear hK K))
    exact ZE rfl rfl ⟨by rw [HW.out], by rw [HW.out]; exact h10, HG10.out⟩
  subst h0
  have t5 : ((0 : Int) != 0) = false := rfl
  obtain ⟨r3, hr3⟩ : ∃ r3, appendP f2 (1 - sc) b = r3 := ⟨_, rfl⟩
  have HR3 := Lib.hid hr3
  rw [hos] at hr3
  have HR3o := Lib.hid hr3
  clear hr3
  repeat (first | refine Zv ?_ | refine Zc ?_ | refine Zq ?_ | refine Zm ?_ | refine Zx rfl ?_ | refine Zu ?_ | (first | refine Zb rfl rfl (.inl rfl) rfl rfl ?_ | refine Zb rfl rfl (.inr rfl) rfl rfl ?_ | refine Za rfl rfl (.inl rfl) rfl ?_ | refine Za rfl rfl (.inr rfl) rfl ?_) | ((first | refine Zn rfl rfl rfl fun K hK => ?_ | refine Zh rfl rfl rfl fun K hK => ?_); go_simp; (try go_bits); (first | refine hK _ _ ?_ | refine hK _ ?_); clear hK K))
  refine Z9 rfl rfl rfl Try.func44 rfl (by kernel_rfl) rfl ?_
  refine Calls.mono (WL Q g hQ f2 os A8 48 c8 b w10 h10 (by omega) HB10.out hn8 hc8) ?_
  rintro e w11 ⟨rfl, h11, hg11⟩
  refine ⟨_, rfl, ?_⟩
  rw [HR3o.out] at h11 ⊢
  have HW := Lib.hid (HM.out.trans (write_3 HR1.out rfl HR2.out rfl HR3.out))
  have HG11 := Lib.hid (Z0 HG10.out hg11)
  clear hg11
  repeat (first | refine Zv ?_ | refine Zs ?_ | refine Zu ?_ | refine Zc ?_ | refine Zq ?_ | refine Zm ?_ | refine Zp ?_ | refine Zw ?_ | refine Zf ?_ | refine Zd rfl ?_ | refine Zj rfl ?_ | refine Ze ?_ | refine Z3 ?_ | refine Zk ?_ | refine Zg ?_ | refine Zi ?_ | refine Zy rfl ?_ | refine Zx rfl ?_ | refine Zz rfl rfl ?_ | refine Zt rfl rfl rfl rfl ?_ | refine Zr rfl rfl rfl ?_ | (first | refine Zb rfl rfl (.inl rfl) rfl rfl ?_ | refine Zb rfl rfl (.inr rfl) rfl rfl ?_ | refine Za rfl rfl (.inl rfl) rfl ?_ | refine Za rfl rfl (.inr rfl) rfl ?_) | ((first | refine Zn rfl rfl rfl fun K hK => ?_ | refine Zh rfl rfl rfl fun K hK => ?_); go_simp; (try go_bits); (first | refine hK _ _ ?_ | refine hK _ ?_); clear hK K))
  exact ZE rfl rfl ⟨by rw [HW.out], by rw [HW.out]; exact h11, HG11.out⟩
end Go.Proofs.Ytkncomkncfcecaa
set_option linter.unusedVariables false
set_option linter.unusedSimpArgs false
namespace Go.Proofs.Ytkncomkncfcecaa
open Go.RowKit
attribute [local go_sem] Y1 Yl Yp ZT Yy Yo ZI ZO Yi ZN ZH ZU Ya
set_option maxRecDepth 100000 in
set_option maxHeartbeats 4000000 in
theorem storeR_any (Q : Nat → Prop) (g : Nat) (hQ : ∀ b, Q b → b ≠ g) (f : FlashSt) (slot : Int) (A : Option Addr) (n c : Nat) (b : List UInt8) (w : World) (h : RF Q w g f) (hsl : I64 slot) (hB : Bs w A n b) (haw : 0 < n → Away g A) (hn : n ≤ c) (hc9 : c ≤ 9223372036854775807) : Calls Try.prog 21 #[.pointer (some ⟨g, 0, none⟩), .int .i64 slot, .slice A n c] w (DoP RF Q g (storeP f slot b) w) := by
  unfold I64 at hsl
  have HB := Lib.hid hB
  have hbl := hB.len
  have HAW : Hid (0 < n → Away g A) := haw
  clear haw hB
  refine ZZ Try.func21 rfl Try.ntmps21 rfl [(0, .pointer (some ⟨g, 0, none⟩)), (1, .int .i64 slot), (2, .slice A n c)] rfl ?_
  by_cases d1 : slot < 0
  · have t1 : decide (slot < 0) = true := decide_eq_true d1
    have HE := Lib.hid (Vm (f := f) (b := b) (.inl d1))
    clear d1
    repeat (first | refine Zv ?_ | refine Zs ?_ | refine Zu ?_ | refine Zc ?_ | refine Zq ?_ | refine Zm ?_ | refine Zp ?_ | refine Zw ?_ | refine Zf ?_ | refine Zd rfl ?_ | refine Zj rfl ?_ | refine Ze ?_ | refine Z3 ?_ | refine Zk ?_ | refine Zg ?_ | refine Zi ?_ | refine Zy rfl ?_ | refine Zx rfl ?_ | refine Zz rfl rfl ?_ | refine Zt rfl rfl rfl rfl ?_ | refine Zr rfl rfl rfl ?_ | (first | refine Zb rfl rfl (.inl rfl) rfl rfl ?_ | refine Zb rfl rfl (.inr rfl) rfl rfl ?_ | refine Za rfl rfl (.inl rfl) rfl ?_ | refine Za rfl rfl (.inr rfl) rfl ?_) | ((first | refine Zn rfl rfl rfl fun K hK => ?_ | refine Zh rfl rfl rfl fun K hK => ?_); go_simp; (try go_bits); (first | refine hK _ _ ?_ | refine hK _ ?_); clear hK K))
    exact ZE rfl rfl ⟨by rw [HE.out], by rw [HE.out]; exact h, ZG w _⟩
  have t1 : decide (slot < 0) = false := decide_eq_false d1
  by_cases d2 : 2 ≤ slot
  · have t2 : decide (1 < slot) = true := decide_eq_true (by omega)
    have HE := Lib.hid (Vm (f := f) (b := b) (.inr d2))
    clear d1 d2
    repeat (first | refine Zv ?_ | refine Zs ?_ | refine Zu ?_ | refine Zc ?_ | refine Zq ?_ | refine Zm ?_ | refine Zp ?_ | refine Zw ?_ | refine Zf ?_ | refine Zd rfl ?_ | refine Zj rfl ?_ | refine Ze ?_ | refine Z3 ?_ | refine Zk ?_ | refine Zg ?_ | refine Zi ?_ | refine Zy rfl ?_ | refine Zx rfl ?_ | refine Zz rfl rfl ?_ | refine Zt rfl rfl rfl rfl ?_ | refine Zr rfl rfl rfl ?_ | (first | refine Zb rfl rfl (.inl rfl) rfl rfl ?_ | refine Zb rfl rfl (.inr rfl) rfl rfl ?_ | refine Za rfl rfl (.inl rfl) rfl ?_ | refine Za rfl rfl (.inr rfl) rfl ?_) | ((first | refine Zn rfl rfl rfl fun K hK => ?_ | refine Zh rfl rfl rfl fun K hK => ?_); go_simp; (try go_bits); (first | refine hK _ _ ?_ | refine hK _ ?_); clear hK K))
    exact ZE rfl rfl ⟨by rw [HE.out], by rw [HE.out]; exact h, ZG w _⟩
  have t2 : decide (1 < slot) = false := decide_eq_false (by omega)
  have HSL : Hid (¬ (slot < 0 ∨ 2 ≤ slot)) := by show ¬ _; omega
  by_cases d3 : 1000 < n
  · have t3 : decide ((1000 : Int) < (n : Int)) = true := decide_eq_true (by omega)
    have t3n : decide (1000 < n) = true := decide_eq_true d3
    have HE := Lib.hid (store_long (f := f) (b := b) HSL.out (by omega))
    clear d1 d2 d3
    repeat (first | refine Zv ?_ | refine Zs ?_ | refine Zu ?_ | refine Zc ?_ | refine Zq ?_ | refine Zm ?_ | refine Zp ?_ | refine Zw ?_ | refine Zf ?_ | refine Zd rfl ?_ | refine Zj rfl ?_ | refine Ze ?_ | refine Z3 ?_ | refine Zk ?_ | refine Zg ?_ | refine Zi ?_ | refine Zy rfl ?_ | refine Zx rfl ?_ | refine Zz rfl rfl ?_ | refine Zt rfl rfl rfl rfl ?_ | refine Zr rfl rfl rfl ?_ | (first | refine Zb rfl rfl (.inl rfl) rfl rfl ?_ | refine Zb rfl rfl (.inr rfl) rfl rfl ?_ | refine Za rfl rfl (.inl rfl) rfl ?_ | refine Za rfl rfl (.inr rfl) rfl ?_) | ((first | refine Zn rfl rfl rfl fun K hK => ?_ | refine Zh rfl rfl rfl fun K hK => ?_); go_simp; (try go_bits); (first | refine hK _ _ ?_ | refine hK _ ?_); clear hK K))
    exact ZE rfl rfl ⟨by rw [HE.out], by rw [HE.out]; exact h, ZG w _⟩
  have t3 : decide ((1000 : Int) < (n : Int)) = false := decide_eq_false (by omega)
  have t3n : decide (1000 < n) = false := decide_eq_false d3
  have HLN : Hid (¬ 1000 < b.length) := by show ¬ _; omega
  have d4 : 0 ≤ slot := by omega
  have d5 : slot ≤ 1 := by omega
  obtain ⟨sl2, hs2⟩ : ∃ sl2, 2 + slot = sl2 := ⟨_, rfl⟩
  have hsB : -9223372036854775808 ≤ sl2 ∧ sl2 ≤ 9223372036854775807 := by omega
  obtain ⟨r1, hr1⟩ : ∃ r1, eraseF f sl2 = r1 := ⟨_, rfl⟩
  have HR1 : Hid (eraseF f (2 + slot) = r1) := by show _ = _; rw [hs2]; exact hr1
  have HR1o := Lib.hid hr1
  have HS2 := Lib.hid hs2
  clear hr1 d1 d2 d3 hbl
  repeat (first | refine Zv ?_ | refine Zs ?_ | refine Zc ?_ | refine Zq ?_ | refine Zm ?_ | refine Zp ?_ | refine Zx rfl ?_ | refine Zu ?_ | refine Zz rfl rfl ?_ | refine Zt rfl rfl rfl rfl ?_ | (first | refine Zb rfl rfl (.inl rfl) rfl rfl ?_ | refine Zb rfl rfl (.inr rfl) rfl rfl ?_ | refine Za rfl rfl (.inl rfl) rfl ?_ | refine Za rfl rfl (.inr rfl) rfl ?_) | ((first | refine Zn rfl rfl rfl fun K hK => ?_ | refine Zh rfl rfl rfl fun K hK => ?_); go_simp; (try go_bits); (first | refine hK _ _ ?_ | refine hK _ ?_); clear hK K))
  refine Z9 rfl rfl rfl Try.func43 rfl (by kernel_rfl) rfl ?_
  refine Calls.mono (X8 Q g hQ f sl2 w h) ?_
  rintro e w2 ⟨rfl, h2, hg2⟩
  refine ⟨_, rfl, ?_⟩
  rw [HR1o.out] at h2 ⊢
  have HB2 := Lib.hid (HB.out.grownKeep0 hg2 HAW.out)
  have HG2 := Lib.hid hg2
  clear hg2 HB h
  obtain ⟨e1, f1⟩ := r1
  dsimp only at h2 ⊢
  by_cases h0 : e1 = 0
  case neg =>
    have t5 : (e1 != 0) = true := bne_iff_ne.2 h0
    have HW := Lib.hid (store_1 HSL.out HLN.out HR1.out h0)
    clear h0
    repeat (first | refine Zv ?_ | refine Zs ?_ | refine Zu ?_ | refine Zc ?_ | refine Zq ?_ | refine Zm ?_ | refine Zp ?_ | refine Zw ?_ | refine Zf ?_ | refine Zd rfl ?_ | refine Zj rfl ?_ | refine Ze ?_ | refine Z3 ?_ | refine Zk ?_ | refine Zg ?_ | refine Zi ?_ | refine Zy rfl ?_ | refine Zx rfl ?_ | refine Zz rfl rfl ?_ | refine Zt rfl rfl rfl rfl ?_ | refine Zr rfl rfl rfl ?_ | (first | refine Zb rfl rfl (.inl rfl) rfl rfl ?_ | refine Zb rfl rfl (.inr rfl) rfl rfl ?_ | refine Za rfl rfl (.inl rfl) rfl ?_ | refine Za rfl rfl (.inr rfl) rfl ?_) | ((first | refine Zn rfl rfl rfl fun K hK => ?_ | refine Zh rfl rfl rfl fun K hK => ?_); go_simp; (try go_bits); (first | refine hK _ _ ?_ | refine hK _ ?_); clear hK K))
    exact ZE rfl rfl ⟨by rw [HW.out], by rw [HW.out]; exact h2, HG2.out⟩
  subst h0
  have t5 : ((0 : Int) != 0) = false := rfl
  obtain ⟨r2, hr2⟩ : ∃ r2, appendP f1 sl2 b = r2 := ⟨_, rfl⟩
  have HR2o := Lib.hid hr2
  have HW : Hid (storeP f slot b = r2) := by
    show _ = _
    exact store_2 HSL.out HLN.out HR1.out rfl (by rw [HS2.out]; exact hr2)
  clear hr2
  repeat (first | refine Zv ?_ | refine Zc ?_ | refine Zq ?_ | refine Zm ?_ | refine Zx rfl ?_ | refine Zu ?_ | (first | refine Zb rfl rfl (.inl rfl) rfl rfl ?_ | refine Zb rfl rfl (.inr rfl) rfl rfl ?_ | refine Za rfl rfl (.inl rfl) rfl ?_ | refine Za rfl rfl (.inr rfl) rfl ?_) | ((first | refine Zn rfl rfl rfl fun K hK => ?_ | refine Zh rfl rfl rfl fun K hK => ?_); go_simp; (try go_bits); (first | refine hK _ _ ?_ | refine hK _ ?_); clear hK K))
  refine Z9 rfl rfl rfl Try.func44 rfl (by kernel_rfl) rfl ?_
  refine Calls.mono (WL Q g hQ f1 sl2 A n c b w2 h2 hsB HB2.out hn hc9) ?_
  rintro e w3 ⟨rfl, h3, hg3⟩
  refine ⟨_, rfl, ?_⟩
  rw [HR2o.out] at h3 ⊢
  have HG3 := Lib.hid (Z0 HG2.out hg3)
  clear hg3
  repeat (first | refine Zv ?_ | refine Zs ?_ | refine Zu ?_ | refine Zc ?_ | refine Zq ?_ | refine Zm ?_ | refine Zp ?_ | refine Zw ?_ | refine Zf ?_ | refine Zd rfl ?_ | refine Zj rfl ?_ | refine Ze ?_ | refine Z3 ?_ | refine Zk ?_ | refine Zg ?_ | refine Zi ?_ | refine Zy rfl ?_ | refine Zx rfl ?_ | refine Zz rfl rfl ?_ | refine Zt rfl rfl rfl rfl ?_ | refine Zr rfl rfl rfl ?_ | (first | refine Zb rfl rfl (.inl rfl) rfl rfl ?_ | refine Zb rfl rfl (.inr rfl) rfl rfl ?_ | refine Za rfl rfl (.inl rfl) rfl ?_ | refine Za rfl rfl (.inr rfl) rfl ?_) | ((first | refine Zn rfl rfl rfl fun K hK => ?_ | refine Zh rfl rfl rfl fun K hK => ?_); go_simp; (try go_bits); (first | refine hK _ _ ?_ | refine hK _ ?_); clear hK K))
  exact ZE rfl rfl ⟨by rw [HW.out], by rw [HW.out]; exact h3, HG3.out⟩
end Go.Proofs.Ytkncomkncfcecaa
set_option linter.unusedVariables false
set_option linter.unusedSimpArgs false
namespace Go.Proofs.Ytkncomkncfcecaa
open Go.RowKit
end Go.Proofs.Ytkncomkncfcecaa
set_option linter.unusedVariables false
set_option linter.unusedSimpArgs false
namespace Go.Proofs.Ytkncomkncfcecaa
open Go.RowKit
attribute [local go_sem] Y1 Yl Yp ZT Yy Yo ZI ZO Yi ZN ZH ZU Ya
end Go.Proofs.Ytkncomkncfcecaa
set_option linter.unusedVariables false
set_option linter.unusedSimpArgs false
namespace Go.Proofs.Ytkncomkncfcecaa
open Go.RowKit
def NeQ (g x : Nat) (b : Nat) : Prop := b ≠ g ∧ b ≠ x
structure Duo (w0 W : World) (g x : Nat) (f k : FlashSt) : Prop where
  fs : FS (NeQ g x) W g f
  rf : RF (NeQ g x) W x k
  ge : w0.heap.size ≤ g
  lt : g < x
  bel : Below w0.heap.size w0 W
section
variable {w0 W W' : World} {g x : Nat} {f k f1 : FlashSt}
theorem neq_g (b : Nat) (h : NeQ g x b) : b ≠ g := h.1
theorem neq_x (b : Nat) (h : NeQ g x b) : b ≠ x := h.2
theorem Duo.next (h : Duo w0 W g x f k) (hb : Below W.heap.size W W') : Duo w0 W' g x f k := ⟨h.fs.below hb, h.rf.below hb, h.ge, h.lt, Z1 h.bel hb h.bel.size⟩
theorem Duo.fst (h : Duo w0 W g x f k) (hF : FS (NeQ g x) W' g f1) (hg : W.grownBy W' (some g)) : Duo w0 W' g x f1 k :=
  ⟨hF, h.rf.other hg (by have := h.lt; omega) neq_g, h.ge, h.lt, Xl h.bel hg h.bel.size h.ge⟩
theorem Duo.snd (h : Duo w0 W g x f k) (hF : RF (NeQ g x) W' x f1) (hg : W.grownBy W' (some x)) : Duo w0 W' g x f f1 :=
  ⟨h.fs.other hg (by have := h.lt; omega) neq_x, hF, h.ge, h.lt, Xl h.bel hg h.bel.size (by have := h.lt; have := h.ge; omega)⟩
theorem Duo.xlt (h : Duo w0 W g x f k) : x < W.heap.size := h.rf.lt
theorem Duo.fresh (h : Duo w0 W g x f k) : ∀ b, W.heap.size ≤ b → NeQ g x b := fun b hb => by have := h.rf.lt; have := h.lt; exact ⟨by omega, by omega⟩
theorem Duo.keeps (h : Duo w0 W g x f k) : Keeps w0 W := Keeps.of_below h.bel
theorem Duo.start (w0 w w1 w2 : World) (hb : Below w0.heap.size w0 w) (h1 : FS (fun _ => False) w1 w.heap.size f) (hb1 : Below w.heap.size w w1) (h2 : RF (fun _ => False) w2 w1.heap.size k) (hb2 : Below w1.heap.size w1 w2) : Duo w0 w2 w.heap.size w1.heap.size f k :=
  ⟨(h1.below hb2).weak fun _ h => h.elim, h2.weak fun _ h => h.elim, hb.size, h1.lt, Z1 (Z1 hb hb1 hb.size) hb2 (Nat.le_trans hb.size hb1.size)⟩
end
end Go.Proofs.Ytkncomkncfcecaa
set_option linter.unusedVariables false
set_option linter.unusedSimpArgs false
namespace Go.Proofs.Ytkncomkncfcecaa
open Go.RowKit
theorem YI (x : Int) (n : Nat) (N : Int) (w : World) (hN : N = n) (h0 : 0 < n) (hn : n ≤ 4294967296) :
    Calls Try.prog 72 #[.int .i64 x, .int .i64 N] w fun e w' => e = .returned (.int .i64 (within x n : Int)) ∧ w = w' := by
  subst hN
  have h0' : (0 : Int) < n := by omega
  have h1 : x.tmod n < n := Int.tmod_lt_of_pos x h0'
  have h2 : -(n : Int) < x.tmod n := by
    have := Int.tmod_eq_emod (a := x) (b := n)
    have hc := Int.emod_nonneg x (Int.ne_of_gt h0')
    split at this <;> omega
  have hm := Int.emod_nonneg x (Int.ne_of_gt h0')
  have hW : ((within x n : Nat) : Int) = x % n := by unfold within; omega
  clear hm
  rw [hW]
  clear hW
  go_enter Try.func72, Try.ntmps72
  go_wp2
  · go_ret
    exact ⟨Wb (emod_neg_ x n (by assumption) h0'), rfl⟩
  · go_ret
    exact ⟨Wb (emod_pos_ x n (by omega) h0'), rfl⟩
end Go.Proofs.Ytkncomkncfcecaa
