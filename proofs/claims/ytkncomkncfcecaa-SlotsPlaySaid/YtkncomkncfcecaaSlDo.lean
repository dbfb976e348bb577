/- An act of SlotsPlay at both memories. -/
import Derived.Test.YtkncomkncfcecaaSlotKnown
import Derived.Test.YtkncomkncfcecaaWithin4
import Derived.Test.YtkncomkncfcecaaShaRef
import Derived.Test.YtkncomkncfcecaaSlotAll
import Derived.Test.YtkncomkncfcecaaFlashDoW
import Derived.Test.YtkncomkncfcecaaKnV
import Derived.Test.YtkncomkncfcecaaFlashLaws
import Derived.Test.YtkncomkncfcecaaKnF
import Derived.Test.YtkncomkncfcecaaSlotBytes
set_option linter.unusedVariables false
set_option linter.unusedSimpArgs false
namespace Go.Proofs.Ytkncomkncfcecaa
open Go.RowKit
attribute [local go_sem] Y1 Yl Yp ZT Yy Yo ZI ZO Yi ZN ZH ZU Ya
theorem act_range6 {w : World} {g o : Nat} {a b c d : Int} {B : Option Addr} {m e : Nat} (h0 : w.cell? ⟨g, o, none⟩ = some (.int .i64 a)) (h1 : w.cell? ⟨g, o + 1, none⟩ = some (.int .i64 b)) (h2 : w.cell? ⟨g, o + 2, none⟩ = some (.int .i64 c)) (h3 : w.cell? ⟨g, o + 3, none⟩ = some (.int .i64 d)) (h4 : w.cell? ⟨g, o + 4, none⟩ = some (.slice B m e)) :
    w.rangeAt g o [.int .i64 a, .int .i64 b, .int .i64 c, .int .i64 d, .slice B m e] := fun j v hv => by
  match j, hv with
  | 0, hv => simp at hv; subst hv; exact h0
  | 1, hv => simp at hv; subst hv; exact h1
  | 2, hv => simp at hv; subst hv; exact h2
  | 3, hv => simp at hv; subst hv; exact h3
  | 4, hv => simp at hv; subst hv; exact h4
theorem tmod_bds6 (z n : Int) (h0 : 0 < n) : -n < z.tmod n ∧ z.tmod n < n := by
  have h1 : z.tmod n < n := Int.tmod_lt_of_pos z h0
  have := Int.tmod_eq_emod (a := z) (b := n)
  have hc := Int.emod_nonneg z (Int.ne_of_gt h0)
  refine ⟨?_, h1⟩
  split at this <;> omega
theorem Duo.act6 {w0 W Wm W' : World} {g x : Nat} {f k f1 k1 : FlashSt} (h : Duo w0 W g x f k) (hF : FS (NeQ g x) W' g f1) (hR : RF (NeQ g x) W' x k1) (h1 : W.grownBy Wm (some g)) (h2 : Wm.grownBy W' (some x)) : Duo w0 W' g x f1 k1 :=
  ⟨hF, hR, h.ge, h.lt, Xl (Xl h.bel h1 h.bel.size h.ge) h2 (Nat.le_trans h.bel.size h1.size) (by have := h.lt; have := h.ge; omega)⟩
set_option maxRecDepth 100000 in
set_option maxHeartbeats 8000000 in
theorem do6_any (w0 w : World) (g x : Nat) (f : FlashSt) (zk zn ak az ap an : Int) (B B2 : Option Addr) (m c m2 c2 : Nat) (b b2 : List UInt8) (hD : Duo w0 w g x f f) (hB : Bs w0 B m b) (hmc : m ≤ c) (hc : c ≤ 9223372036854775807) (hB2 : Bs w0 B2 m2 b2) (hmc2 : m2 ≤ c2) (hc2 : c2 ≤ 9223372036854775807) (hb : b.length ≤ 200) (hb2 : b2.length ≤ 40) :
    Calls Try.prog 30 #[.agg #[.int .i64 zk, .int .i64 zn, .slice B m c, .int .i64 ak, .int .i64 az, .int .i64 ap, .int .i64 an, .slice B2 m2 c2], .pointer (some ⟨g, 0, none⟩), .pointer (some ⟨x, 0, none⟩)] w fun e w' => e = .returned (.bool true) ∧ ∃ f', Duo w0 w' g x f' f' := by
  have HB := Lib.hid hB
  have HB2 := Lib.hid hB2
  have HML : Hid (m ≤ 200 ∧ m2 ≤ 40) := by have := hB.len; have := hB2.len; exact ⟨by omega, by omega⟩
  have D := Lib.hid hD
  clear hB hB2 hD hb
  refine ZZ Try.func30 rfl Try.ntmps30 rfl [(0, .agg #[.int .i64 zk, .int .i64 zn, .slice B m c, .int .i64 ak, .int .i64 az, .int .i64 ap, .int .i64 an, .slice B2 m2 c2]), (1, .pointer (some ⟨g, 0, none⟩)), (2, .pointer (some ⟨x, 0, none⟩))] rfl ?_
  refine Zv ?_
  refine Zc ?_
  refine Xx (⟨D.out.bel, trivial⟩ : Lay w0 w []) rfl rfl rfl rfl rfl ?_
  intro g3 w1 hg3 hb1 hL1
  have HNG : Hid (g3 ≠ g) := by show _ ≠ _; have := D.out.lt; have := D.out.xlt; omega
  have HNX : Hid (g3 ≠ x) := by show _ ≠ _; have := D.out.xlt; omega
  have D1 := Lib.hid (D.out.next hb1)
  have L1 := Lib.hid hL1
  clear D hL1 hb1 hg3
  repeat (first | refine Zq ?_ | refine Zm ?_ | (first | refine Zb rfl rfl (.inl rfl) rfl rfl ?_ | refine Zb rfl rfl (.inr rfl) rfl rfl ?_ | refine Za rfl rfl (.inl rfl) rfl ?_ | refine Za rfl rfl (.inr rfl) rfl ?_) | ((first | refine Zn rfl rfl rfl fun K hK => ?_ | refine Zh rfl rfl rfl fun K hK => ?_); go_simp; (try go_bits); (first | refine hK _ _ ?_ | refine hK _ ?_); clear hK K))
  refine KW.less [1, 2, 3] ?_
  simp only [nrm, lk, Nat.reduceBEq, cond_true, cond_false]
  refine Zv ?_
  have hp := YV zn 4 (by omega)
  have hr := YV zn 50 (by omega)
  obtain ⟨p, hpp⟩ : ∃ p, within zn 4 = p := ⟨_, rfl⟩
  obtain ⟨r, hrr⟩ : ∃ r, within zn 50 = r := ⟨_, rfl⟩
  rw [hpp] at hp
  rw [hrr] at hr
  obtain ⟨q, hq⟩ : ∃ q, r / 49 = q := ⟨_, rfl⟩
  have k1 : Int.tdiv (r : Int) 49 = (q : Int) := by rw [← hq]; rfl
  have k2 : (0 : Int) ≤ q := by omega
  have k3 : (q : Int) ≤ 1 := by omega
  obtain ⟨s, hs⟩ : ∃ s : Int, (p : Int) - (q : Int) = s := ⟨_, rfl⟩
  have k4 : -1 ≤ s := by omega
  have k5 : s ≤ 3 := by omega
  have HSI : Hid (I64 s) := by show I64 _; unfold I64; omega
  have HPP := Lib.hid hpp
  have HRR := Lib.hid hrr
  have k6 : (r : Int) ≤ 49 := by omega
  have k7 : (p : Int) ≤ 3 := by omega
  have k8 : (0 : Int) ≤ r := by omega
  have k9 : (0 : Int) ≤ p := by omega
  clear hpp hrr hq hp hr
  have D2 := Lib.hid (D1.out.next ((Below.refl _ w1).drew))
  have L2 := Lib.hid (L1.out.next ((Below.refl _ w1).drew))
  clear D1 L1
  have hR : Hold [(g3, .cells #[.int .i64 zk, .int .i64 zn, .slice B m c, .int .i64 ak, .int .i64 az, .int .i64 ap, .int .i64 an, .slice B2 m2 c2] 69 (0, 0))] _ := .cons (L2.out.at_ 0 rfl) (.nil _)
  have r1 : ∀ W, Hold [(g3, .cells #[.int .i64 zk, .int .i64 zn, .slice B m c, .int .i64 ak, .int .i64 az, .int .i64 ap, .int .i64 an, .slice B2 m2 c2] 69 (0, 0))] W → W.cell? ⟨g3, 1, none⟩ = _ := Hold.cell (cs := [.int .i64 zk, .int .i64 zn, .slice B m c, .int .i64 ak, .int .i64 az, .int .i64 ap, .int .i64 an, .slice B2 m2 c2]) 0 rfl rfl
  refine ZX (Hold [(g3, .cells #[.int .i64 zk, .int .i64 zn, .slice B m c, .int .i64 ak, .int .i64 az, .int .i64 ap, .int .i64 an, .slice B2 m2 c2] 69 (0, 0))]) [true, true, false, true, true, false, true, true, true] (by kernel_rfl) (by kernel_rfl) hR ?_
  generalize w1.drew = w2 at *
  repeat (first | refine Ym ?_ | refine Yj rfl rfl ?_ | refine ZM rfl rfl rfl rfl ?_ | (first | refine Z5 rfl rfl (.inl rfl) rfl rfl ?_ | refine Z5 rfl rfl (.inr rfl) rfl rfl ?_ | refine Z2 rfl rfl (.inl rfl) rfl ?_ | refine Z2 rfl rfl (.inr rfl) rfl ?_) | (refine Yf rfl rfl rfl ?_; apply Exists.intro; refine And.intro (fun W hW N hN => ?_) ?_; · (go_simp; (try go_bits); exact hN)))
  refine YT ?_
  refine Z9 rfl rfl rfl Try.func11 rfl (by kernel_rfl) rfl ?_
  refine Calls.mono (Xk zn 4 4 _ rfl (by omega) (by omega)) ?_
  rintro e _ ⟨rfl, rfl⟩
  rw [HPP.out]
  refine ⟨_, rfl, ?_⟩
  refine Zq ?_
  refine kq_f hR ?_
  repeat (first | refine Ym ?_ | refine Yj rfl rfl ?_ | refine ZM rfl rfl rfl rfl ?_ | (first | refine Z5 rfl rfl (.inl rfl) rfl rfl ?_ | refine Z5 rfl rfl (.inr rfl) rfl rfl ?_ | refine Z2 rfl rfl (.inl rfl) rfl ?_ | refine Z2 rfl rfl (.inr rfl) rfl ?_) | (refine Yf rfl rfl rfl ?_; apply Exists.intro; refine And.intro (fun W hW N hN => ?_) ?_; · (go_simp; (try go_bits); exact hN)))
  refine YT ?_
  refine Z9 rfl rfl rfl Try.func11 rfl (by kernel_rfl) rfl ?_
  refine Calls.mono (Xk zn 50 50 _ rfl (by omega) (by omega)) ?_
  rintro e _ ⟨rfl, rfl⟩
  rw [HRR.out]
  refine ⟨_, rfl, ?_⟩
  refine Zq ?_
  refine kq_f hR ?_
  repeat (first | refine Ym ?_ | refine Yj rfl rfl ?_ | refine ZM rfl rfl rfl rfl ?_ | (first | refine Z5 rfl rfl (.inl rfl) rfl rfl ?_ | refine Z5 rfl rfl (.inr rfl) rfl rfl ?_ | refine Z2 rfl rfl (.inl rfl) rfl ?_ | refine Z2 rfl rfl (.inr rfl) rfl ?_) | (refine Yf rfl rfl rfl ?_; apply Exists.intro; refine And.intro (fun W hW N hN => ?_) ?_; · (go_simp; (try go_bits); exact hN)))
  refine Zm ?_
  clear hR r1 k1 k2 k3 hs k6 k7 k8 k9 HPP HRR
  refine KW.less [1, 2, 3, 7] ?_
  simp only [nrm, lk, Nat.reduceBEq, cond_true, cond_false]
  have c0 := L2.out.get (j := 0) 0 rfl rfl
  repeat (first | refine Zv ?_ | refine Zc ?_ | refine Zq ?_ | refine Zm ?_ | refine Zp ?_ | refine Zy rfl ?_ | refine Zx rfl ?_ | refine Zu ?_ | refine Zz rfl rfl ?_ | refine Zt rfl rfl rfl rfl ?_ | (first | refine Zb rfl rfl (.inl rfl) rfl rfl ?_ | refine Zb rfl rfl (.inr rfl) rfl rfl ?_ | refine Za rfl rfl (.inl rfl) rfl ?_ | refine Za rfl rfl (.inr rfl) rfl ?_) | ((first | refine Zn rfl rfl rfl fun K hK => ?_ | refine Zh rfl rfl rfl fun K hK => ?_); go_simp; (try go_bits); (first | refine hK _ _ ?_ | refine hK _ ?_); clear hK K))
  refine Z9 rfl rfl rfl Try.func11 rfl (by kernel_rfl) rfl ?_
  refine Calls.mono (Xk zk 11 11 _ rfl (by omega) (by omega)) ?_
  rintro e _ ⟨rfl, rfl⟩
  refine ⟨_, rfl, ?_⟩
  have hk := YV zk 11 (by omega)
  obtain ⟨k, hkk⟩ : ∃ k, within zk 11 = k := ⟨_, rfl⟩
  rw [hkk] at hk ⊢
  have HKK := Lib.hid hkk
  clear hkk c0
  repeat (first | refine Zq ?_ | refine Zm ?_ | (first | refine Zb rfl rfl (.inl rfl) rfl rfl ?_ | refine Zb rfl rfl (.inr rfl) rfl rfl ?_ | refine Za rfl rfl (.inl rfl) rfl ?_ | refine Za rfl rfl (.inr rfl) rfl ?_) | ((first | refine Zn rfl rfl rfl fun K hK => ?_ | refine Zh rfl rfl rfl fun K hK => ?_); go_simp; (try go_bits); (first | refine hK _ _ ?_ | refine hK _ ?_); clear hK K))
  refine Zs ?_
  obtain ⟨b1, hb1⟩ : ∃ b1, decide (k ≤ 2) = b1 := ⟨_, rfl⟩
  obtain ⟨b3, hb3⟩ : ∃ b3, decide (k = 3 ∨ k = 4 ∨ k = 5 ∨ k = 7) = b3 := ⟨_, rfl⟩
  refine kw_cut (fun L W => Hid (Duo w0 W g x f f) ∧ Hid (Lay w0 W [(g3, #[.int .i64 zk, .int .i64 zn, .slice B m c, .int .i64 ak, .int .i64 az, .int .i64 ap, .int .i64 an, .slice B2 m2 c2], 69)]) ∧ L = [(1, .pointer (some ⟨g, 0, none⟩)), (2, .pointer (some ⟨x, 0, none⟩)), (3, .pointer (some ⟨g3, 0, none⟩)), (7, .int .i64 s), (20, .int .i64 (k : Int)), (21, .bool b1)]) ?_ ?_
  · by_cases d0 : k = 0
    · obtain rfl : b1 = true := by rw [← hb1, decide_eq_true_eq]; omega
      have q0 : ((k : Int) == 0) = true := by rw [beq_iff_eq]; omega
      clear hb1 hb3 hk d0
      repeat (first | refine Zv ?_ | refine Zc ?_ | refine Zq ?_ | refine Zm ?_ | refine Zp ?_ | refine Zy rfl ?_ | refine Zx rfl ?_ | refine Zu ?_ | refine Zz rfl rfl ?_ | refine Zt rfl rfl rfl rfl ?_ | (first | refine Zb rfl rfl (.inl rfl) rfl rfl ?_ | refine Zb rfl rfl (.inr rfl) rfl rfl ?_ | refine Za rfl rfl (.inl rfl) rfl ?_ | refine Za rfl rfl (.inr rfl) rfl ?_) | ((first | refine Zn rfl rfl rfl fun K hK => ?_ | refine Zh rfl rfl rfl fun K hK => ?_); go_simp; (try go_bits); (first | refine hK _ _ ?_ | refine hK _ ?_); clear hK K))
      refine YU [1, 2, 3, 7, 20, 21] ?_
      exact ⟨D2, L2, rfl⟩
    by_cases d1 : k = 1
    · obtain rfl : b1 = true := by rw [← hb1, decide_eq_true_eq]; omega
      have q0 : ((k : Int) == 0) = false := by rw [beq_eq_false_iff_ne, ne_eq]; omega
      have q1 : ((k : Int) == 1) = true := by rw [beq_iff_eq]; omega
      clear hb1 hb3 hk d0 d1
      repeat (first | refine Zv ?_ | refine Zc ?_ | refine Zq ?_ | refine Zm ?_ | refine Zp ?_ | refine Zy rfl ?_ | refine Zx rfl ?_ | refine Zu ?_ | refine Zz rfl rfl ?_ | refine Zt rfl rfl rfl rfl ?_ | (first | refine Zb rfl rfl (.inl rfl) rfl rfl ?_ | refine Zb rfl rfl (.inr rfl) rfl rfl ?_ | refine Za rfl rfl (.inl rfl) rfl ?_ | refine Za rfl rfl (.inr rfl) rfl ?_) | ((first | refine Zn rfl rfl rfl fun K hK => ?_ | refine Zh rfl rfl rfl fun K hK => ?_); go_simp; (try go_bits); (first | refine hK _ _ ?_ | refine hK _ ?_); clear hK K))
      refine YU [1, 2, 3, 7, 20, 21] ?_
      exact ⟨D2, L2, rfl⟩
    by_cases d2 : k = 2
    · obtain rfl : b1 = true := by rw [← hb1, decide_eq_true_eq]; omega
      have q0 : ((k : Int) == 0) = false := by rw [beq_eq_false_iff_ne, ne_eq]; omega
      have q1 : ((k : Int) == 1) = false := by rw [beq_eq_false_iff_ne, ne_eq]; omega
      have q2 : ((k : Int) == 2) = true := by rw [beq_iff_eq]; omega
      clear hb1 hb3 hk d0 d1 d2
      repeat (first | refine Zv ?_ | refine Zc ?_ | refine Zq ?_ | refine Zm ?_ | refine Zp ?_ | refine Zy rfl ?_ | refine Zx rfl ?_ | refine Zu ?_ | refine Zz rfl rfl ?_ | refine Zt rfl rfl rfl rfl ?_ | (first | refine Zb rfl rfl (.inl rfl) rfl rfl ?_ | refine Zb rfl rfl (.inr rfl) rfl rfl ?_ | refine Za rfl rfl (.inl rfl) rfl ?_ | refine Za rfl rfl (.inr rfl) rfl ?_) | ((first | refine Zn rfl rfl rfl fun K hK => ?_ | refine Zh rfl rfl rfl fun K hK => ?_); go_simp; (try go_bits); (first | refine hK _ _ ?_ | refine hK _ ?_); clear hK K))
      refine YU [1, 2, 3, 7, 20, 21] ?_
      exact ⟨D2, L2, rfl⟩
    obtain rfl : b1 = false := by rw [← hb1, decide_eq_false_iff_not]; omega
    have q0 : ((k : Int) == 0) = false := by rw [beq_eq_false_iff_ne, ne_eq]; omega
    have q1 : ((k : Int) == 1) = false := by rw [beq_eq_false_iff_ne, ne_eq]; omega
    have q2 : ((k : Int) == 2) = false := by rw [beq_eq_false_iff_ne, ne_eq]; omega
    clear hb1 hb3 hk d0 d1 d2
    repeat (first | refine Zv ?_ | refine Zc ?_ | refine Zq ?_ | refine Zm ?_ | refine Zp ?_ | refine Zy rfl ?_ | refine Zx rfl ?_ | refine Zu ?_ | refine Zz rfl rfl ?_ | refine Zt rfl rfl rfl rfl ?_ | (first | refine Zb rfl rfl (.inl rfl) rfl rfl ?_ | refine Zb rfl rfl (.inr rfl) rfl rfl ?_ | refine Za rfl rfl (.inl rfl) rfl ?_ | refine Za rfl rfl (.inr rfl) rfl ?_) | ((first | refine Zn rfl rfl rfl fun K hK => ?_ | refine Zh rfl rfl rfl fun K hK => ?_); go_simp; (try go_bits); (first | refine hK _ _ ?_ | refine hK _ ?_); clear hK K))
    refine YU [1, 2, 3, 7, 20, 21] ?_
    exact ⟨D2, L2, rfl⟩
  clear L2 D2
  rintro L W ⟨D, LL, rfl⟩
  cases hb1' : b1 with
  | true =>
    rw [hb1'] at hb1
    obtain ⟨v, F, hvF⟩ : ∃ v F, storeP f s b = (v, F) := ⟨_, _, rfl⟩
    have HE := Lib.hid hvF
    clear hvF hb1 hb3 hk hb1'
    refine Zy rfl ?_
    refine Zv ?_
    have D4 := Lib.hid (D.out.next ((Below.refl _ W).drew))
    have L4 := Lib.hid (LL.out.next ((Below.refl _ W).drew))
    clear D LL
    have hR : Hold [(g3, .cells #[.int .i64 zk, .int .i64 zn, .slice B m c, .int .i64 ak, .int .i64 az, .int .i64 ap, .int .i64 an, .slice B2 m2 c2] 69 (0, 0))] _ := .cons (L4.out.at_ 0 rfl) (.nil _)
    have r2 : ∀ W, Hold [(g3, .cells #[.int .i64 zk, .int .i64 zn, .slice B m c, .int .i64 ak, .int .i64 az, .int .i64 ap, .int .i64 an, .slice B2 m2 c2] 69 (0, 0))] W → W.cell? ⟨g3, 2, none⟩ = _ := Hold.cell (cs := [.int .i64 zk, .int .i64 zn, .slice B m c, .int .i64 ak, .int .i64 az, .int .i64 ap, .int .i64 an, .slice B2 m2 c2]) 0 rfl rfl
    refine ZX (Hold [(g3, .cells #[.int .i64 zk, .int .i64 zn, .slice B m c, .int .i64 ak, .int .i64 az, .int .i64 ap, .int .i64 an, .slice B2 m2 c2] 69 (0, 0))]) [true, true, false, true, true, false, false, true, true, true, true, false, true, true] (by kernel_rfl) (by kernel_rfl) hR ?_
    generalize W.drew = w4 at *
    repeat (first | refine Ym ?_ | refine Yj rfl rfl ?_ | refine ZM rfl rfl rfl rfl ?_ | (first | refine Z5 rfl rfl (.inl rfl) rfl rfl ?_ | refine Z5 rfl rfl (.inr rfl) rfl rfl ?_ | refine Z2 rfl rfl (.inl rfl) rfl ?_ | refine Z2 rfl rfl (.inr rfl) rfl ?_) | (refine Yf rfl rfl rfl ?_; apply Exists.intro; refine And.intro (fun W hW N hN => ?_) ?_; · (go_simp; (try go_bits); exact hN)))
    refine YT ?_
    ((first | refine Zn rfl rfl rfl fun K hK => ?_ | refine Zh rfl rfl rfl fun K hK => ?_); go_simp; (try go_bits); (first | refine hK _ _ ?_ | refine hK _ ?_); clear hK K)
    refine Zq ?_
    refine kq_f (hR.below ((Below.refl _ _).alloc (Nat.le_refl _) _)) ?_
    repeat (first | refine Ym ?_ | refine Yj rfl rfl ?_ | refine ZM rfl rfl rfl rfl ?_ | (first | refine Z5 rfl rfl (.inl rfl) rfl rfl ?_ | refine Z5 rfl rfl (.inr rfl) rfl rfl ?_ | refine Z2 rfl rfl (.inl rfl) rfl ?_ | refine Z2 rfl rfl (.inr rfl) rfl ?_) | (refine Yf rfl rfl rfl ?_; apply Exists.intro; refine And.intro (fun W hW N hN => ?_) ?_; · (go_simp; (try go_bits); exact hN)))
    refine YT ?_
    refine kl_clone _ rfl B m c b (HB.out.keep D4.out.keeps) (by have := HML.out; omega) rfl rfl rfl rfl rfl rfl ?_
    intro v5 w5 hown5 hb5
    obtain ⟨A5, c5, rfl, hB5, hn5, hc5, ha5⟩ := eb_own hown5
    have hR := hR.below hb5
    have hA5 : 0 < m → Away g A5 := fun _ a e => by have := ha5 a e; have := D4.out.lt; have := D4.out.xlt; omega
    have D5 := Lib.hid (D4.out.next hb5)
    have L5 := Lib.hid (L4.out.next hb5)
    have HB5 := Lib.hid hB5
    have HA5 : Hid (0 < m → Away g A5) := hA5
    clear D4 L4 hown5 hb5 ha5 hB5 hA5
    refine Zq ?_
    refine kq_f hR ?_
    repeat (first | refine Ym ?_ | refine Yj rfl rfl ?_ | refine ZM rfl rfl rfl rfl ?_ | (first | refine Z5 rfl rfl (.inl rfl) rfl rfl ?_ | refine Z5 rfl rfl (.inr rfl) rfl rfl ?_ | refine Z2 rfl rfl (.inl rfl) rfl ?_ | refine Z2 rfl rfl (.inr rfl) rfl ?_) | (refine Yf rfl rfl rfl ?_; apply Exists.intro; refine And.intro (fun W hW N hN => ?_) ?_; · (go_simp; (try go_bits); exact hN)))
    refine YT ?_
    refine Z9 rfl rfl rfl Try.func17 rfl (by kernel_rfl) rfl ?_
    refine Calls.mono (store_any (NeQ g x) g neq_g f s A5 m c5 b w5 D5.out.fs HSI.out HB5.out HA5.out hn5 hc5) ?_
    rintro e w6 ⟨rfl, hf6, hg6⟩
    have D6 := Lib.hid (D5.out.fst hf6 hg6)
    have L6 := Lib.hid (L5.out.grown hg6 D5.out.ge (fun p hp => by simp at hp; subst hp; exact HNG.out))
    have hR := hR.grown hg6 (fun p hp => by simp at hp; subst hp; exact fun h => HNG.out (by injection h with h; exact h.symm))
    rw [HE.out] at D6 ⊢
    dsimp only at D6 ⊢
    clear D5 L5 hf6 hg6
    refine ⟨_, rfl, ?_⟩
    refine Zq ?_
    refine kq_f hR ?_
    repeat (first | refine Ym ?_ | refine Yj rfl rfl ?_ | refine ZM rfl rfl rfl rfl ?_ | (first | refine Z5 rfl rfl (.inl rfl) rfl rfl ?_ | refine Z5 rfl rfl (.inr rfl) rfl rfl ?_ | refine Z2 rfl rfl (.inl rfl) rfl ?_ | refine Z2 rfl rfl (.inr rfl) rfl ?_) | (refine Yf rfl rfl rfl ?_; apply Exists.intro; refine And.intro (fun W hW N hN => ?_) ?_; · (go_simp; (try go_bits); exact hN)))
    refine YT ?_
    refine Z9 rfl rfl rfl Try.func21 rfl (by kernel_rfl) rfl ?_
    refine Calls.mono (storeR_any (NeQ g x) x neq_x f s B m c b w6 D6.out.rf HSI.out (HB.out.keep D6.out.keeps) (fun h a e => by have := HB.out.inQ h a e; have := D6.out.ge; have := D6.out.lt; omega) hmc hc) ?_
    rintro e w7 ⟨rfl, hf7, hg7⟩
    have D7 := Lib.hid (D6.out.snd hf7 hg7)
    have L7 := Lib.hid (L6.out.grown hg7 (by have := D6.out.ge; have := D6.out.lt; omega) (fun p hp => by simp at hp; subst hp; exact HNX.out))
    have hR := hR.grown hg7 (fun p hp => by simp at hp; subst hp; exact fun h => HNX.out (by injection h with h; exact h.symm))
    rw [HE.out] at D7 ⊢
    dsimp only at D7 ⊢
    clear D6 L6 hf7 hg7
    refine ⟨_, rfl, ?_⟩
    refine Zq ?_
    refine kq_f hR ?_
    have e1 : (v == v) = true := beq_self_eq_true _
    repeat (first | refine Ym ?_ | refine Yj rfl rfl ?_ | refine ZM rfl rfl rfl rfl ?_ | (first | refine Z5 rfl rfl (.inl rfl) rfl rfl ?_ | refine Z5 rfl rfl (.inr rfl) rfl rfl ?_ | refine Z2 rfl rfl (.inl rfl) rfl ?_ | refine Z2 rfl rfl (.inr rfl) rfl ?_) | (refine Yf rfl rfl rfl ?_; apply Exists.intro; refine And.intro (fun W hW N hN => ?_) ?_; · (go_simp; (try go_bits); exact hN)))
    refine Zm ?_
    clear e1 hR r2
    repeat (first | refine Zv ?_ | refine Zs ?_ | refine Zu ?_ | refine Zc ?_ | refine Zq ?_ | refine Zm ?_ | refine Zp ?_ | refine Zw ?_ | refine Zf ?_ | refine Zd rfl ?_ | refine Zj rfl ?_ | refine Ze ?_ | refine Z3 ?_ | refine Zk ?_ | refine Zg ?_ | refine Zi ?_ | refine Zy rfl ?_ | refine Zx rfl ?_ | refine Zz rfl rfl ?_ | refine Zt rfl rfl rfl rfl ?_ | refine Zr rfl rfl rfl ?_ | (first | refine Zb rfl rfl (.inl rfl) rfl rfl ?_ | refine Zb rfl rfl (.inr rfl) rfl rfl ?_ | refine Za rfl rfl (.inl rfl) rfl ?_ | refine Za rfl rfl (.inr rfl) rfl ?_) | ((first | refine Zn rfl rfl rfl fun K hK => ?_ | refine Zh rfl rfl rfl fun K hK => ?_); go_simp; (try go_bits); (first | refine hK _ _ ?_ | refine hK _ ?_); clear hK K))
    exact ZE rfl rfl ⟨rfl, F, D7.out⟩
  | false =>
  rw [hb1'] at hb1
  clear hb1'
  refine Zx rfl ?_
  refine kw_cut (fun L W => Hid (Duo w0 W g x f f) ∧ Hid (Lay w0 W [(g3, #[.int .i64 zk, .int .i64 zn, .slice B m c, .int .i64 ak, .int .i64 az, .int .i64 ap, .int .i64 an, .slice B2 m2 c2], 69)]) ∧ L = [(1, .pointer (some ⟨g, 0, none⟩)), (2, .pointer (some ⟨x, 0, none⟩)), (3, .pointer (some ⟨g3, 0, none⟩)), (7, .int .i64 s), (20, .int .i64 (k : Int)), (38, .bool b3)]) ?_ ?_
  · by_cases d3 : k = 3
    · obtain rfl : b3 = true := by rw [← hb3, decide_eq_true_eq]; omega
      have q3 : ((k : Int) == 3) = true := by rw [beq_iff_eq]; omega
      clear hb1 hb3 hk d3
      repeat (first | refine Zv ?_ | refine Zc ?_ | refine Zq ?_ | refine Zm ?_ | refine Zp ?_ | refine Zy rfl ?_ | refine Zx rfl ?_ | refine Zu ?_ | refine Zz rfl rfl ?_ | refine Zt rfl rfl rfl rfl ?_ | (first | refine Zb rfl rfl (.inl rfl) rfl rfl ?_ | refine Zb rfl rfl (.inr rfl) rfl rfl ?_ | refine Za rfl rfl (.inl rfl) rfl ?_ | refine Za rfl rfl (.inr rfl) rfl ?_) | ((first | refine Zn rfl rfl rfl fun K hK => ?_ | refine Zh rfl rfl rfl fun K hK => ?_); go_simp; (try go_bits); (first | refine hK _ _ ?_ | refine hK _ ?_); clear hK K))
      refine YU [1, 2, 3, 7, 20, 38] ?_
      exact ⟨D, LL, rfl⟩
    by_cases d4 : k = 4
    · obtain rfl : b3 = true := by rw [← hb3, decide_eq_true_eq]; omega
      have q3 : ((k : Int) == 3) = false := by rw [beq_eq_false_iff_ne, ne_eq]; omega
      have q4 : ((k : Int) == 4) = true := by rw [beq_iff_eq]; omega
      clear hb1 hb3 hk d3 d4
      repeat (first | refine Zv ?_ | refine Zc ?_ | refine Zq ?_ | refine Zm ?_ | refine Zp ?_ | refine Zy rfl ?_ | refine Zx rfl ?_ | refine Zu ?_ | refine Zz rfl rfl ?_ | refine Zt rfl rfl rfl rfl ?_ | (first | refine Zb rfl rfl (.inl rfl) rfl rfl ?_ | refine Zb rfl rfl (.inr rfl) rfl rfl ?_ | refine Za rfl rfl (.inl rfl) rfl ?_ | refine Za rfl rfl (.inr rfl) rfl ?_) | ((first | refine Zn rfl rfl rfl fun K hK => ?_ | refine Zh rfl rfl rfl fun K hK => ?_); go_simp; (try go_bits); (first | refine hK _ _ ?_ | refine hK _ ?_); clear hK K))
      refine YU [1, 2, 3, 7, 20, 38] ?_
      exact ⟨D, LL, rfl⟩
    by_cases d5 : k = 5
    · obtain rfl : b3 = true := by rw [← hb3, decide_eq_true_eq]; omega
      have q3 : ((k : Int) == 3) = false := by rw [beq_eq_false_iff_ne, ne_eq]; omega
      have q4 : ((k : Int) == 4) = false := by rw [beq_eq_false_iff_ne, ne_eq]; omega
      have q5 : ((k : Int) == 5) = true := by rw [beq_iff_eq]; omega
      clear hb1 hb3 hk d3 d4 d5
      repeat (first | refine Zv ?_ | refine Zc ?_ | refine Zq ?_ | refine Zm ?_ | refine Zp ?_ | refine Zy rfl ?_ | refine Zx rfl ?_ | refine Zu ?_ | refine Zz rfl rfl ?_ | refine Zt rfl rfl rfl rfl ?_ | (first | refine Zb rfl rfl (.inl rfl) rfl rfl ?_ | refine Zb rfl rfl (.inr rfl) rfl rfl ?_ | refine Za rfl rfl (.inl rfl) rfl ?_ | refine Za rfl rfl (.inr rfl) rfl ?_) | ((first | refine Zn rfl rfl rfl fun K hK => ?_ | refine Zh rfl rfl rfl fun K hK => ?_); go_simp; (try go_bits); (first | refine hK _ _ ?_ | refine hK _ ?_); clear hK K))
      refine YU [1, 2, 3, 7, 20, 38] ?_
      exact ⟨D, LL, rfl⟩
    by_cases d7 : k = 7
    · obtain rfl : b3 = true := by rw [← hb3, decide_eq_true_eq]; omega
      have q3 : ((k : Int) == 3) = false := by rw [beq_eq_false_iff_ne, ne_eq]; omega
      have q4 : ((k : Int) == 4) = false := by rw [beq_eq_false_iff_ne, ne_eq]; omega
      have q5 : ((k : Int) == 5) = false := by rw [beq_eq_false_iff_ne, ne_eq]; omega
      have q7 : ((k : Int) == 7) = true := by rw [beq_iff_eq]; omega
      clear hb1 hb3 hk d3 d4 d5 d7
      repeat (first | refine Zv ?_ | refine Zc ?_ | refine Zq ?_ | refine Zm ?_ | refine Zp ?_ | refine Zy rfl ?_ | refine Zx rfl ?_ | refine Zu ?_ | refine Zz rfl rfl ?_ | refine Zt rfl rfl rfl rfl ?_ | (first | refine Zb rfl rfl (.inl rfl) rfl rfl ?_ | refine Zb rfl rfl (.inr rfl) rfl rfl ?_ | refine Za rfl rfl (.inl rfl) rfl ?_ | refine Za rfl rfl (.inr rfl) rfl ?_) | ((first | refine Zn rfl rfl rfl fun K hK => ?_ | refine Zh rfl rfl rfl fun K hK => ?_); go_simp; (try go_bits); (first | refine hK _ _ ?_ | refine hK _ ?_); clear hK K))
      refine YU [1, 2, 3, 7, 20, 38] ?_
      exact ⟨D, LL, rfl⟩
    obtain rfl : b3 = false := by rw [← hb3, decide_eq_false_iff_not]; omega
    have q3 : ((k : Int) == 3) = false := by rw [beq_eq_false_iff_ne, ne_eq]; omega
    have q4 : ((k : Int) == 4) = false := by rw [beq_eq_false_iff_ne, ne_eq]; omega
    have q5 : ((k : Int) == 5) = false := by rw [beq_eq_false_iff_ne, ne_eq]; omega
    have q7 : ((k : Int) == 7) = false := by rw [beq_eq_false_iff_ne, ne_eq]; omega
    clear hb1 hb3 hk d3 d4 d5 d7
    repeat (first | refine Zv ?_ | refine Zc ?_ | refine Zq ?_ | refine Zm ?_ | refine Zp ?_ | refine Zy rfl ?_ | refine Zx rfl ?_ | refine Zu ?_ | refine Zz rfl rfl ?_ | refine Zt rfl rfl rfl rfl ?_ | (first | refine Zb rfl rfl (.inl rfl) rfl rfl ?_ | refine Zb rfl rfl (.inr rfl) rfl rfl ?_ | refine Za rfl rfl (.inl rfl) rfl ?_ | refine Za rfl rfl (.inr rfl) rfl ?_) | ((first | refine Zn rfl rfl rfl fun K hK => ?_ | refine Zh rfl rfl rfl fun K hK => ?_); go_simp; (try go_bits); (first | refine hK _ _ ?_ | refine hK _ ?_); clear hK K))
    refine YU [1, 2, 3, 7, 20, 38] ?_
    exact ⟨D, LL, rfl⟩
  clear LL D
  rintro L W ⟨D, LL, rfl⟩
  cases hb3' : b3 with
  | true =>
    rw [hb3', decide_eq_true_eq] at hb3
    clear hb3'
    refine Zy rfl ?_
    refine Zv ?_
    refine Zc ?_
    repeat (first | refine Zq ?_ | refine Zm ?_ | (first | refine Zb rfl rfl (.inl rfl) rfl rfl ?_ | refine Zb rfl rfl (.inr rfl) rfl rfl ?_ | refine Za rfl rfl (.inl rfl) rfl ?_ | refine Za rfl rfl (.inr rfl) rfl ?_) | ((first | refine Zn rfl rfl rfl fun K hK => ?_ | refine Zh rfl rfl rfl fun K hK => ?_); go_simp; (try go_bits); (first | refine hK _ _ ?_ | refine hK _ ?_); clear hK K))
    refine KW.less [1, 2, 3, 7, 8] ?_
    simp only [nrm, lk, Nat.reduceBEq, cond_true, cond_false]
    refine kw_cut (fun L W => ∃ f, Hid (Duo w0 W g x f f) ∧ Hid (Lay w0 W [(g3, #[.int .i64 zk, .int .i64 zn, .slice B m c, .int .i64 ak, .int .i64 az, .int .i64 ap, .int .i64 an, .slice B2 m2 c2], 69)]) ∧ L = [(1, .pointer (some ⟨g, 0, none⟩)), (2, .pointer (some ⟨x, 0, none⟩)), (3, .pointer (some ⟨g3, 0, none⟩)), (7, .int .i64 s), (8, .bool true)]) ?_ ?_
    · have c0 := LL.out.get (j := 0) 0 rfl rfl
      repeat (first | refine Zv ?_ | refine Zc ?_ | refine Zq ?_ | refine Zm ?_ | (first | refine Zb rfl rfl (.inl rfl) rfl rfl ?_ | refine Zb rfl rfl (.inr rfl) rfl rfl ?_ | refine Za rfl rfl (.inl rfl) rfl ?_ | refine Za rfl rfl (.inr rfl) rfl ?_) | ((first | refine Zn rfl rfl rfl fun K hK => ?_ | refine Zh rfl rfl rfl fun K hK => ?_); go_simp; (try go_bits); (first | refine hK _ _ ?_ | refine hK _ ?_); clear hK K))
      refine Z9 rfl rfl rfl Try.func11 rfl (by kernel_rfl) rfl ?_
      refine Calls.mono (Xk zk 11 11 _ rfl (by omega) (by omega)) ?_
      rintro e _ ⟨rfl, rfl⟩
      refine ⟨_, rfl, ?_⟩
      rw [HKK.out]
      clear c0
      by_cases d7 : k = 7
      case neg =>
        have q7 : ((k : Int) == 7) = false := by rw [beq_eq_false_iff_ne, ne_eq]; omega
        clear hb1 hb3 hk d7
        repeat (first | refine Zv ?_ | refine Zc ?_ | refine Zq ?_ | refine Zm ?_ | refine Zp ?_ | refine Zy rfl ?_ | refine Zx rfl ?_ | refine Zu ?_ | refine Zz rfl rfl ?_ | refine Zt rfl rfl rfl rfl ?_ | (first | refine Zb rfl rfl (.inl rfl) rfl rfl ?_ | refine Zb rfl rfl (.inr rfl) rfl rfl ?_ | refine Za rfl rfl (.inl rfl) rfl ?_ | refine Za rfl rfl (.inr rfl) rfl ?_) | ((first | refine Zn rfl rfl rfl fun K hK => ?_ | refine Zh rfl rfl rfl fun K hK => ?_); go_simp; (try go_bits); (first | refine hK _ _ ?_ | refine hK _ ?_); clear hK K))
        refine YU [1, 2, 3, 7, 8] ?_
        exact ⟨f, D, LL, rfl⟩
      have q7 : ((k : Int) == 7) = true := by rw [beq_iff_eq]; omega
      obtain ⟨v, F, hvF⟩ : ∃ v F, storeP f s b = (v, F) := ⟨_, _, rfl⟩
      have HE := Lib.hid hvF
      clear hvF hb1 hb3 hk d7
      repeat (first | refine Zv ?_ | refine Zc ?_ | refine Zq ?_ | refine Zm ?_ | refine Zp ?_ | refine Zy rfl ?_ | refine Zx rfl ?_ | refine Zu ?_ | refine Zz rfl rfl ?_ | refine Zt rfl rfl rfl rfl ?_ | (first | refine Zb rfl rfl (.inl rfl) rfl rfl ?_ | refine Zb rfl rfl (.inr rfl) rfl rfl ?_ | refine Za rfl rfl (.inl rfl) rfl ?_ | refine Za rfl rfl (.inr rfl) rfl ?_) | ((first | refine Zn rfl rfl rfl fun K hK => ?_ | refine Zh rfl rfl rfl fun K hK => ?_); go_simp; (try go_bits); (first | refine hK _ _ ?_ | refine hK _ ?_); clear hK K))
      have D4 := Lib.hid (D.out.next ((Below.refl _ W).drew))
      have L4 := Lib.hid (LL.out.next ((Below.refl _ W).drew))
      clear D LL
      have hR : Hold [(g3, .cells #[.int .i64 zk, .int .i64 zn, .slice B m c, .int .i64 ak, .int .i64 az, .int .i64 ap, .int .i64 an, .slice B2 m2 c2] 69 (0, 0))] _ := .cons (L4.out.at_ 0 rfl) (.nil _)
      have r2 : ∀ W, Hold [(g3, .cells #[.int .i64 zk, .int .i64 zn, .slice B m c, .int .i64 ak, .int .i64 az, .int .i64 ap, .int .i64 an, .slice B2 m2 c2] 69 (0, 0))] W → W.cell? ⟨g3, 2, none⟩ = _ := Hold.cell (cs := [.int .i64 zk, .int .i64 zn, .slice B m c, .int .i64 ak, .int .i64 az, .int .i64 ap, .int .i64 an, .slice B2 m2 c2]) 0 rfl rfl
      refine ZX (Hold [(g3, .cells #[.int .i64 zk, .int .i64 zn, .slice B m c, .int .i64 ak, .int .i64 az, .int .i64 ap, .int .i64 an, .slice B2 m2 c2] 69 (0, 0))]) [true, true, false, true, true, false, false, true, true, true, true, false, true, true] (by kernel_rfl) (by kernel_rfl) hR ?_
      generalize W.drew = w4 at *
      repeat (first | refine Ym ?_ | refine Yj rfl rfl ?_ | refine ZM rfl rfl rfl rfl ?_ | (first | refine Z5 rfl rfl (.inl rfl) rfl rfl ?_ | refine Z5 rfl rfl (.inr rfl) rfl rfl ?_ | refine Z2 rfl rfl (.inl rfl) rfl ?_ | refine Z2 rfl rfl (.inr rfl) rfl ?_) | (refine Yf rfl rfl rfl ?_; apply Exists.intro; refine And.intro (fun W hW N hN => ?_) ?_; · (go_simp; (try go_bits); exact hN)))
      refine YT ?_
      ((first | refine Zn rfl rfl rfl fun K hK => ?_ | refine Zh rfl rfl rfl fun K hK => ?_); go_simp; (try go_bits); (first | refine hK _ _ ?_ | refine hK _ ?_); clear hK K)
      refine Zq ?_
      refine kq_f (hR.below ((Below.refl _ _).alloc (Nat.le_refl _) _)) ?_
      repeat (first | refine Ym ?_ | refine Yj rfl rfl ?_ | refine ZM rfl rfl rfl rfl ?_ | (first | refine Z5 rfl rfl (.inl rfl) rfl rfl ?_ | refine Z5 rfl rfl (.inr rfl) rfl rfl ?_ | refine Z2 rfl rfl (.inl rfl) rfl ?_ | refine Z2 rfl rfl (.inr rfl) rfl ?_) | (refine Yf rfl rfl rfl ?_; apply Exists.intro; refine And.intro (fun W hW N hN => ?_) ?_; · (go_simp; (try go_bits); exact hN)))
      refine YT ?_
      refine kl_clone _ rfl B m c b (HB.out.keep D4.out.keeps) (by have := HML.out; omega) rfl rfl rfl rfl rfl rfl ?_
      intro v5 w5 hown5 hb5
      obtain ⟨A5, c5, rfl, hB5, hn5, hc5, ha5⟩ := eb_own hown5
      have hR := hR.below hb5
      have hA5 : 0 < m → Away g A5 := fun _ a e => by have := ha5 a e; have := D4.out.lt; have := D4.out.xlt; omega
      have D5 := Lib.hid (D4.out.next hb5)
      have L5 := Lib.hid (L4.out.next hb5)
      have HB5 := Lib.hid hB5
      have HA5 : Hid (0 < m → Away g A5) := hA5
      clear D4 L4 hown5 hb5 ha5 hB5 hA5
      refine Zq ?_
      refine kq_f hR ?_
      repeat (first | refine Ym ?_ | refine Yj rfl rfl ?_ | refine ZM rfl rfl rfl rfl ?_ | (first | refine Z5 rfl rfl (.inl rfl) rfl rfl ?_ | refine Z5 rfl rfl (.inr rfl) rfl rfl ?_ | refine Z2 rfl rfl (.inl rfl) rfl ?_ | refine Z2 rfl rfl (.inr rfl) rfl ?_) | (refine Yf rfl rfl rfl ?_; apply Exists.intro; refine And.intro (fun W hW N hN => ?_) ?_; · (go_simp; (try go_bits); exact hN)))
      refine YT ?_
      refine Z9 rfl rfl rfl Try.func17 rfl (by kernel_rfl) rfl ?_
      refine Calls.mono (store_any (NeQ g x) g neq_g f s A5 m c5 b w5 D5.out.fs HSI.out HB5.out HA5.out hn5 hc5) ?_
      rintro e w6 ⟨rfl, hf6, hg6⟩
      have D6 := Lib.hid (D5.out.fst hf6 hg6)
      have L6 := Lib.hid (L5.out.grown hg6 D5.out.ge (fun p hp => by simp at hp; subst hp; exact HNG.out))
      have hR := hR.grown hg6 (fun p hp => by simp at hp; subst hp; exact fun h => HNG.out (by injection h with h; exact h.symm))
      rw [HE.out] at D6 ⊢
      dsimp only at D6 ⊢
      clear D5 L5 hf6 hg6
      refine ⟨_, rfl, ?_⟩
      refine Zq ?_
      refine kq_f hR ?_
      repeat (first | refine Ym ?_ | refine Yj rfl rfl ?_ | refine ZM rfl rfl rfl rfl ?_ | (first | refine Z5 rfl rfl (.inl rfl) rfl rfl ?_ | refine Z5 rfl rfl (.inr rfl) rfl rfl ?_ | refine Z2 rfl rfl (.inl rfl) rfl ?_ | refine Z2 rfl rfl (.inr rfl) rfl ?_) | (refine Yf rfl rfl rfl ?_; apply Exists.intro; refine And.intro (fun W hW N hN => ?_) ?_; · (go_simp; (try go_bits); exact hN)))
      refine YT ?_
      refine Z9 rfl rfl rfl Try.func21 rfl (by kernel_rfl) rfl ?_
      refine Calls.mono (storeR_any (NeQ g x) x neq_x f s B m c b w6 D6.out.rf HSI.out (HB.out.keep D6.out.keeps) (fun h a e => by have := HB.out.inQ h a e; have := D6.out.ge; have := D6.out.lt; omega) hmc hc) ?_
      rintro e w7 ⟨rfl, hf7, hg7⟩
      have D7 := Lib.hid (D6.out.snd hf7 hg7)
      have L7 := Lib.hid (L6.out.grown hg7 (by have := D6.out.ge; have := D6.out.lt; omega) (fun p hp => by simp at hp; subst hp; exact HNX.out))
      have hR := hR.grown hg7 (fun p hp => by simp at hp; subst hp; exact fun h => HNX.out (by injection h with h; exact h.symm))
      rw [HE.out] at D7 ⊢
      dsimp only at D7 ⊢
      clear D6 L6 hf7 hg7
      refine ⟨_, rfl, ?_⟩
      refine Zq ?_
      refine kq_f hR ?_
      have e1 : (v == v) = true := beq_self_eq_true _
      repeat (first | refine Ym ?_ | refine Yj rfl rfl ?_ | refine ZM rfl rfl rfl rfl ?_ | (first | refine Z5 rfl rfl (.inl rfl) rfl rfl ?_ | refine Z5 rfl rfl (.inr rfl) rfl rfl ?_ | refine Z2 rfl rfl (.inl rfl) rfl ?_ | refine Z2 rfl rfl (.inr rfl) rfl ?_) | (refine Yf rfl rfl rfl ?_; apply Exists.intro; refine And.intro (fun W hW N hN => ?_) ?_; · (go_simp; (try go_bits); exact hN)))
      refine KQ.less [1, 2, 3, 7, 8] ?_
      simp only [nrm, lk, Nat.reduceBEq, cond_true, cond_false]
      refine YU [1, 2, 3, 7, 8] ?_
      exact ⟨F, D7, L7, rfl⟩
    · clear D LL hb1 hb3 hk
      rintro L W ⟨f, D, LL, rfl⟩
      have c2 := LL.out.get (j := 2) 0 rfl rfl
      repeat (first | refine Zv ?_ | refine Zc ?_ | refine Zq ?_ | refine Zm ?_ | refine Zp ?_ | refine Zy rfl ?_ | refine Zx rfl ?_ | refine Zu ?_ | refine Zz rfl rfl ?_ | refine Zt rfl rfl rfl rfl ?_ | (first | refine Zb rfl rfl (.inl rfl) rfl rfl ?_ | refine Zb rfl rfl (.inr rfl) rfl rfl ?_ | refine Za rfl rfl (.inl rfl) rfl ?_ | refine Za rfl rfl (.inr rfl) rfl ?_) | ((first | refine Zn rfl rfl rfl fun K hK => ?_ | refine Zh rfl rfl rfl fun K hK => ?_); go_simp; (try go_bits); (first | refine hK _ _ ?_ | refine hK _ ?_); clear hK K))
      refine Z9 rfl rfl rfl Try.func18 rfl (by kernel_rfl) rfl ?_
      refine Calls.mono (refSha_any B m c b W (HB.out.keep D.out.keeps) (by have := HML.out; omega)) ?_
      rintro e w5 ⟨rfl, hb5⟩
      refine ⟨_, rfl, ?_⟩
      have D5 := Lib.hid (D.out.next hb5)
      have L5 := Lib.hid (LL.out.next hb5)
      clear D LL hb5 c2
      obtain ⟨S, hS⟩ : ∃ S, sha b = S := ⟨_, rfl⟩
      have HSL : Hid (S.length = 32) := by show _ = _; rw [← hS]; exact Xv b
      rw [hS]
      clear hS
      repeat (first | (first | refine Zb rfl rfl (.inl rfl) rfl rfl ?_ | refine Zb rfl rfl (.inr rfl) rfl rfl ?_ | refine Za rfl rfl (.inl rfl) rfl ?_ | refine Za rfl rfl (.inr rfl) rfl ?_) | ((first | refine Zn rfl rfl rfl fun K hK => ?_ | refine Zh rfl rfl rfl fun K hK => ?_); go_simp; (try go_bits); (first | refine hK _ _ ?_ | refine hK _ ?_); clear hK K))
      refine XH (z := (bv z32).toArray) (cells := (bv S).toArray) L5.out hashZero (hash_1 S HSL.out) (by rw [List.size_toArray, List.size_toArray, Ye, Ye, ZL, HSL.out]) (by simp [Value.oneCell', bv]) rfl rfl rfl rfl rfl rfl rfl rfl rfl ?_
      intro gs w6 hgs hb6 hL6
      have HSG : Hid (gs ≠ g) := by show _ ≠ _; have := D5.out.lt; have := D5.out.xlt; omega
      have HSX : Hid (gs ≠ x) := by show _ ≠ _; have := D5.out.xlt; omega
      have D6 := Lib.hid (D5.out.next hb6)
      have L6 := Lib.hid hL6
      clear D5 L5 hb6 hL6 hgs
      repeat (first | (first | refine Zb rfl rfl (.inl rfl) rfl rfl ?_ | refine Zb rfl rfl (.inr rfl) rfl rfl ?_ | refine Za rfl rfl (.inl rfl) rfl ?_ | refine Za rfl rfl (.inr rfl) rfl ?_) | refine Zq ?_)
      refine Zm ?_
      refine Zv ?_
      have D7 := Lib.hid (D6.out.next ((Below.refl _ w6).drew))
      have L7 := Lib.hid (L6.out.next ((Below.refl _ w6).drew))
      clear D6 L6
      have hR : Hold [(gs, .cells (bv S).toArray 29 (0, 0))] _ := .cons (L7.out.at_ 0 rfl) (.nil _)
      obtain ⟨v, F, hvF⟩ : ∃ v F, markP f s S = (v, F) := ⟨_, _, rfl⟩
      have HE := Lib.hid hvF
      clear hvF
      refine ZX (Hold [(gs, .cells (bv S).toArray 29 (0, 0))]) [true, true, true, true, true, false, true, true, true, false, true, true, true] (by kernel_rfl) (by kernel_rfl) hR ?_
      generalize w6.drew = w7 at *
      repeat (first | refine Ym ?_ | refine Yj rfl rfl ?_ | refine ZM rfl rfl rfl rfl ?_ | refine Xj 0 rfl Try.underlying29 rfl (hash_1 S HSL.out) rfl rfl rfl rfl rfl ?_ | (first | refine Z5 rfl rfl (.inl rfl) rfl rfl ?_ | refine Z5 rfl rfl (.inr rfl) rfl rfl ?_ | refine Z2 rfl rfl (.inl rfl) rfl ?_ | refine Z2 rfl rfl (.inr rfl) rfl ?_) | (refine Yf rfl rfl rfl ?_; apply Exists.intro; refine And.intro (fun W hW N hN => ?_) ?_; · (go_simp; (try go_bits); exact hN)))
      refine YT ?_
      refine Z9 rfl rfl rfl Try.func13 rfl (by kernel_rfl) rfl ?_
      refine Calls.mono (mark_any (NeQ g x) g neq_g f s S w7 D7.out.fs HSL.out HSI.out) ?_
      rintro e w8 ⟨rfl, hf8, hg8⟩
      refine ⟨_, rfl, ?_⟩
      have D8 := Lib.hid (D7.out.fst hf8 hg8)
      have hR := hR.grown hg8 (fun p hp => by simp at hp; subst hp; exact fun h => HSG.out (by injection h with h; exact h.symm))
      rw [HE.out] at D8 ⊢
      dsimp only at D8 ⊢
      clear D7 L7 hf8 hg8
      refine Zq ?_
      refine kq_f hR ?_
      repeat (first | refine Ym ?_ | refine Yj rfl rfl ?_ | refine ZM rfl rfl rfl rfl ?_ | refine Xj 0 rfl Try.underlying29 rfl (hash_1 S HSL.out) rfl rfl rfl rfl rfl ?_ | (first | refine Z5 rfl rfl (.inl rfl) rfl rfl ?_ | refine Z5 rfl rfl (.inr rfl) rfl rfl ?_ | refine Z2 rfl rfl (.inl rfl) rfl ?_ | refine Z2 rfl rfl (.inr rfl) rfl ?_) | (refine Yf rfl rfl rfl ?_; apply Exists.intro; refine And.intro (fun W hW N hN => ?_) ?_; · (go_simp; (try go_bits); exact hN)))
      refine YT ?_
      refine Z9 rfl rfl rfl Try.func22 rfl (by kernel_rfl) rfl ?_
      refine Calls.mono (markR_any (NeQ g x) x neq_x f s S w8 D8.out.rf HSL.out HSI.out) ?_
      rintro e w9 ⟨rfl, hf9, hg9⟩
      refine ⟨_, rfl, ?_⟩
      have D9 := Lib.hid (D8.out.snd hf9 hg9)
      have hR := hR.grown hg9 (fun p hp => by simp at hp; subst hp; exact fun h => HSX.out (by injection h with h; exact h.symm))
      rw [HE.out] at D9 ⊢
      dsimp only at D9 ⊢
      clear D8 hf9 hg9
      refine Zq ?_
      refine kq_f hR ?_
      have e1 : (v == v) = true := beq_self_eq_true _
      repeat (first | refine Ym ?_ | refine Yj rfl rfl ?_ | refine ZM rfl rfl rfl rfl ?_ | (first | refine Z5 rfl rfl (.inl rfl) rfl rfl ?_ | refine Z5 rfl rfl (.inr rfl) rfl rfl ?_ | refine Z2 rfl rfl (.inl rfl) rfl ?_ | refine Z2 rfl rfl (.inr rfl) rfl ?_) | (refine Yf rfl rfl rfl ?_; apply Exists.intro; refine And.intro (fun W hW N hN => ?_) ?_; · (go_simp; (try go_bits); exact hN)))
      refine Zm ?_
      clear e1 hR
      repeat (first | refine Zv ?_ | refine Zs ?_ | refine Zu ?_ | refine Zc ?_ | refine Zq ?_ | refine Zm ?_ | refine Zp ?_ | refine Zw ?_ | refine Zf ?_ | refine Zd rfl ?_ | refine Zj rfl ?_ | refine Ze ?_ | refine Z3 ?_ | refine Zk ?_ | refine Zg ?_ | refine Zi ?_ | refine Zy rfl ?_ | refine Zx rfl ?_ | refine Zz rfl rfl ?_ | refine Zt rfl rfl rfl rfl ?_ | refine Zr rfl rfl rfl ?_ | (first | refine Zb rfl rfl (.inl rfl) rfl rfl ?_ | refine Zb rfl rfl (.inr rfl) rfl rfl ?_ | refine Za rfl rfl (.inl rfl) rfl ?_ | refine Za rfl rfl (.inr rfl) rfl ?_) | ((first | refine Zn rfl rfl rfl fun K hK => ?_ | refine Zh rfl rfl rfl fun K hK => ?_); go_simp; (try go_bits); (first | refine hK _ _ ?_ | refine hK _ ?_); clear hK K))
      exact ZE rfl rfl ⟨rfl, F, D9.out⟩
  | false =>
  rw [hb3'] at hb3
  clear hb3'
  rw [decide_eq_false_iff_not] at hb3 hb1
  refine Zx rfl ?_
  by_cases d6 : k = 6
  · have q6 : ((k : Int) == 6) = true := by rw [beq_iff_eq]; omega
    obtain ⟨v, F, hvF⟩ : ∃ v F, markP f s (hashB 9) = (v, F) := ⟨_, _, rfl⟩
    have HE := Lib.hid hvF
    clear hvF hb1 hb3 hk d6
    repeat (first | refine Zv ?_ | refine Zc ?_ | refine Zq ?_ | refine Zm ?_ | refine Zp ?_ | refine Zy rfl ?_ | refine Zx rfl ?_ | refine Zu ?_ | refine Zz rfl rfl ?_ | refine Zt rfl rfl rfl rfl ?_ | refine Yr 29 _ (bv (hashB 9)).toArray rfl rfl rfl (by rfl) (by rfl) (hashBuiltB 9 9 rfl) ?_ | (first | refine Zb rfl rfl (.inl rfl) rfl rfl ?_ | refine Zb rfl rfl (.inr rfl) rfl rfl ?_ | refine Za rfl rfl (.inl rfl) rfl ?_ | refine Za rfl rfl (.inr rfl) rfl ?_) | ((first | refine Zn rfl rfl rfl fun K hK => ?_ | refine Zh rfl rfl rfl fun K hK => ?_); go_simp; (try go_bits); (first | refine hK _ _ ?_ | refine hK _ ?_); clear hK K))
    refine Z9 rfl rfl rfl Try.func13 rfl (by kernel_rfl) rfl ?_
    refine Calls.mono (mark_any (NeQ g x) g neq_g f s (hashB 9) W D.out.fs (Xe 9) HSI.out) ?_
    rintro e w8 ⟨rfl, hf8, hg8⟩
    refine ⟨_, rfl, ?_⟩
    have D8 := Lib.hid (D.out.fst hf8 hg8)
    rw [HE.out] at D8 ⊢
    dsimp only at D8 ⊢
    clear D LL hf8 hg8
    repeat (first | refine Zv ?_ | refine Zc ?_ | refine Zq ?_ | refine Zm ?_ | refine Zp ?_ | refine Zy rfl ?_ | refine Zx rfl ?_ | refine Zu ?_ | refine Zz rfl rfl ?_ | refine Zt rfl rfl rfl rfl ?_ | refine Yr 29 _ (bv (hashB 9)).toArray rfl rfl rfl (by rfl) (by rfl) (hashBuiltB 9 9 rfl) ?_ | (first | refine Zb rfl rfl (.inl rfl) rfl rfl ?_ | refine Zb rfl rfl (.inr rfl) rfl rfl ?_ | refine Za rfl rfl (.inl rfl) rfl ?_ | refine Za rfl rfl (.inr rfl) rfl ?_) | ((first | refine Zn rfl rfl rfl fun K hK => ?_ | refine Zh rfl rfl rfl fun K hK => ?_); go_simp; (try go_bits); (first | refine hK _ _ ?_ | refine hK _ ?_); clear hK K))
    refine Z9 rfl rfl rfl Try.func22 rfl (by kernel_rfl) rfl ?_
    refine Calls.mono (markR_any (NeQ g x) x neq_x f s (hashB 9) w8 D8.out.rf (Xe 9) HSI.out) ?_
    rintro e w9 ⟨rfl, hf9, hg9⟩
    refine ⟨_, rfl, ?_⟩
    have D9 := Lib.hid (D8.out.snd hf9 hg9)
    rw [HE.out] at D9 ⊢
    dsimp only at D9 ⊢
    clear D8 hf9 hg9
    have e1 : (v == v) = true := beq_self_eq_true _
    repeat (first | refine Zv ?_ | refine Zs ?_ | refine Zu ?_ | refine Zc ?_ | refine Zq ?_ | refine Zm ?_ | refine Zp ?_ | refine Zw ?_ | refine Zf ?_ | refine Zd rfl ?_ | refine Zj rfl ?_ | refine Ze ?_ | refine Z3 ?_ | refine Zk ?_ | refine Zg ?_ | refine Zi ?_ | refine Zy rfl ?_ | refine Zx rfl ?_ | refine Zz rfl rfl ?_ | refine Zt rfl rfl rfl rfl ?_ | refine Zr rfl rfl rfl ?_ | (first | refine Zb rfl rfl (.inl rfl) rfl rfl ?_ | refine Zb rfl rfl (.inr rfl) rfl rfl ?_ | refine Za rfl rfl (.inl rfl) rfl ?_ | refine Za rfl rfl (.inr rfl) rfl ?_) | ((first | refine Zn rfl rfl rfl fun K hK => ?_ | refine Zh rfl rfl rfl fun K hK => ?_); go_simp; (try go_bits); (first | refine hK _ _ ?_ | refine hK _ ?_); clear hK K))
    exact ZE rfl rfl ⟨rfl, F, D9.out⟩
  have q6 : ((k : Int) == 6) = false := by rw [beq_eq_false_iff_ne, ne_eq]; omega
  by_cases d8 : k = 8
  · have q8 : ((k : Int) == 8) = true := by rw [beq_iff_eq]; omega
    clear hb1 hb3 hk d6 d8
    repeat (first | refine Zv ?_ | refine Zc ?_ | refine Zq ?_ | refine Zm ?_ | refine Zp ?_ | refine Zy rfl ?_ | refine Zx rfl ?_ | refine Zu ?_ | refine Zz rfl rfl ?_ | refine Zt rfl rfl rfl rfl ?_ | (first | refine Zb rfl rfl (.inl rfl) rfl rfl ?_ | refine Zb rfl rfl (.inr rfl) rfl rfl ?_ | refine Za rfl rfl (.inl rfl) rfl ?_ | refine Za rfl rfl (.inr rfl) rfl ?_) | ((first | refine Zn rfl rfl rfl fun K hK => ?_ | refine Zh rfl rfl rfl fun K hK => ?_); go_simp; (try go_bits); (first | refine hK _ _ ?_ | refine hK _ ?_); clear hK K))
    have hr := YV zn 6 (by omega)
    obtain ⟨r, hrr⟩ : ∃ r, within zn 6 = r := ⟨_, rfl⟩
    rw [hrr] at hr
    obtain ⟨t, ht⟩ : ∃ t, 1 + r = t := ⟨_, rfl⟩
    have j1 : (1 : Int) + (r : Int) = (t : Int) := by omega
    have j2 : (0 : Int) ≤ t := by omega
    have j3 : (t : Int) ≤ 6 := by omega
    have HRR := Lib.hid hrr
    have HTI : Hid (-9223372036854775808 ≤ (t : Int) ∧ (t : Int) ≤ 9223372036854775807) := by show _ ∧ _; omega
    clear hrr hr ht
    have D4 := Lib.hid (D.out.next ((Below.refl _ W).drew))
    have L4 := Lib.hid (LL.out.next ((Below.refl _ W).drew))
    clear D LL
    have hR : Hold [(g3, .cells #[.int .i64 zk, .int .i64 zn, .slice B m c, .int .i64 ak, .int .i64 az, .int .i64 ap, .int .i64 an, .slice B2 m2 c2] 69 (0, 0))] _ := .cons (L4.out.at_ 0 rfl) (.nil _)
    have r1 : ∀ W, Hold [(g3, .cells #[.int .i64 zk, .int .i64 zn, .slice B m c, .int .i64 ak, .int .i64 az, .int .i64 ap, .int .i64 an, .slice B2 m2 c2] 69 (0, 0))] W → W.cell? ⟨g3, 1, none⟩ = _ := Hold.cell (cs := [.int .i64 zk, .int .i64 zn, .slice B m c, .int .i64 ak, .int .i64 az, .int .i64 ap, .int .i64 an, .slice B2 m2 c2]) 0 rfl rfl
    have r7 : ∀ W, Hold [(g3, .cells #[.int .i64 zk, .int .i64 zn, .slice B m c, .int .i64 ak, .int .i64 az, .int .i64 ap, .int .i64 an, .slice B2 m2 c2] 69 (0, 0))] W → W.cell? ⟨g3, 7, none⟩ = _ := Hold.cell (cs := [.int .i64 zk, .int .i64 zn, .slice B m c, .int .i64 ak, .int .i64 az, .int .i64 ap, .int .i64 an, .slice B2 m2 c2]) 0 rfl rfl
    refine ZX (Hold [(g3, .cells #[.int .i64 zk, .int .i64 zn, .slice B m c, .int .i64 ak, .int .i64 az, .int .i64 ap, .int .i64 an, .slice B2 m2 c2] 69 (0, 0))]) [true, true, true, true, true, false, true, true, true, true, false] (by kernel_rfl) (by kernel_rfl) hR ?_
    generalize W.drew = w4 at *
    repeat (first | refine Ym ?_ | refine Yj rfl rfl ?_ | refine ZM rfl rfl rfl rfl ?_ | (first | refine Z5 rfl rfl (.inl rfl) rfl rfl ?_ | refine Z5 rfl rfl (.inr rfl) rfl rfl ?_ | refine Z2 rfl rfl (.inl rfl) rfl ?_ | refine Z2 rfl rfl (.inr rfl) rfl ?_) | (refine Yf rfl rfl rfl ?_; apply Exists.intro; refine And.intro (fun W hW N hN => ?_) ?_; · (go_simp; (try go_bits); exact hN)))
    refine YT ?_
    refine Z9 rfl rfl rfl Try.func11 rfl (by kernel_rfl) rfl ?_
    refine Calls.mono (Xk zn 6 6 _ rfl (by omega) (by omega)) ?_
    rintro e _ ⟨rfl, rfl⟩
    rw [HRR.out]
    refine ⟨_, rfl, ?_⟩
    refine Zq ?_
    refine kq_f hR ?_
    repeat (first | refine Ym ?_ | refine Yj rfl rfl ?_ | refine ZM rfl rfl rfl rfl ?_ | (first | refine Z5 rfl rfl (.inl rfl) rfl rfl ?_ | refine Z5 rfl rfl (.inr rfl) rfl rfl ?_ | refine Z2 rfl rfl (.inl rfl) rfl ?_ | refine Z2 rfl rfl (.inr rfl) rfl ?_) | (refine Yf rfl rfl rfl ?_; apply Exists.intro; refine And.intro (fun W hW N hN => ?_) ?_; · (go_simp; (try go_bits); exact hN)))
    refine YT ?_
    refine Z9 rfl rfl rfl Try.func23 rfl (by kernel_rfl) rfl ?_
    refine Calls.mono (stop_any (NeQ g x) g f t B2 m2 c2 b2 w4 D4.out.fs D4.out.fresh HTI.out (HB2.out.keep D4.out.keeps) (by have := HML.out; omega)) ?_
    rintro e w5 ⟨rfl, hf5, hg5⟩
    have D5 := Lib.hid (D4.out.fst hf5 hg5)
    have L5 := Lib.hid (L4.out.grown hg5 D4.out.ge (fun p hp => by simp at hp; subst hp; exact HNG.out))
    have hR := hR.grown hg5 (fun p hp => by simp at hp; subst hp; exact fun h => HNG.out (by injection h with h; exact h.symm))
    clear D4 L4 hf5 hg5
    refine ⟨_, rfl, ?_⟩
    refine Zq ?_
    refine kq_f hR ?_
    repeat (first | refine Ym ?_ | refine Yj rfl rfl ?_ | refine ZM rfl rfl rfl rfl ?_ | (first | refine Z5 rfl rfl (.inl rfl) rfl rfl ?_ | refine Z5 rfl rfl (.inr rfl) rfl rfl ?_ | refine Z2 rfl rfl (.inl rfl) rfl ?_ | refine Z2 rfl rfl (.inr rfl) rfl ?_) | (refine Yf rfl rfl rfl ?_; apply Exists.intro; refine And.intro (fun W hW N hN => ?_) ?_; · (go_simp; (try go_bits); exact hN)))
    refine Zm ?_
    clear hR r1 r7
    have D6 := Lib.hid (D5.out.next ((Below.refl _ w5).drew))
    have L6 := Lib.hid (L5.out.next ((Below.refl _ w5).drew))
    clear D5 L5
    have hR : Hold [(g3, .cells #[.int .i64 zk, .int .i64 zn, .slice B m c, .int .i64 ak, .int .i64 az, .int .i64 ap, .int .i64 an, .slice B2 m2 c2] 69 (0, 0))] _ := .cons (L6.out.at_ 0 rfl) (.nil _)
    have r1 : ∀ W, Hold [(g3, .cells #[.int .i64 zk, .int .i64 zn, .slice B m c, .int .i64 ak, .int .i64 az, .int .i64 ap, .int .i64 an, .slice B2 m2 c2] 69 (0, 0))] W → W.cell? ⟨g3, 1, none⟩ = _ := Hold.cell (cs := [.int .i64 zk, .int .i64 zn, .slice B m c, .int .i64 ak, .int .i64 az, .int .i64 ap, .int .i64 an, .slice B2 m2 c2]) 0 rfl rfl
    have r7 : ∀ W, Hold [(g3, .cells #[.int .i64 zk, .int .i64 zn, .slice B m c, .int .i64 ak, .int .i64 az, .int .i64 ap, .int .i64 an, .slice B2 m2 c2] 69 (0, 0))] W → W.cell? ⟨g3, 7, none⟩ = _ := Hold.cell (cs := [.int .i64 zk, .int .i64 zn, .slice B m c, .int .i64 ak, .int .i64 az, .int .i64 ap, .int .i64 an, .slice B2 m2 c2]) 0 rfl rfl
    refine ZX (Hold [(g3, .cells #[.int .i64 zk, .int .i64 zn, .slice B m c, .int .i64 ak, .int .i64 az, .int .i64 ap, .int .i64 an, .slice B2 m2 c2] 69 (0, 0))]) [true, true, true, false, true, true, true, true, false] (by kernel_rfl) (by kernel_rfl) hR ?_
    generalize w5.drew = w6 at *
    repeat (first | refine Ym ?_ | refine Yj rfl rfl ?_ | refine ZM rfl rfl rfl rfl ?_ | (first | refine Z5 rfl rfl (.inl rfl) rfl rfl ?_ | refine Z5 rfl rfl (.inr rfl) rfl rfl ?_ | refine Z2 rfl rfl (.inl rfl) rfl ?_ | refine Z2 rfl rfl (.inr rfl) rfl ?_) | (refine Yf rfl rfl rfl ?_; apply Exists.intro; refine And.intro (fun W hW N hN => ?_) ?_; · (go_simp; (try go_bits); exact hN)))
    refine YT ?_
    refine Z9 rfl rfl rfl Try.func11 rfl (by kernel_rfl) rfl ?_
    refine Calls.mono (Xk zn 6 6 _ rfl (by omega) (by omega)) ?_
    rintro e _ ⟨rfl, rfl⟩
    rw [HRR.out]
    refine ⟨_, rfl, ?_⟩
    refine Zq ?_
    refine kq_f hR ?_
    repeat (first | refine Ym ?_ | refine Yj rfl rfl ?_ | refine ZM rfl rfl rfl rfl ?_ | (first | refine Z5 rfl rfl (.inl rfl) rfl rfl ?_ | refine Z5 rfl rfl (.inr rfl) rfl rfl ?_ | refine Z2 rfl rfl (.inl rfl) rfl ?_ | refine Z2 rfl rfl (.inr rfl) rfl ?_) | (refine Yf rfl rfl rfl ?_; apply Exists.intro; refine And.intro (fun W hW N hN => ?_) ?_; · (go_simp; (try go_bits); exact hN)))
    refine YT ?_
    refine Z9 rfl rfl rfl Try.func24 rfl (by kernel_rfl) rfl ?_
    refine Calls.mono (WQ (NeQ g x) x neq_x f t B2 m2 c2 b2 w6 D6.out.rf D6.out.fresh HTI.out (HB2.out.keep D6.out.keeps) (by have := HML.out; omega)) ?_
    rintro e w7 ⟨rfl, hf7, hg7⟩
    have D7 := Lib.hid (D6.out.snd hf7 hg7)
    have L7 := Lib.hid (L6.out.grown hg7 (by have := D6.out.ge; have := D6.out.lt; omega) (fun p hp => by simp at hp; subst hp; exact HNX.out))
    have hR := hR.grown hg7 (fun p hp => by simp at hp; subst hp; exact fun h => HNX.out (by injection h with h; exact h.symm))
    clear D6 L6 hf7 hg7
    refine ⟨_, rfl, ?_⟩
    refine Zq ?_
    refine kq_f hR ?_
    repeat (first | refine Ym ?_ | refine Yj rfl rfl ?_ | refine ZM rfl rfl rfl rfl ?_ | (first | refine Z5 rfl rfl (.inl rfl) rfl rfl ?_ | refine Z5 rfl rfl (.inr rfl) rfl rfl ?_ | refine Z2 rfl rfl (.inl rfl) rfl ?_ | refine Z2 rfl rfl (.inr rfl) rfl ?_) | (refine Yf rfl rfl rfl ?_; apply Exists.intro; refine And.intro (fun W hW N hN => ?_) ?_; · (go_simp; (try go_bits); exact hN)))
    clear hR r1 r7
    repeat (first | refine Zv ?_ | refine Zs ?_ | refine Zu ?_ | refine Zc ?_ | refine Zq ?_ | refine Zm ?_ | refine Zp ?_ | refine Zw ?_ | refine Zf ?_ | refine Zd rfl ?_ | refine Zj rfl ?_ | refine Ze ?_ | refine Z3 ?_ | refine Zk ?_ | refine Zg ?_ | refine Zi ?_ | refine Zy rfl ?_ | refine Zx rfl ?_ | refine Zz rfl rfl ?_ | refine Zt rfl rfl rfl rfl ?_ | refine Zr rfl rfl rfl ?_ | (first | refine Zb rfl rfl (.inl rfl) rfl rfl ?_ | refine Zb rfl rfl (.inr rfl) rfl rfl ?_ | refine Za rfl rfl (.inl rfl) rfl ?_ | refine Za rfl rfl (.inr rfl) rfl ?_) | ((first | refine Zn rfl rfl rfl fun K hK => ?_ | refine Zh rfl rfl rfl fun K hK => ?_); go_simp; (try go_bits); (first | refine hK _ _ ?_ | refine hK _ ?_); clear hK K))
    exact ZE rfl rfl ⟨rfl, _, D7.out⟩
  have q8 : ((k : Int) == 8) = false := by rw [beq_eq_false_iff_ne, ne_eq]; omega
  by_cases d9 : k = 9
  · have q9 : ((k : Int) == 9) = true := by rw [beq_iff_eq]; omega
    clear hb1 hb3 hk d6 d8 d9
    repeat (first | refine Zv ?_ | refine Zc ?_ | refine Zq ?_ | refine Zm ?_ | refine Zp ?_ | refine Zy rfl ?_ | refine Zx rfl ?_ | refine Zu ?_ | refine Zz rfl rfl ?_ | refine Zt rfl rfl rfl rfl ?_ | (first | refine Zb rfl rfl (.inl rfl) rfl rfl ?_ | refine Zb rfl rfl (.inr rfl) rfl rfl ?_ | refine Za rfl rfl (.inl rfl) rfl ?_ | refine Za rfl rfl (.inr rfl) rfl ?_) | ((first | refine Zn rfl rfl rfl fun K hK => ?_ | refine Zh rfl rfl rfl fun K hK => ?_); go_simp; (try go_bits); (first | refine hK _ _ ?_ | refine hK _ ?_); clear hK K))
    refine Z9 rfl rfl rfl Try.func25 rfl (by kernel_rfl) rfl ?_
    refine Calls.mono (start_any (NeQ g x) g _ W D.out.fs) ?_
    rintro e w5 ⟨rfl, hf5, hg5⟩
    refine ⟨_, rfl, ?_⟩
    have D5 := Lib.hid (D.out.fst hf5 hg5)
    clear D LL hf5 hg5
    repeat (first | refine Zv ?_ | refine Zc ?_ | refine Zq ?_ | refine Zm ?_ | refine Zp ?_ | refine Zy rfl ?_ | refine Zx rfl ?_ | refine Zu ?_ | refine Zz rfl rfl ?_ | refine Zt rfl rfl rfl rfl ?_ | (first | refine Zb rfl rfl (.inl rfl) rfl rfl ?_ | refine Zb rfl rfl (.inr rfl) rfl rfl ?_ | refine Za rfl rfl (.inl rfl) rfl ?_ | refine Za rfl rfl (.inr rfl) rfl ?_) | ((first | refine Zn rfl rfl rfl fun K hK => ?_ | refine Zh rfl rfl rfl fun K hK => ?_); go_simp; (try go_bits); (first | refine hK _ _ ?_ | refine hK _ ?_); clear hK K))
    refine Z9 rfl rfl rfl Try.func26 rfl (by kernel_rfl) rfl ?_
    refine Calls.mono (Wi (NeQ g x) x _ w5 D5.out.rf) ?_
    rintro e w6 ⟨rfl, hf6, hg6⟩
    refine ⟨_, rfl, ?_⟩
    have D6 := Lib.hid (D5.out.snd hf6 hg6)
    clear D5 hf6 hg6
    repeat (first | refine Zv ?_ | refine Zs ?_ | refine Zu ?_ | refine Zc ?_ | refine Zq ?_ | refine Zm ?_ | refine Zp ?_ | refine Zw ?_ | refine Zf ?_ | refine Zd rfl ?_ | refine Zj rfl ?_ | refine Ze ?_ | refine Z3 ?_ | refine Zk ?_ | refine Zg ?_ | refine Zi ?_ | refine Zy rfl ?_ | refine Zx rfl ?_ | refine Zz rfl rfl ?_ | refine Zt rfl rfl rfl rfl ?_ | refine Zr rfl rfl rfl ?_ | (first | refine Zb rfl rfl (.inl rfl) rfl rfl ?_ | refine Zb rfl rfl (.inr rfl) rfl rfl ?_ | refine Za rfl rfl (.inl rfl) rfl ?_ | refine Za rfl rfl (.inr rfl) rfl ?_) | ((first | refine Zn rfl rfl rfl fun K hK => ?_ | refine Zh rfl rfl rfl fun K hK => ?_); go_simp; (try go_bits); (first | refine hK _ _ ?_ | refine hK _ ?_); clear hK K))
    exact ZE rfl rfl ⟨rfl, _, D6.out⟩
  have q9 : ((k : Int) == 9) = false := by rw [beq_eq_false_iff_ne, ne_eq]; omega
  have q10 : ((k : Int) == 10) = true := by rw [beq_iff_eq]; omega
  clear hb1 hb3 hk d6 d8 d9
  have c1 := LL.out.get (j := 1) 0 rfl rfl
  obtain ⟨t, ht⟩ : ∃ t, Int.tmod zn 4 = t := ⟨_, rfl⟩
  have htb := tmod_bds6 zn 4 (by omega)
  rw [ht] at htb
  by_cases h0 : 0 < t
  · have t1 : decide (0 < t) = true := decide_eq_true h0
    repeat (first | refine Zv ?_ | refine Zs ?_ | refine Zu ?_ | refine Zc ?_ | refine Zq ?_ | refine Zm ?_ | refine Zp ?_ | refine Zw ?_ | refine Zf ?_ | refine Zd rfl ?_ | refine Zj rfl ?_ | refine Ze ?_ | refine Z3 ?_ | refine Zk ?_ | refine Zg ?_ | refine Zi ?_ | refine Zy rfl ?_ | refine Zx rfl ?_ | refine Zz rfl rfl ?_ | refine Zt rfl rfl rfl rfl ?_ | refine Zr rfl rfl rfl ?_ | (first | refine Zb rfl rfl (.inl rfl) rfl rfl ?_ | refine Zb rfl rfl (.inr rfl) rfl rfl ?_ | refine Za rfl rfl (.inl rfl) rfl ?_ | refine Za rfl rfl (.inr rfl) rfl ?_) | ((first | refine Zn rfl rfl rfl fun K hK => ?_ | refine Zh rfl rfl rfl fun K hK => ?_); go_simp; (try go_bits); (first | refine hK _ _ ?_ | refine hK _ ?_); clear hK K))
    exact ZE rfl rfl ⟨rfl, f, D.out⟩
  have t1 : decide (0 < t) = false := decide_eq_false h0
  have hri := Lib.hid (act_range6 (LL.out.get (j := 3) 0 rfl rfl) (LL.out.get (j := 4) 0 rfl rfl) (LL.out.get (j := 5) 0 rfl rfl) (LL.out.get (j := 6) 0 rfl rfl) (LL.out.get (j := 7) 0 rfl rfl))
  repeat (first | refine Zv ?_ | refine Zc ?_ | refine Zq ?_ | refine Zm ?_ | refine Zp ?_ | refine Zy rfl ?_ | refine Zx rfl ?_ | refine Zu ?_ | refine Zz rfl rfl ?_ | refine Zt rfl rfl rfl rfl ?_ | refine Y8 67 g3 3 _ _ hri.out Try.underlying67 rfl rfl rfl rfl rfl rfl rfl ?_ | (first | refine Zb rfl rfl (.inl rfl) rfl rfl ?_ | refine Zb rfl rfl (.inr rfl) rfl rfl ?_ | refine Za rfl rfl (.inl rfl) rfl ?_ | refine Za rfl rfl (.inr rfl) rfl ?_) | ((first | refine Zn rfl rfl rfl fun K hK => ?_ | refine Zh rfl rfl rfl fun K hK => ?_); go_simp; (try go_bits); (first | refine hK _ _ ?_ | refine hK _ ?_); clear hK K))
  refine Z9 rfl rfl rfl Try.func48 rfl (by kernel_rfl) rfl ?_
  refine Calls.mono (do_any (NeQ g x) g x neq_g neq_x (by have := D.out.lt; omega) f ak az ap an b2 B2 m2 c2 W D.out.fs D.out.rf D.out.fresh (HB2.out.keep D.out.keeps) (fun h a e hh => by have := HB2.out.inQ h a e; have := D.out.ge; omega) hmc2 hc2 hb2) ?_
  rintro e w5 ⟨rfl, hf5, hr5, wm, hg5, hg6⟩
  refine ⟨_, rfl, ?_⟩
  have D5 := Lib.hid (D.out.act6 hf5 hr5 hg5 hg6)
  clear hf5 hr5 hg5 hg6 LL D hri c1
  repeat (first | refine Zv ?_ | refine Zs ?_ | refine Zu ?_ | refine Zc ?_ | refine Zq ?_ | refine Zm ?_ | refine Zp ?_ | refine Zw ?_ | refine Zf ?_ | refine Zd rfl ?_ | refine Zj rfl ?_ | refine Ze ?_ | refine Z3 ?_ | refine Zk ?_ | refine Zg ?_ | refine Zi ?_ | refine Zy rfl ?_ | refine Zx rfl ?_ | refine Zz rfl rfl ?_ | refine Zt rfl rfl rfl rfl ?_ | refine Zr rfl rfl rfl ?_ | (first | refine Zb rfl rfl (.inl rfl) rfl rfl ?_ | refine Zb rfl rfl (.inr rfl) rfl rfl ?_ | refine Za rfl rfl (.inl rfl) rfl ?_ | refine Za rfl rfl (.inr rfl) rfl ?_) | ((first | refine Zn rfl rfl rfl fun K hK => ?_ | refine Zh rfl rfl rfl fun K hK => ?_); go_simp; (try go_bits); (first | refine hK _ _ ?_ | refine hK _ ?_); clear hK K))
  exact ZE rfl rfl ⟨rfl, _, D5.out⟩
end Go.Proofs.Ytkncomkncfcecaa
