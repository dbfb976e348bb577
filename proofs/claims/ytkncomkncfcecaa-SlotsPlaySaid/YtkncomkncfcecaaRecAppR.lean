/- Records: the document's Append. -/
import Derived.Test.YtkncomkncfcecaaRecLoadR
import Derived.Test.YtkncomkncfcecaaRefProg
set_option linter.unusedVariables false
set_option linter.unusedSimpArgs false
namespace Go.Proofs.Ytkncomkncfcecaa
open Go.RowKit
attribute [local go_sem] Y1 Yl Yp ZT Yy Yo ZI ZO Yi ZN ZH ZU Ya
def AppP (Q : Nat → Prop) (F : (Nat → Prop) → World → Nat → FlashSt → Prop) (g : Nat) (f : FlashSt) (s : Int) (b : List UInt8) (w : World) (e : Ending) (w' : World) : Prop := e = .returned (.int .i64 (appendP f s b).1) ∧ F Q w' g (appendP f s b).2 ∧ w.grownBy w' (some g)
theorem mid_piece (X : List UInt8) (q e : Nat) (hq : q ≤ X.length) (he : e = min (q + 16) X.length) : (X.take e).drop q = (X.drop q).take 16 := by
  rw [List.drop_take]
  subst he
  apply List.ext_getElem?
  intro j
  rw [List.getElem?_take, List.getElem?_take, List.getElem?_drop]
  by_cases h1 : j < 16
  · rw [if_pos h1]
    by_cases h2 : q + j < X.length
    · rw [if_pos (by omega)]
    · rw [List.getElem?_eq_none (by omega), ite_self]
  · rw [if_neg h1, if_neg (by omega)]
theorem progs_go (s : Int) (p : Nat) (x : List UInt8) (n i : Nat) (f : FlashSt) (h : (progF f s ((p + i : Nat) : Int) ((x.drop (16 * i)).take 16)).1 = 0) : progs s p x (n + 1) i f = progs s p x n (i + 1) (progF f s ((p + i : Nat) : Int) ((x.drop (16 * i)).take 16)).2 := by
  simp only [progs]; rw [if_pos h]
theorem progs_stop (s : Int) (p : Nat) (x : List UInt8) (n i : Nat) (f : FlashSt) (h : (progF f s ((p + i : Nat) : Int) ((x.drop (16 * i)).take 16)).1 ≠ 0) : progs s p x (n + 1) i f = progF f s ((p + i : Nat) : Int) ((x.drop (16 * i)).take 16) := by
  simp only [progs]; rw [if_neg h]
theorem progF_err (f : FlashSt) (s p : Int) (b : List UInt8) : 0 ≤ (progF f s p b).1 ∧ (progF f s p b).1 ≤ 14 := by
  unfold progF
  repeat' split
  all_goals (constructor <;> (simp only; omega))
set_option maxRecDepth 100000 in
set_option maxHeartbeats 2000000 in
theorem WL (Q : Nat → Prop) (g : Nat) (hQ : ∀ b, Q b → b ≠ g) (f : FlashSt) (s : Int) (A : Option Addr) (n c : Nat) (b : List UInt8) (w : World) (h : RF Q w g f) (hs0 : -9223372036854775808 ≤ s ∧ s ≤ 9223372036854775807) (hA : Bs w A n b) (hc : n ≤ c) (hc9 : c ≤ 9223372036854775807) :
    Calls Try.prog 44 #[.pointer (some ⟨g, 0, none⟩), .int .i64 s, .slice A n c] w (AppP Q RF g f s b w) := by
  have HB := Lib.hid hA.len
  refine ZZ Try.func44 rfl Try.ntmps44 rfl [(0, .pointer (some ⟨g, 0, none⟩)), (1, .int .i64 s), (2, .slice A n c)] rfl ?_
  by_cases h1 : 1018 < n
  · have hE : appendP f s b = (5, f) := if_pos (by rw [HB.out]; exact h1)
    have HE := Lib.hid hE
    have t1 : decide ((1018 : Int) < (n : Int)) = true := by rw [decide_eq_true_eq]; omega
    have t1n : decide (1018 < n) = true := decide_eq_true h1
    clear h1 hE
    repeat (first | refine Zv ?_ | refine Zs ?_ | refine Zu ?_ | refine Zc ?_ | refine Zq ?_ | refine Zm ?_ | refine Zp ?_ | refine Zw ?_ | refine Zf ?_ | refine Zd rfl ?_ | refine Zj rfl ?_ | refine Ze ?_ | refine Z3 ?_ | refine Zk ?_ | refine Zg ?_ | refine Zi ?_ | refine Zy rfl ?_ | refine Zx rfl ?_ | refine Zz rfl rfl ?_ | refine Zt rfl rfl rfl rfl ?_ | refine Zr rfl rfl rfl ?_ | (first | refine Zb rfl rfl (.inl rfl) rfl rfl ?_ | refine Zb rfl rfl (.inr rfl) rfl rfl ?_ | refine Za rfl rfl (.inl rfl) rfl ?_ | refine Za rfl rfl (.inr rfl) rfl ?_) | ((first | refine Zn rfl rfl rfl fun K hK => ?_ | refine Zh rfl rfl rfl fun K hK => ?_); go_simp; (try go_bits); (first | refine hK _ _ ?_ | refine hK _ ?_); clear hK K))
    exact ZE rfl rfl ⟨by rw [HE.out], by rw [HE.out]; exact h, ZG _ _⟩
  have t1 : decide ((1018 : Int) < (n : Int)) = false := by rw [decide_eq_false_iff_not]; omega
  have t1n : decide (1018 < n) = false := decide_eq_false h1
  by_cases h2 : s < 0 ∨ 6 ≤ s
  · have hE : appendP f s b = (12, f) := by unfold appendP; rw [if_neg (by rw [HB.out]; exact h1), if_pos h2]
    have HE := Lib.hid hE
    rcases Int.lt_or_le s 0 with h3 | h3
    · have t2 : decide (s < 0) = true := decide_eq_true h3
      clear h1 h2 h3 hE
      repeat (first | refine Zv ?_ | refine Zs ?_ | refine Zu ?_ | refine Zc ?_ | refine Zq ?_ | refine Zm ?_ | refine Zp ?_ | refine Zw ?_ | refine Zf ?_ | refine Zd rfl ?_ | refine Zj rfl ?_ | refine Ze ?_ | refine Z3 ?_ | refine Zk ?_ | refine Zg ?_ | refine Zi ?_ | refine Zy rfl ?_ | refine Zx rfl ?_ | refine Zz rfl rfl ?_ | refine Zt rfl rfl rfl rfl ?_ | refine Zr rfl rfl rfl ?_ | (first | refine Zb rfl rfl (.inl rfl) rfl rfl ?_ | refine Zb rfl rfl (.inr rfl) rfl rfl ?_ | refine Za rfl rfl (.inl rfl) rfl ?_ | refine Za rfl rfl (.inr rfl) rfl ?_) | ((first | refine Zn rfl rfl rfl fun K hK => ?_ | refine Zh rfl rfl rfl fun K hK => ?_); go_simp; (try go_bits); (first | refine hK _ _ ?_ | refine hK _ ?_); clear hK K))
      exact ZE rfl rfl ⟨by rw [HE.out], by rw [HE.out]; exact h, ZG _ _⟩
    · have t2 : decide (s < 0) = false := decide_eq_false (by omega)
      have t3 : decide (6 ≤ s) = true := decide_eq_true (by omega)
      clear h1 h2 h3 hE
      repeat (first | refine Zv ?_ | refine Zs ?_ | refine Zu ?_ | refine Zc ?_ | refine Zq ?_ | refine Zm ?_ | refine Zp ?_ | refine Zw ?_ | refine Zf ?_ | refine Zd rfl ?_ | refine Zj rfl ?_ | refine Ze ?_ | refine Z3 ?_ | refine Zk ?_ | refine Zg ?_ | refine Zi ?_ | refine Zy rfl ?_ | refine Zx rfl ?_ | refine Zz rfl rfl ?_ | refine Zt rfl rfl rfl rfl ?_ | refine Zr rfl rfl rfl ?_ | (first | refine Zb rfl rfl (.inl rfl) rfl rfl ?_ | refine Zb rfl rfl (.inr rfl) rfl rfl ?_ | refine Za rfl rfl (.inl rfl) rfl ?_ | refine Za rfl rfl (.inr rfl) rfl ?_) | ((first | refine Zn rfl rfl rfl fun K hK => ?_ | refine Zh rfl rfl rfl fun K hK => ?_); go_simp; (try go_bits); (first | refine hK _ _ ?_ | refine hK _ ?_); clear hK K))
      exact ZE rfl rfl ⟨by rw [HE.out], by rw [HE.out]; exact h, ZG _ _⟩
  have t2 : decide (s < 0) = false := decide_eq_false (by omega)
  have t3 : decide (6 ≤ s) = false := decide_eq_false (by omega)
  have hE : appendP f s b = if 64 < (loadR (readF f s)).2 + pagesN b.length then (4, f) else progs s (loadR (readF f s)).2 (sealed b) (pagesN b.length) 0 f := by
    unfold appendP; rw [if_neg (by rw [HB.out]; exact h1), if_neg h2]
  rw [HB.out] at hE
  have hn : n ≤ 1018 := by omega
  clear h1 h2
  repeat (first | refine Zv ?_ | refine Zs ?_ | refine Zu ?_ | refine Zc ?_ | refine Zq ?_ | refine Zm ?_ | refine Zp ?_ | refine Zw ?_ | refine Zf ?_ | refine Zd rfl ?_ | refine Zj rfl ?_ | refine Ze ?_ | refine Z3 ?_ | refine Zk ?_ | refine Zg ?_ | refine Zi ?_ | refine Zy rfl ?_ | refine Zx rfl ?_ | refine Zz rfl rfl ?_ | refine Zt rfl rfl rfl rfl ?_ | refine Zr rfl rfl rfl ?_ | (first | refine Zb rfl rfl (.inl rfl) rfl rfl ?_ | refine Zb rfl rfl (.inr rfl) rfl rfl ?_ | refine Za rfl rfl (.inl rfl) rfl ?_ | refine Za rfl rfl (.inr rfl) rfl ?_) | ((first | refine Zn rfl rfl rfl fun K hK => ?_ | refine Zh rfl rfl rfl fun K hK => ?_); go_simp; (try go_bits); (first | refine hK _ _ ?_ | refine hK _ ?_); clear hK K))
  refine Z9 rfl rfl rfl Try.func66 rfl (by kernel_rfl) rfl ?_
  refine Calls.mono (loadR_any Q g f s w h hs0) ?_
  rintro e w1 ⟨A1, n1, c1, rfl, hP1, _, _, hb1⟩
  refine ⟨_, rfl, ?_⟩
  have hfr := loadR_le (readF f s)
  obtain ⟨fr, hfre⟩ : ∃ fr, (loadR (readF f s)).2 = fr := ⟨_, rfl⟩
  rw [hfre] at hE hfr ⊢
  have H1 := Lib.hid (h.below hb1)
  have hA1 := hA.below hb1
  clear hP1 hfre
  repeat (first | refine Zv ?_ | refine Zc ?_ | refine Zq ?_ | refine Zm ?_ | (first | refine Zb rfl rfl (.inl rfl) rfl rfl ?_ | refine Zb rfl rfl (.inr rfl) rfl rfl ?_ | refine Za rfl rfl (.inl rfl) rfl ?_ | refine Za rfl rfl (.inr rfl) rfl ?_) | ((first | refine Zn rfl rfl rfl fun K hK => ?_ | refine Zh rfl rfl rfl fun K hK => ?_); go_simp; (try go_bits); (first | refine hK _ _ ?_ | refine hK _ ?_); clear hK K))
  refine Z9 rfl rfl rfl Try.func67 rfl (by kernel_rfl) rfl ?_
  refine Calls.mono (refPages_all (n : Int) w1 (by omega)) ?_
  rintro e _ ⟨rfl, rfl⟩
  refine ⟨_, rfl, ?_⟩
  rw [W9 n (by omega)]
  have hpg := XQ n
  have hpl := WT n
  have hp1 := Xa n
  obtain ⟨G, hG⟩ : ∃ G, pagesN n = G := ⟨_, rfl⟩
  rw [hG] at hE hpg hpl hp1 ⊢
  clear hG
  obtain ⟨S, hS⟩ : ∃ S, fr + G = S := ⟨_, rfl⟩
  have i3 : (fr : Int) + (G : Int) = (S : Int) := by omega
  have b0 : (0 : Int) ≤ S := by omega
  have b1 : (S : Int) ≤ 2000 := by omega
  have HGB := Lib.hid (And.intro hpg hpl)
  clear hpg hpl
  rw [hS] at hE
  have HSS := Lib.hid hS
  clear hS
  by_cases h4 : 64 < S
  · rw [if_pos h4] at hE
    have HE := Lib.hid hE
    have t4 : decide ((64 : Int) < (S : Int)) = true := by rw [decide_eq_true_eq]; omega
    have t4n : decide (64 < S) = true := decide_eq_true h4
    clear h4 hE
    repeat (first | refine Zv ?_ | refine Zs ?_ | refine Zu ?_ | refine Zc ?_ | refine Zq ?_ | refine Zm ?_ | refine Zp ?_ | refine Zw ?_ | refine Zf ?_ | refine Zd rfl ?_ | refine Zj rfl ?_ | refine Ze ?_ | refine Z3 ?_ | refine Zk ?_ | refine Zg ?_ | refine Zi ?_ | refine Zy rfl ?_ | refine Zx rfl ?_ | refine Zz rfl rfl ?_ | refine Zt rfl rfl rfl rfl ?_ | refine Zr rfl rfl rfl ?_ | (first | refine Zb rfl rfl (.inl rfl) rfl rfl ?_ | refine Zb rfl rfl (.inr rfl) rfl rfl ?_ | refine Za rfl rfl (.inl rfl) rfl ?_ | refine Za rfl rfl (.inr rfl) rfl ?_) | ((first | refine Zn rfl rfl rfl fun K hK => ?_ | refine Zh rfl rfl rfl fun K hK => ?_); go_simp; (try go_bits); (first | refine hK _ _ ?_ | refine hK _ ?_); clear hK K))
    exact ZE rfl rfl ⟨by rw [HE.out], by rw [HE.out]; exact H1.out, Z8 hb1 _⟩
  rw [if_neg h4] at hE
  have HE := Lib.hid hE
  have t4 : decide ((64 : Int) < (S : Int)) = false := by rw [decide_eq_false_iff_not]; omega
  have t4n : decide (64 < S) = false := decide_eq_false h4
  clear hE
  repeat (first | refine Zv ?_ | refine Zs ?_ | refine Zu ?_ | refine Zc ?_ | refine Zq ?_ | refine Zm ?_ | refine Zp ?_ | refine Zw ?_ | refine Zf ?_ | refine Zd rfl ?_ | refine Zj rfl ?_ | refine Ze ?_ | refine Z3 ?_ | refine Zk ?_ | refine Zg ?_ | refine Zi ?_ | refine Zy rfl ?_ | refine Zx rfl ?_ | refine Zz rfl rfl ?_ | refine Zt rfl rfl rfl rfl ?_ | refine Zr rfl rfl rfl ?_ | (first | refine Zb rfl rfl (.inl rfl) rfl rfl ?_ | refine Zb rfl rfl (.inr rfl) rfl rfl ?_ | refine Za rfl rfl (.inl rfl) rfl ?_ | refine Za rfl rfl (.inr rfl) rfl ?_) | ((first | refine Zn rfl rfl rfl fun K hK => ?_ | refine Zh rfl rfl rfl fun K hK => ?_); go_simp; (try go_bits); (first | refine hK _ _ ?_ | refine hK _ ?_); clear hK K))
  refine Z9 rfl rfl rfl Try.func68 rfl (by kernel_rfl) rfl ?_
  refine Calls.mono (refSeal_any A n c b w1 hA1 (by omega) hc hc9) ?_
  rintro e w2 ⟨vx, rfl, hox, hb2⟩
  refine ⟨_, rfl, ?_⟩
  obtain ⟨gx, cx, rfl, hgx, hgl, hcx1, hcx2⟩ := own_form hox (by omega)
  obtain ⟨Ax, cx', ex, o1, o2, hBx, _⟩ := ZP hox
  injection ex with ex1 _ ex3
  subst ex1; subst ex3
  have hBx : Bs w2 (some ⟨gx, 0, none⟩) (n + 6) (sealed b) := hBx
  obtain ⟨X, hX⟩ : ∃ X, sealed b = X := ⟨_, rfl⟩
  rw [hX] at hBx HE
  have H2 := Lib.hid (H1.out.below hb2)
  have hgxg : gx ≠ g := by have := H1.out.lt; omega
  have hb12 := Z1 hb1 hb2 hb1.size
  obtain ⟨N6, hN6⟩ : ∃ N6, n + 6 = N6 := ⟨_, rfl⟩
  rw [hN6] at hBx hcx1 ⊢
  have HXL := Lib.hid hBx.len
  have HBX := Lib.hid hBx
  have HGN : Hid (N6 ≤ 16 * G ∧ 16 * G < N6 + 16) := by show _ ∧ _; have := HGB.out; omega
  clear hX hox o1 o2 hBx t1 t1n t2 t3 t4 t4n i3 b0 b1 hA1 hb2
  have hN6b : N6 ≤ 1024 := by omega
  clear hN6
  repeat (first | refine Zv ?_ | refine Zu ?_ | refine Zc ?_ | refine Zq ?_ | refine Zm ?_ | refine Zp ?_ | refine Zw ?_ | refine Zf ?_ | refine Zd rfl ?_ | refine Zj rfl ?_ | refine Ze ?_ | refine Z3 ?_ | refine Zk ?_ | refine Zg ?_ | refine Zi ?_ | refine Zy rfl ?_ | refine Zx rfl ?_ | refine Zz rfl rfl ?_ | refine Zt rfl rfl rfl rfl ?_ | refine Zr rfl rfl rfl ?_ | (first | refine Zb rfl rfl (.inl rfl) rfl rfl ?_ | refine Zb rfl rfl (.inr rfl) rfl rfl ?_ | refine Za rfl rfl (.inl rfl) rfl ?_ | refine Za rfl rfl (.inr rfl) rfl ?_) | ((first | refine Zn rfl rfl rfl fun K hK => ?_ | refine Zh rfl rfl rfl fun K hK => ?_); go_simp; (try go_bits); (first | refine hK _ _ ?_ | refine hK _ ?_); clear hK K))
  refine KW.less [0, 1, 8, 9, 10] ?_
  simp only [nrm, lk, Nat.reduceBEq, cond_true, cond_false]
  refine Zs ?_
  refine Yw (fun mm L W => ∃ i f', i ≤ G ∧ mm = G - i ∧ RF Q W g f' ∧ w2.grownBy W (some g) ∧ Hid (progs s fr X G 0 f = progs s fr X (G - i) i f') ∧ L = [(0, .pointer (some ⟨g, 0, none⟩)), (1, .int .i64 s), (8, .int .i64 (fr : Int)), (9, .slice (some ⟨gx, 0, none⟩) N6 cx), (10, .int .i64 (i : Int))]) ⟨0, f, by omega, rfl, H2.out, ZG _ _, by show _ = _; rw [Nat.sub_zero], rfl⟩ ?_
  clear H2 H1 h
  rintro mm L W ⟨i, f', hi, rfl, hR, hgr, hpr, rfl⟩
  obtain ⟨q, hq⟩ : ∃ q, 16 * i = q := ⟨_, rfl⟩
  have j3 : (i : Int) * 16 = (q : Int) := by omega
  have j0 : (0 : Int) ≤ q := by omega
  have jb : (q : Int) ≤ 1200 := by have := HGN.out; omega
  by_cases hlt : q < N6
  case neg =>
    have hiG : i = G := by have := HGN.out; omega
    have t1 : decide ((q : Int) < (N6 : Int)) = false := by rw [decide_eq_false_iff_not]; omega
    have t1n : decide (q < N6) = false := decide_eq_false hlt
    have hfin : appendP f s b = (0, f') := by rw [HE.out, hpr.out, hiG, Nat.sub_self]; rfl
    have HFIN := Lib.hid hfin
    clear hlt hiG hfin hq
    repeat (first | refine Zv ?_ | refine Zs ?_ | refine Zu ?_ | refine Zc ?_ | refine Zq ?_ | refine Zm ?_ | refine Zp ?_ | refine Zw ?_ | refine Zf ?_ | refine Zd rfl ?_ | refine Zj rfl ?_ | refine Ze ?_ | refine Z3 ?_ | refine Zk ?_ | refine Zg ?_ | refine Zi ?_ | refine Zy rfl ?_ | refine Zx rfl ?_ | refine Zz rfl rfl ?_ | refine Zt rfl rfl rfl rfl ?_ | refine Zr rfl rfl rfl ?_ | (first | refine Zb rfl rfl (.inl rfl) rfl rfl ?_ | refine Zb rfl rfl (.inr rfl) rfl rfl ?_ | refine Za rfl rfl (.inl rfl) rfl ?_ | refine Za rfl rfl (.inr rfl) rfl ?_) | ((first | refine Zn rfl rfl rfl fun K hK => ?_ | refine Zh rfl rfl rfl fun K hK => ?_); go_simp; (try go_bits); (first | refine hK _ _ ?_ | refine hK _ ?_); clear hK K))
    exact ZE rfl rfl ⟨by rw [HFIN.out], by rw [HFIN.out]; exact hR, Z0 (Z8 hb12 _) hgr⟩
  have hiG : i < G := by have := HGN.out; omega
  have t1 : decide ((q : Int) < (N6 : Int)) = true := by rw [decide_eq_true_eq]; omega
  have t1n : decide (q < N6) = true := decide_eq_true hlt
  obtain ⟨i1, hi1⟩ : ∃ i1, i + 1 = i1 := ⟨_, rfl⟩
  obtain ⟨q1, hq1⟩ : ∃ q1, q + 16 = q1 := ⟨_, rfl⟩
  obtain ⟨p, hp⟩ : ∃ p, fr + i = p := ⟨_, rfl⟩
  have k3 : (i : Int) + 1 = (i1 : Int) := by omega
  have k4 : (i1 : Int) * 16 = (q1 : Int) := by omega
  have k5 : (fr : Int) + (i : Int) = (p : Int) := by omega
  have k0 : (0 : Int) ≤ i1 := by omega
  have k1 : (i1 : Int) ≤ 100 := by omega
  have l0 : (0 : Int) ≤ q1 := by omega
  have l1 : (q1 : Int) ≤ 2000 := by omega
  have p0 : (0 : Int) ≤ p := by omega
  have pb : (p : Int) ≤ 2000 := by omega
  obtain ⟨e, he⟩ : ∃ e, min q1 N6 = e := ⟨_, rfl⟩
  have m1 : (if (q1 : Int) < (N6 : Int) then (q1 : Int) else (N6 : Int)) = (e : Int) := by split <;> omega
  have m2 : (if (N6 : Int) < (q1 : Int) then (N6 : Int) else (q1 : Int)) = (e : Int) := by split <;> omega
  have m3 : (if q1 < N6 then (q1 : Int) else (N6 : Int)) = (e : Int) := by split <;> omega
  have m4 : (if N6 < q1 then (N6 : Int) else (q1 : Int)) = (e : Int) := by split <;> omega
  have s1 : (q : Int) ≤ e := by omega
  have s2 : (e : Int) ≤ cx := by omega
  have s3 : (e : Int) ≤ N6 := by omega
  have s4 : (0 : Int) ≤ e := by omega
  have s5 : (q : Int) ≤ cx := by omega
  have u1 : q ≤ e := by omega
  have u2 : e ≤ cx := by omega
  have u3 : e ≤ N6 := by omega
  have u5 : ¬ (cx = q) := by omega
  obtain ⟨d, hd⟩ : ∃ d, e - q = d := ⟨_, rfl⟩
  obtain ⟨cd, hcd⟩ : ∃ cd, cx - q = cd := ⟨_, rfl⟩
  have hdc : d ≤ cd := by omega
  have hcd9 : cd ≤ 9223372036854775807 := by omega
  have hBW : Bs W (some ⟨gx, 0, none⟩) N6 X := HBX.out.grownKeep hgr (fun a e => by injection e with e; subst e; exact hgxg)
  have hBm := hBW.mid_ (j := q) (k := e) (cap := cx) u1 u3 hcx1
  rw [if_neg u5, hd, mid_piece X q e (by rw [HXL.out]; omega) (by rw [HXL.out, hq1]; exact he.symm)] at hBm
  have hBm : Bs W (some ⟨gx, q, none⟩) d ((X.drop q).take 16) := by simpa [add_lit] using hBm
  have HBM := Lib.hid hBm
  have HQ' := Lib.hid (And.intro hq (And.intro hp hi1))
  clear hBm hBW hq hq1 hp hi1 he
  repeat (first | refine Zv ?_ | refine Zs ?_ | refine Zc ?_ | refine Zq ?_ | refine Zm ?_ | refine Zy rfl ?_ | refine Zu ?_ | (first | refine Zb rfl rfl (.inl rfl) rfl rfl ?_ | refine Zb rfl rfl (.inr rfl) rfl rfl ?_ | refine Za rfl rfl (.inl rfl) rfl ?_ | refine Za rfl rfl (.inr rfl) rfl ?_) | ((first | refine Zn rfl rfl rfl fun K hK => ?_ | refine Zh rfl rfl rfl fun K hK => ?_); go_simp; (try go_bits); (first | refine hK _ _ ?_ | refine hK _ ?_); clear hK K))
  refine Z9 rfl rfl rfl Try.func69 rfl (by kernel_rfl) rfl ?_
  refine Calls.mono (YF Q g hQ f' s (p : Int) (some ⟨gx, q, none⟩) d cd ((X.drop q).take 16) W hR HBM.out hdc hcd9) ?_
  rintro e w3 ⟨rfl, hR3, hg3⟩
  refine ⟨_, rfl, ?_⟩
  have hgr3 := Z0 hgr hg3
  have hne := progF_err f' s (p : Int) ((X.drop q).take 16)
  have hpr2 := hpr.out
  obtain ⟨n', hn'⟩ : ∃ n', G - i = n' + 1 := ⟨G - i - 1, by omega⟩
  rw [hn'] at hpr2
  have hgo := progs_go s fr X n' i f'
  have hst := progs_stop s fr X n' i f'
  rw [HQ'.out.1, HQ'.out.2.1] at hgo hst
  obtain ⟨Z, hZ⟩ : ∃ Z, progF f' s (p : Int) ((X.drop q).take 16) = Z := ⟨_, rfl⟩
  rw [hZ] at hR3 hgo hst hne ⊢
  obtain ⟨z, f3⟩ := Z
  dsimp only at hR3 hgo hst hne ⊢
  clear hZ
  by_cases hz : z = 0
  · subst hz
    have hpr3 : progs s fr X G 0 f = progs s fr X (G - i1) i1 f3 := by
      have h1 := HQ'.out.2.2
      rw [hpr2, hgo rfl, h1, show n' = G - i1 by omega]
    have HP3 := Lib.hid hpr3
    have hi1 : i1 ≤ G := by have := HQ'.out.2.2; omega
    have hm : G - i1 < G - i := by have := HQ'.out.2.2; omega
    have HM := Lib.hid (And.intro hi1 hm)
    clear hpr2 hgo hst hpr3 hn' hi1 hm hne
    repeat (first | refine Zv ?_ | refine Zs ?_ | refine Zc ?_ | refine Zq ?_ | refine Zm ?_ | refine Zp ?_ | refine Zx rfl ?_ | refine Zu ?_ | (first | refine Zb rfl rfl (.inl rfl) rfl rfl ?_ | refine Zb rfl rfl (.inr rfl) rfl rfl ?_ | refine Za rfl rfl (.inl rfl) rfl ?_ | refine Za rfl rfl (.inr rfl) rfl ?_) | ((first | refine Zn rfl rfl rfl fun K hK => ?_ | refine Zh rfl rfl rfl fun K hK => ?_); go_simp; (try go_bits); (first | refine hK _ _ ?_ | refine hK _ ?_); clear hK K))
    refine Yk (G - i1) [0, 1, 8, 9, 10] HM.out.2 ?_
    exact ⟨i1, f3, HM.out.1, rfl, hR3, hgr3, HP3, rfl⟩
  · have t2 : (z != 0) = true := by rw [bne_iff_ne]; exact hz
    have hfin : appendP f s b = (z, f3) := by rw [HE.out, hpr2, hst hz]
    have HFIN := Lib.hid hfin
    clear hfin hpr2 hgo hst hn' hz
    repeat (first | refine Zv ?_ | refine Zs ?_ | refine Zu ?_ | refine Zc ?_ | refine Zq ?_ | refine Zm ?_ | refine Zp ?_ | refine Zw ?_ | refine Zf ?_ | refine Zd rfl ?_ | refine Zj rfl ?_ | refine Ze ?_ | refine Z3 ?_ | refine Zk ?_ | refine Zg ?_ | refine Zi ?_ | refine Zy rfl ?_ | refine Zx rfl ?_ | refine Zz rfl rfl ?_ | refine Zt rfl rfl rfl rfl ?_ | refine Zr rfl rfl rfl ?_ | (first | refine Zb rfl rfl (.inl rfl) rfl rfl ?_ | refine Zb rfl rfl (.inr rfl) rfl rfl ?_ | refine Za rfl rfl (.inl rfl) rfl ?_ | refine Za rfl rfl (.inr rfl) rfl ?_) | ((first | refine Zn rfl rfl rfl fun K hK => ?_ | refine Zh rfl rfl rfl fun K hK => ?_); go_simp; (try go_bits); (first | refine hK _ _ ?_ | refine hK _ ?_); clear hK K))
    exact ZE rfl rfl ⟨by rw [HFIN.out], by rw [HFIN.out]; exact hR3, Z0 (Z8 hb12 _) hgr3⟩
end Go.Proofs.Ytkncomkncfcecaa
