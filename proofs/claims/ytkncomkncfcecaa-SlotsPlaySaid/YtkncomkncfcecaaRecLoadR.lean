/- Records: the document's Load. -/
import Derived.Test.YtkncomkncfcecaaRecLoad
set_option linter.unusedVariables false
set_option linter.unusedSimpArgs false
namespace Go.Proofs.Ytkncomkncfcecaa
open Go.RowKit
attribute [local go_sem] Y1 Yl Yp ZT Yy Yo ZI ZO Yi ZN ZH ZU Ya
set_option maxRecDepth 100000 in
set_option maxHeartbeats 2000000 in
theorem loadR_anyT (Q : Nat → Prop) (g : Nat) (f : FlashSt) (s : Int) (w : World) (h : RF Q w g f) (hs0 : -9223372036854775808 ≤ s ∧ s ≤ 9223372036854775807) :
    Calls Try.prog 66 #[.pointer (some ⟨g, 0, none⟩), .int .i64 s] w (LoadPT (readF f s) w) := by
  have hS := h.len
  refine ZZ Try.func66 rfl Try.ntmps66 rfl [(0, .pointer (some ⟨g, 0, none⟩)), (1, .int .i64 s)] rfl ?_
  by_cases hbad : s < 0 ∨ 6 ≤ s
  · have hr : readF f s = [] := by unfold readF; rw [if_pos hbad]
    have HZ : Hid (loadR (readF f s) = ([], 0)) := by show _ = _; rw [hr]; rfl
    clear hr
    rcases Int.lt_or_le s 0 with h1 | h1
    · have t1 : decide (s < 0) = true := decide_eq_true h1
      clear hbad h1 h
      repeat (first | refine Zv ?_ | refine Zs ?_ | refine Zu ?_ | refine Zc ?_ | refine Zq ?_ | refine Zm ?_ | refine Zp ?_ | refine Zw ?_ | refine Zf ?_ | refine Zd rfl ?_ | refine Zj rfl ?_ | refine Ze ?_ | refine Z3 ?_ | refine Zk ?_ | refine Zg ?_ | refine Zi ?_ | refine Zy rfl ?_ | refine Zx rfl ?_ | refine Zz rfl rfl ?_ | refine Zt rfl rfl rfl rfl ?_ | refine Zr rfl rfl rfl ?_ | (first | refine Zb rfl rfl (.inl rfl) rfl rfl ?_ | refine Zb rfl rfl (.inr rfl) rfl rfl ?_ | refine Za rfl rfl (.inl rfl) rfl ?_ | refine Za rfl rfl (.inr rfl) rfl ?_) | ((first | refine Zn rfl rfl rfl fun K hK => ?_ | refine Zh rfl rfl rfl fun K hK => ?_); go_simp; (try go_bits); (first | refine hK _ _ ?_ | refine hK _ ?_); clear hK K))
      exact YN rfl rfl rfl ⟨0, none, 0, 0, [], by rw [HZ.out]; rfl, World.ownsRow_nil _ _ _ _, by rw [HZ.out]; exact PsY.nil _, Nat.le_refl _, by omega, Below.refl _ _⟩
    · have t1 : decide (s < 0) = false := decide_eq_false (by omega)
      have t2 : decide (6 ≤ s) = true := decide_eq_true (by omega)
      clear hbad h1 h
      repeat (first | refine Zv ?_ | refine Zs ?_ | refine Zu ?_ | refine Zc ?_ | refine Zq ?_ | refine Zm ?_ | refine Zp ?_ | refine Zw ?_ | refine Zf ?_ | refine Zd rfl ?_ | refine Zj rfl ?_ | refine Ze ?_ | refine Z3 ?_ | refine Zk ?_ | refine Zg ?_ | refine Zi ?_ | refine Zy rfl ?_ | refine Zx rfl ?_ | refine Zz rfl rfl ?_ | refine Zt rfl rfl rfl rfl ?_ | refine Zr rfl rfl rfl ?_ | (first | refine Zb rfl rfl (.inl rfl) rfl rfl ?_ | refine Zb rfl rfl (.inr rfl) rfl rfl ?_ | refine Za rfl rfl (.inl rfl) rfl ?_ | refine Za rfl rfl (.inr rfl) rfl ?_) | ((first | refine Zn rfl rfl rfl fun K hK => ?_ | refine Zh rfl rfl rfl fun K hK => ?_); go_simp; (try go_bits); (first | refine hK _ _ ?_ | refine hK _ ?_); clear hK K))
      exact YN rfl rfl rfl ⟨0, none, 0, 0, [], by rw [HZ.out]; rfl, World.ownsRow_nil _ _ _ _, by rw [HZ.out]; exact PsY.nil _, Nat.le_refl _, by omega, Below.refl _ _⟩
  have t1 : decide (s < 0) = false := decide_eq_false (by omega)
  have t2 : decide (6 ≤ s) = false := decide_eq_false (by omega)
  have hlens : (readF f s).length = 1024 := by
    obtain ⟨k, rfl⟩ : ∃ k : Nat, s = k := ⟨s.toNat, by omega⟩
    exact Xp f k (by omega) hS
  clear hbad
  repeat (first | refine Zv ?_ | refine Zs ?_ | refine Zu ?_ | refine Zc ?_ | refine Zq ?_ | refine Zm ?_ | refine Zp ?_ | refine Zw ?_ | refine Zf ?_ | refine Zd rfl ?_ | refine Zj rfl ?_ | refine Ze ?_ | refine Z3 ?_ | refine Zk ?_ | refine Zg ?_ | refine Zi ?_ | refine Zy rfl ?_ | refine Zx rfl ?_ | refine Zz rfl rfl ?_ | refine Zt rfl rfl rfl rfl ?_ | refine Zr rfl rfl rfl ?_ | (first | refine Zb rfl rfl (.inl rfl) rfl rfl ?_ | refine Zb rfl rfl (.inr rfl) rfl rfl ?_ | refine Za rfl rfl (.inl rfl) rfl ?_ | refine Za rfl rfl (.inr rfl) rfl ?_) | ((first | refine Zn rfl rfl rfl fun K hK => ?_ | refine Zh rfl rfl rfl fun K hK => ?_); go_simp; (try go_bits); (first | refine hK _ _ ?_ | refine hK _ ?_); clear hK K))
  refine Z9 rfl rfl rfl Try.func49 rfl (by kernel_rfl) rfl ?_
  refine Calls.mono (refRead_any Q g f s w h) ?_
  rintro e w1 ⟨A, n, c, rfl, hB, hnc, hc, hb⟩
  refine ⟨_, rfl, ?_⟩
  generalize readF f s = b at hB hlens ⊢
  have HL := Lib.hid hB.len
  have hn : n = 1024 := by have := HL.out; omega
  subst hn
  obtain ⟨gb, ob, rfl⟩ := hB.some_ (by omega)
  have HB := Lib.hid hB
  have HR : Hid (loadR b = loadP b 0) := if_neg (by rw [HL.out]; decide)
  clear hlens hB h t1 t2
  repeat (first | refine Zv ?_ | refine Zu ?_ | refine Zc ?_ | refine Zq ?_ | refine Zm ?_ | refine Zp ?_ | refine Zw ?_ | refine Zf ?_ | refine Zd rfl ?_ | refine Zj rfl ?_ | refine Ze ?_ | refine Z3 ?_ | refine Zk ?_ | refine Zg ?_ | refine Zi ?_ | refine Zy rfl ?_ | refine Zx rfl ?_ | refine Zz rfl rfl ?_ | refine Zt rfl rfl rfl rfl ?_ | refine Zr rfl rfl rfl ?_ | (first | refine Zb rfl rfl (.inl rfl) rfl rfl ?_ | refine Zb rfl rfl (.inr rfl) rfl rfl ?_ | refine Za rfl rfl (.inl rfl) rfl ?_ | refine Za rfl rfl (.inr rfl) rfl ?_) | ((first | refine Zn rfl rfl rfl fun K hK => ?_ | refine Zh rfl rfl rfl fun K hK => ?_); go_simp; (try go_bits); (first | refine hK _ _ ?_ | refine hK _ ?_); clear hK K))
  refine KW.less [6, 7, 8] ?_
  simp only [nrm, lk, Nat.reduceBEq, cond_true, cond_false]
  refine Zs ?_
  have own0 : Hid (w1.ownsRow w1.heap.size 32 1 (.slice none 0 0) 0 []) := World.ownsRow_nil _ _ _ _
  refine Yw (fun mm L W => ∃ p acc v xs, p ≤ 64 ∧ mm = 64 - p ∧ acc.length ≤ p ∧ Below w1.heap.size w1 W ∧ Hid (W.ownsRow w1.heap.size 32 1 v acc.length xs) ∧ Hid (PsY W xs acc) ∧ Hid (loadR b = (acc ++ (loadP b p).1, (loadP b p).2)) ∧ L = [(6, .slice (some ⟨gb, ob, none⟩) 1024 c), (7, v), (8, .int .i64 (p : Int))])
    ⟨0, [], .slice none 0 0, [], by omega, rfl, by simp, Below.refl _ _, own0, PsY.nil _, by show _ = _; rw [HR.out]; rfl, rfl⟩ ?_
  clear own0
  rintro mm L W ⟨p, acc, v, xs, hp, rfl, hacc, hbW, HO, HX, HE, rfl⟩
  by_cases hlt : p < 64
  case neg =>
    obtain rfl : p = 64 := by omega
    have t1 : decide (((64 : Nat) : Int) < 64) = false := by decide
    rw [Vd (Nat.le_refl 64)] at HE
    simp only [List.append_nil] at HE
    obtain ⟨A2, c2, rfl, o1, o2, o3, _⟩ := ZP HO.out
    repeat (first | refine Zv ?_ | refine Zs ?_ | refine Zu ?_ | refine Zc ?_ | refine Zq ?_ | refine Zm ?_ | refine Zp ?_ | refine Zw ?_ | refine Zf ?_ | refine Zd rfl ?_ | refine Zj rfl ?_ | refine Ze ?_ | refine Z3 ?_ | refine Zk ?_ | refine Zg ?_ | refine Zi ?_ | refine Zy rfl ?_ | refine Zx rfl ?_ | refine Zz rfl rfl ?_ | refine Zt rfl rfl rfl rfl ?_ | refine Zr rfl rfl rfl ?_ | (first | refine Zb rfl rfl (.inl rfl) rfl rfl ?_ | refine Zb rfl rfl (.inr rfl) rfl rfl ?_ | refine Za rfl rfl (.inl rfl) rfl ?_ | refine Za rfl rfl (.inr rfl) rfl ?_) | ((first | refine Zn rfl rfl rfl fun K hK => ?_ | refine Zh rfl rfl rfl fun K hK => ?_); go_simp; (try go_bits); (first | refine hK _ _ ?_ | refine hK _ ?_); clear hK K))
    exact YN rfl rfl rfl ⟨_, A2, acc.length, c2, _, by rw [HE.out]; rfl, HO.out, by rw [HE.out]; exact HX.out, o1, by simpa [maxLen] using o2, Z1 hb hbW hb.size⟩
  have t1 : decide ((p : Int) < 64) = true := by rw [decide_eq_true_eq]; omega
  have HBW := Lib.hid (HB.out.keep (.of_below hbW))
  obtain ⟨q, hq⟩ : ∃ q, 16 * p = q := ⟨_, rfl⟩
  obtain ⟨p1, hp1⟩ : ∃ p1, p + 1 = p1 := ⟨_, rfl⟩
  obtain ⟨q1, hq1⟩ : ∃ q1, q + 16 = q1 := ⟨_, rfl⟩
  obtain ⟨r, hr⟩ : ∃ r, 1024 - q = r := ⟨_, rfl⟩
  obtain ⟨cq, hcq⟩ : ∃ cq, c - q = cq := ⟨_, rfl⟩
  have h16 : q1 - q = 16 := by omega
  have j3 : (p : Int) * 16 = (q : Int) := by omega
  have i3 : (p : Int) + 1 = (p1 : Int) := by omega
  have k3 : (p1 : Int) * 16 = (q1 : Int) := by omega
  have j0 : (0 : Int) ≤ q := by omega
  have j1 : (q : Int) ≤ 1024 := by omega
  have k0 : (0 : Int) ≤ q1 := by omega
  have k1 : (q1 : Int) ≤ 1024 := by omega
  have k2 : (q : Int) ≤ q1 := by omega
  have k4 : (q1 : Int) ≤ c := by omega
  have k5 : (q : Int) ≤ c := by omega
  have k6 : (1024 : Int) ≤ c := by omega
  have l0 : (0 : Int) ≤ p1 := by omega
  have l1 : (p1 : Int) ≤ 64 := by omega
  have j5 : ¬ (c = q) := by omega
  have n2 : q ≤ q1 := by omega
  have n4 : q1 ≤ c := by omega
  have n1 : q1 ≤ 1024 := by omega
  have n5 : q ≤ c := by omega
  have n6 : q ≤ 1024 := by omega
  have n7 : r ≤ cq := by omega
  have n8 : cq ≤ 9223372036854775807 := by omega
  have hBm := HBW.out.mid_ (j := q) (k := q1) (cap := c) n2 n1 hnc
  rw [if_neg j5, h16] at hBm
  have hBm : Bs W (some ⟨gb, ob + q, none⟩) 16 ((b.drop q).take 16) := by
    have e : (b.take q1).drop q = (b.drop q).take 16 := by rw [List.drop_take, h16]
    rw [e] at hBm
    simpa [add_lit] using hBm
  have hBq := HBW.out.from_ (k := q) (cap := c) n6 hnc
  rw [if_neg j5, hr] at hBq
  have hBq : Bs W (some ⟨gb, ob + q, none⟩) r (b.drop q) := by simpa [add_lit] using hBq
  have HBM := Lib.hid hBm
  have HBQ := Lib.hid hBq
  have HQ := Lib.hid hq
  have HRR := Lib.hid hr
  clear hBm hBq
  repeat (first | refine Zv ?_ | refine Zs ?_ | refine Zc ?_ | refine Zq ?_ | refine Zm ?_ | refine Zy rfl ?_ | refine Zu ?_ | (first | refine Zb rfl rfl (.inl rfl) rfl rfl ?_ | refine Zb rfl rfl (.inr rfl) rfl rfl ?_ | refine Za rfl rfl (.inl rfl) rfl ?_ | refine Za rfl rfl (.inr rfl) rfl ?_) | ((first | refine Zn rfl rfl rfl fun K hK => ?_ | refine Zh rfl rfl rfl fun K hK => ?_); go_simp; (try go_bits); (first | refine hK _ _ ?_ | refine hK _ ?_); clear hK K))
  refine Z9 rfl rfl rfl Try.func88 rfl (by kernel_rfl) rfl ?_
  refine Calls.mono (blank5_any (some ⟨gb, ob + q, none⟩) 16 cq ((b.drop q).take 16) W HBM.out (by omega)) ?_
  rintro e _ ⟨rfl, rfl⟩
  refine ⟨_, rfl, ?_⟩
  by_cases hbl : blankP ((b.drop q).take 16) = true
  · have hE2 : loadP b p = ([], p) := X4 hlt (by rw [HQ.out]; exact hbl)
    rw [hbl]
    rw [hE2] at HE
    simp only [List.append_nil] at HE
    clear hbl hE2 hq hr hq1 hp1 hcq j3 i3 k3
    obtain ⟨A2, c2, rfl, o1, o2, o3, _⟩ := ZP HO.out
    repeat (first | refine Zv ?_ | refine Zs ?_ | refine Zu ?_ | refine Zc ?_ | refine Zq ?_ | refine Zm ?_ | refine Zp ?_ | refine Zw ?_ | refine Zf ?_ | refine Zd rfl ?_ | refine Zj rfl ?_ | refine Ze ?_ | refine Z3 ?_ | refine Zk ?_ | refine Zg ?_ | refine Zi ?_ | refine Zy rfl ?_ | refine Zx rfl ?_ | refine Zz rfl rfl ?_ | refine Zt rfl rfl rfl rfl ?_ | refine Zr rfl rfl rfl ?_ | (first | refine Zb rfl rfl (.inl rfl) rfl rfl ?_ | refine Zb rfl rfl (.inr rfl) rfl rfl ?_ | refine Za rfl rfl (.inl rfl) rfl ?_ | refine Za rfl rfl (.inr rfl) rfl ?_) | ((first | refine Zn rfl rfl rfl fun K hK => ?_ | refine Zh rfl rfl rfl fun K hK => ?_); go_simp; (try go_bits); (first | refine hK _ _ ?_ | refine hK _ ?_); clear hK K))
    exact YN rfl rfl rfl ⟨_, A2, acc.length, c2, _, by rw [HE.out], HO.out, by rw [HE.out]; exact HX.out, o1, by simpa [maxLen] using o2, Z1 hb hbW hb.size⟩
  have hbl : blankP ((b.drop q).take 16) = false := by simpa using hbl
  rw [hbl]
  have HBL := Lib.hid hbl
  clear hbl
  repeat (first | refine Zv ?_ | refine Zs ?_ | refine Zu ?_ | refine Zc ?_ | refine Zq ?_ | refine Zm ?_ | refine Zp ?_ | refine Zw ?_ | refine Zf ?_ | refine Zd rfl ?_ | refine Zj rfl ?_ | refine Ze ?_ | refine Z3 ?_ | refine Zk ?_ | refine Zg ?_ | refine Zi ?_ | refine Zy rfl ?_ | refine Zx rfl ?_ | refine Zz rfl rfl ?_ | refine Zt rfl rfl rfl rfl ?_ | refine Zr rfl rfl rfl ?_ | (first | refine Zb rfl rfl (.inl rfl) rfl rfl ?_ | refine Zb rfl rfl (.inr rfl) rfl rfl ?_ | refine Za rfl rfl (.inl rfl) rfl ?_ | refine Za rfl rfl (.inr rfl) rfl ?_) | ((first | refine Zn rfl rfl rfl fun K hK => ?_ | refine Zh rfl rfl rfl fun K hK => ?_); go_simp; (try go_bits); (first | refine hK _ _ ?_ | refine hK _ ?_); clear hK K))
  refine Z9 rfl rfl rfl Try.func89 rfl (by kernel_rfl) rfl ?_
  refine Calls.mono (refOpen_full (some ⟨gb, ob + q, none⟩) r cq (b.drop q) W HBQ.out n7 n8) ?_
  rintro e w2 ⟨vx, rfl, hox, hbx⟩
  refine ⟨_, rfl, ?_⟩
  clear hq hr hq1 hp1 hcq j3 i3 k3
  have hO1 := opened_len (b.drop q)
  have hO2 := opened_err (b.drop q)
  have hO3 := Wu (b.drop q)
  have hbad := fun h => loadP_bad hlt (by rw [HQ.out]; exact HBL.out) (by rw [HQ.out]; exact h)
  have hnext := fun h => WA hlt (by rw [HQ.out]; exact HBL.out) (by rw [HQ.out]; exact h)
  rw [HQ.out] at hnext
  rw [HBQ.out.len] at hO1
  obtain ⟨O, hO⟩ : ∃ O, opened (b.drop q) = O := ⟨_, rfl⟩
  rw [hO] at hox hO1 hO2 hO3 hbad hnext ⊢
  obtain ⟨x, k, er⟩ := O
  dsimp only at hox hO1 hO2 hO3 hbad hnext ⊢
  clear hO
  have HBAD := Lib.hid hbad
  have HNEXT := Lib.hid hnext
  clear hbad hnext
  obtain ⟨Ax, cx, rfl, hBx, hcx1, hcx2⟩ := own_B hox
  have hTx : TyB w2 Ax := fun b' o' e => own_ty hox (by rw [e]; rfl)
  have HO := Lib.hid (Yx HO.out hbx)
  have HX := Lib.hid (HX.out.below hbx)
  have hbW2 := Z1 hbW hbx hbW.size
  by_cases her : er = 0
  case neg =>
    have t2 : ((er : Int) != 0) = true := by rw [bne_iff_ne]; omega
    have hE2 := HBAD.out her
    rw [hE2] at HE
    simp only [List.append_nil] at HE
    clear her hE2 hO1 hO2 hO3
    obtain ⟨A2, c2, rfl, o1, o2, o3, _⟩ := ZP HO.out
    repeat (first | refine Zv ?_ | refine Zs ?_ | refine Zu ?_ | refine Zc ?_ | refine Zq ?_ | refine Zm ?_ | refine Zp ?_ | refine Zw ?_ | refine Zf ?_ | refine Zd rfl ?_ | refine Zj rfl ?_ | refine Ze ?_ | refine Z3 ?_ | refine Zk ?_ | refine Zg ?_ | refine Zi ?_ | refine Zy rfl ?_ | refine Zx rfl ?_ | refine Zz rfl rfl ?_ | refine Zt rfl rfl rfl rfl ?_ | refine Zr rfl rfl rfl ?_ | (first | refine Zb rfl rfl (.inl rfl) rfl rfl ?_ | refine Zb rfl rfl (.inr rfl) rfl rfl ?_ | refine Za rfl rfl (.inl rfl) rfl ?_ | refine Za rfl rfl (.inr rfl) rfl ?_) | ((first | refine Zn rfl rfl rfl fun K hK => ?_ | refine Zh rfl rfl rfl fun K hK => ?_); go_simp; (try go_bits); (first | refine hK _ _ ?_ | refine hK _ ?_); clear hK K))
    exact YN rfl rfl rfl ⟨_, A2, acc.length, c2, _, by rw [HE.out]; rfl, HO.out, by rw [HE.out]; exact HX.out, o1, by simpa [maxLen] using o2, Z1 hb hbW2 hb.size⟩
  subst her
  have hlx := hO1 rfl
  have hE2 := HNEXT.out rfl
  rw [hE2] at HE
  clear hE2 hO1 hO2 HNEXT HBAD
  obtain ⟨m, hm⟩ : ∃ m, x.length = m := ⟨_, rfl⟩
  rw [hm] at hBx hcx1 hlx hO3 HE ⊢
  have HM := Lib.hid hm
  have HBX := Lib.hid hBx
  have HTX := Lib.hid hTx
  clear hm hBx hTx hox hbx
  repeat (first | refine Zv ?_ | refine Zs ?_ | refine Zc ?_ | refine Zq ?_ | refine Zm ?_ | refine Zx rfl ?_ | refine Zu ?_ | (first | refine Zb rfl rfl (.inl rfl) rfl rfl ?_ | refine Zb rfl rfl (.inr rfl) rfl rfl ?_ | refine Za rfl rfl (.inl rfl) rfl ?_ | refine Za rfl rfl (.inr rfl) rfl ?_) | ((first | refine Zn rfl rfl rfl fun K hK => ?_ | refine Zh rfl rfl rfl fun K hK => ?_); go_simp; (try go_bits); (first | refine hK _ _ ?_ | refine hK _ ?_); clear hK K))
  obtain ⟨w5, hw5⟩ : ∃ w5, w5 = w2.alloc (.cells #[.slice Ax m cx] 32) := ⟨_, rfl⟩
  have hb5 : Below w2.heap.size w2 w5 := by rw [hw5]; exact (Below.refl _ _).alloc (Nat.le_refl _) _
  have hv5 : Vs w5 (some ⟨w2.heap.size, 0, none⟩) 1 [.slice Ax m cx] := by rw [hw5]; exact Vs.one (cell_new _ _ _ 0 rfl)
  rw [← hw5]
  have HO := Lib.hid (Yx HO.out hb5)
  have HX := Lib.hid (HX.out.below hb5)
  have hB5 := HBX.out.below hb5
  have hT5 := HTX.out.below hb5
  have hbW5 := Z1 hbW2 hb5 hbW2.size
  clear hw5 hbW2 hb5
  refine kl_appendV 41 32 (.slice none 0 0) 24 Try.underlying41 sliceInfo rfl w1.heap.size v acc.length xs HO.out _ 1 1 [.slice Ax m cx] hv5 (by simp [Value.oneCell']) (by omega) (by omega) hbW5.size rfl rfl rfl rfl rfl rfl ?_
  intro v6 w6 ho6 hg6 _
  have hX6 := (HX.out.grown hg6 HO.out)
  have key : ∀ b' o', Ax = some ⟨b', o', none⟩ → w6.heap[b']? = w5.heap[b']? := fun b' o' e => by
    obtain ⟨cs, hc⟩ := hT5 b' o' e
    refine hg6.block b' (Array.getElem?_eq_some_iff.1 hc).1 fun hk => ?_
    obtain ⟨cs', hc'⟩ := own_ty HO.out hk.symm
    rw [hc] at hc'
    injection hc' with hc'
    injection hc' with _ ht _
    exact absurd ht (by decide)
  have hB6 : Bs w6 Ax m x := hB5.heap fun _ => key
  have hT6 : TyB w6 Ax := fun b' o' e => by rw [key b' o' e]; exact hT5 b' o' e
  have hbW6 := Yq hbW5 hg6 HO.out hbW5.size
  have HX6 := Lib.hid (hX6.snoc hB6 hcx1 hcx2 hT6)
  have HO6 := Lib.hid ho6
  clear hX6 hB6 hT6 ho6 hg6 hbW5 hB5 hT5 hv5 HX HO key
  (first | refine Zb rfl rfl (.inl rfl) rfl rfl ?_ | refine Zb rfl rfl (.inr rfl) rfl rfl ?_ | refine Za rfl rfl (.inl rfl) rfl ?_ | refine Za rfl rfl (.inr rfl) rfl ?_)
  refine Zq ?_
  refine Zm ?_
  repeat (first | refine Zv ?_ | refine Zc ?_ | refine Zq ?_ | refine Zm ?_ | (first | refine Zb rfl rfl (.inl rfl) rfl rfl ?_ | refine Zb rfl rfl (.inr rfl) rfl rfl ?_ | refine Za rfl rfl (.inl rfl) rfl ?_ | refine Za rfl rfl (.inr rfl) rfl ?_) | ((first | refine Zn rfl rfl rfl fun K hK => ?_ | refine Zh rfl rfl rfl fun K hK => ?_); go_simp; (try go_bits); (first | refine hK _ _ ?_ | refine hK _ ?_); clear hK K))
  refine Z9 rfl rfl rfl Try.func67 rfl (by kernel_rfl) rfl ?_
  refine Calls.mono (refPages_all (m : Int) w6 (by omega)) ?_
  rintro e _ ⟨rfl, rfl⟩
  refine ⟨_, rfl, ?_⟩
  rw [W9 m hO3]
  have hpg := XQ m
  have hpl := WT m
  have hp1 := Xa m
  obtain ⟨G, hG⟩ : ∃ G, pagesN m = G := ⟨_, rfl⟩
  rw [hG] at HE hpg hpl hp1 ⊢
  have hq := HQ.out
  have hr := HRR.out
  obtain ⟨p2, hp2⟩ : ∃ p2, p + G = p2 := ⟨_, rfl⟩
  have hp3 : p2 ≤ 64 := by omega
  have i3 : (p : Int) + (G : Int) = (p2 : Int) := by omega
  have i4 : IntKind.i64.wrap ((p : Int) + (G : Int)) = (p2 : Int) := by rw [i3, IntWalk.i64_in _ (by omega)]
  rw [hp2] at HE
  have HP := Lib.hid (show p < p2 from by omega)
  clear hG hpg hpl hp1 hq hr hp2 hlx hO3
  repeat (first | (first | refine Zb rfl rfl (.inl rfl) rfl rfl ?_ | refine Zb rfl rfl (.inr rfl) rfl rfl ?_ | refine Za rfl rfl (.inl rfl) rfl ?_ | refine Za rfl rfl (.inr rfl) rfl ?_) | ((first | refine Zn rfl rfl rfl fun K hK => ?_ | refine Zh rfl rfl rfl fun K hK => ?_); go_simp; (try go_bits); (first | refine hK _ _ ?_ | refine hK _ ?_); clear hK K))
  refine Zq ?_
  refine Zp ?_
  have hp4 := HP.out
  refine Yk (64 - p2) [6, 7, 8] (by omega) ?_
  exact ⟨p2, acc ++ [x], v6, xs ++ [.slice Ax m cx], hp3, rfl, by simp; omega, hbW6, by rw [List.length_append]; exact HO6, HX6, by show _ = _; rw [HE.out]; simp, rfl⟩
theorem loadR_any (Q : Nat → Prop) (g : Nat) (f : FlashSt) (s : Int) (w : World) (h : RF Q w g f) (hs0 : -9223372036854775808 ≤ s ∧ s ≤ 9223372036854775807) :
    Calls Try.prog 66 #[.pointer (some ⟨g, 0, none⟩), .int .i64 s] w (LoadP (readF f s) w) :=
  Calls.mono (loadR_anyT Q g f s w h hs0) fun e w' ⟨B0, A, n, c, xs, h1, h2, h3, h4, h5, h6⟩ => by
    obtain ⟨A', c', he, _, _, hv, _⟩ := ZP h2
    injection he with e1 _ e3
    subst e1
    exact ⟨A, n, c, h1, h3.ps hv, h4, h5, h6⟩
end Go.Proofs.Ytkncomkncfcecaa
