/- Parse of an entry: the code's and the document's. -/
import Derived.Test.YtkncomkncfcecaaKnV
import Derived.Test.YtkncomkncfcecaaRd
set_option linter.unusedVariables false
set_option linter.unusedSimpArgs false
namespace Go.Proofs.Ytkncomkncfcecaa
open Go.RowKit
attribute [local go_sem] Y1 Yl Yp ZT Yy Yo ZI ZO Yi ZN ZH ZU Ya
def ParseEP (b : List UInt8) (w : World) (e : Ending) (w' : World) : Prop := e = .returned (.tuple #[.agg (entC (parseE b).1).toArray, .int .i64 (parseE b).2]) ∧ Below w.heap.size w w'
theorem tkN_i64 (t : List UInt8 × List UInt8 × Int) : I64 (tkN t) := by unfold I64 tkN wrap64; omega
theorem finE_err (e : EntS) (r : Int) (h : r ≠ 0) : finE e r = (entZ, r) := by unfold finE; rw [if_neg h]
theorem XD (e : EntS) (h : badE e = true) : finE e 0 = (entZ, 10) := by unfold finE; rw [if_pos rfl, if_pos h]
theorem finE_ok (e : EntS) (h : badE e = false) : finE e 0 = (e, 0) := by unfold finE; rw [if_pos rfl, h]; rfl
theorem badE_1 (q s : Int) (h : List UInt8) (hq : q < 1) : badE ⟨q, s, h⟩ = true := by simp [badE, hq]
theorem badE_2 (q s : Int) (h : List UInt8) (hq : 1073741824 < q) : badE ⟨q, s, h⟩ = true := by simp [badE, hq]
theorem badE_3 (q s : Int) (h : List UInt8) (hq : s < 0) : badE ⟨q, s, h⟩ = true := by simp [badE, hq]
theorem badE_4 (q s : Int) (h : List UInt8) (hq : 2 < s) : badE ⟨q, s, h⟩ = true := by simp [badE, hq]
theorem badE_0 (q s : Int) (h : List UInt8) (h1 : ¬ q < 1) (h2 : ¬ 1073741824 < q) (h3 : ¬ s < 0) (h4 : ¬ 2 < s) : badE ⟨q, s, h⟩ = false := by simp only [badE, Bool.or_eq_false_iff, decide_eq_false_iff_not]; exact ⟨⟨⟨h1, h2⟩, h3⟩, h4⟩
set_option maxRecDepth 100000 in
set_option maxHeartbeats 4000000 in
theorem parseE_any (A : Option Addr) (n c : Nat) (b : List UInt8) (w : World) (hA : Bs w A n b) (hn : n ≤ 1099511627776) (hnc : n ≤ c) (hc : c ≤ 9223372036854775807) : Calls Try.prog 53 #[.slice A n c] w (ParseEP b w) := by
  refine ZZ Try.func53 rfl Try.ntmps53 rfl [(0, .slice A n c)] rfl ?_
  refine Zv ?_
  refine Zc ?_
  refine W6 (Lay.start w) entZero rfl rfl rfl rfl ?_
  intro g2 w1 hg2 hb1 hL1
  have hA1 := hA.below hb1
  have hg2w : Hid (w.heap.size ≤ w1.heap.size) := hb1.size
  clear hg2 hb1
  repeat (first | refine Zv ?_ | refine Zs ?_ | refine Zu ?_ | refine Zc ?_ | refine Zq ?_ | refine Zm ?_ | refine Zp ?_ | refine Zw ?_ | refine Zf ?_ | refine Zd rfl ?_ | refine Zj rfl ?_ | refine Ze ?_ | refine Z3 ?_ | refine Zk ?_ | refine Zg ?_ | refine Zi ?_ | refine Zy rfl ?_ | refine Zx rfl ?_ | refine Zz rfl rfl ?_ | refine Zt rfl rfl rfl rfl ?_ | refine Zr rfl rfl rfl ?_ | (first | refine Zb rfl rfl (.inl rfl) rfl rfl ?_ | refine Zb rfl rfl (.inr rfl) rfl rfl ?_ | refine Za rfl rfl (.inl rfl) rfl ?_ | refine Za rfl rfl (.inr rfl) rfl ?_) | ((first | refine Zn rfl rfl rfl fun K hK => ?_ | refine Zh rfl rfl rfl fun K hK => ?_); go_simp; (try go_bits); (first | refine hK _ _ ?_ | refine hK _ ?_); clear hK K))
  refine Z9 rfl rfl rfl Try.func75 rfl (by kernel_rfl) rfl ?_
  refine Calls.mono (rdNew A n c b hL1 hA1 (by omega)) ?_
  rintro e w2 ⟨g, rfl, hg, hR⟩
  refine ⟨_, rfl, ?_⟩
  have hB : Hid (w.heap.size ≤ g) := by show _ ≤ _; have := hg2w.out; omega
  clear hL1 hA1 hg
  obtain ⟨r0, hr0⟩ : ∃ r0, parseE b = r0 := ⟨_, rfl⟩
  have HP0 := Lib.hid hr0
  unfold parseE at hr0
  repeat (first | refine Zv ?_ | refine Zs ?_ | refine Zu ?_ | refine Zc ?_ | refine Zq ?_ | refine Zm ?_ | refine Zp ?_ | refine Zw ?_ | refine Zf ?_ | refine Zd rfl ?_ | refine Zj rfl ?_ | refine Ze ?_ | refine Z3 ?_ | refine Zk ?_ | refine Zg ?_ | refine Zi ?_ | refine Zy rfl ?_ | refine Zx rfl ?_ | refine Zz rfl rfl ?_ | refine Zt rfl rfl rfl rfl ?_ | refine Zr rfl rfl rfl ?_ | (first | refine Zb rfl rfl (.inl rfl) rfl rfl ?_ | refine Zb rfl rfl (.inr rfl) rfl rfl ?_ | refine Za rfl rfl (.inl rfl) rfl ?_ | refine Za rfl rfl (.inr rfl) rfl ?_) | ((first | refine Zn rfl rfl rfl fun K hK => ?_ | refine Zh rfl rfl rfl fun K hK => ?_); go_simp; (try go_bits); (first | refine hK _ _ ?_ | refine hK _ ?_); clear hK K))
  refine Z9 rfl rfl rfl Try.func76 rfl (by kernel_rfl) rfl ?_
  refine Calls.mono (rdInt hR) ?_
  rintro e w3 ⟨rfl, hR2⟩
  have hi := tkN_i64 (taken b 0 8)
  obtain ⟨q, hq⟩ : ∃ q, tkN (taken b 0 8) = q := ⟨_, rfl⟩
  obtain ⟨l1, e1, hle⟩ : ∃ l1 e1, (taken b 0 8).2 = (l1, e1) := ⟨_, _, rfl⟩
  rw [hle] at hR2 hr0
  rw [hq] at hi hr0 ⊢
  dsimp only at hR2 hr0
  unfold I64 at hi
  have hiq := Lib.hid hi
  have hR := hR2
  clear hle hq hi hR2
  refine ⟨_, rfl, ?_⟩
  unfold rawS at hr0
  repeat (first | refine Zv ?_ | refine Zs ?_ | refine Zu ?_ | refine Zc ?_ | refine Zq ?_ | refine Zm ?_ | refine Zp ?_ | refine Zw ?_ | refine Zf ?_ | refine Zd rfl ?_ | refine Zj rfl ?_ | refine Ze ?_ | refine Z3 ?_ | refine Zk ?_ | refine Zg ?_ | refine Zi ?_ | refine Zy rfl ?_ | refine Zx rfl ?_ | refine Zz rfl rfl ?_ | refine Zt rfl rfl rfl rfl ?_ | refine Zr rfl rfl rfl ?_ | (first | refine Zb rfl rfl (.inl rfl) rfl rfl ?_ | refine Zb rfl rfl (.inr rfl) rfl rfl ?_ | refine Za rfl rfl (.inl rfl) rfl ?_ | refine Za rfl rfl (.inr rfl) rfl ?_) | ((first | refine Zn rfl rfl rfl fun K hK => ?_ | refine Zh rfl rfl rfl fun K hK => ?_); go_simp; (try go_bits); (first | refine hK _ _ ?_ | refine hK _ ?_); clear hK K))
  refine Z9 rfl rfl rfl Try.func76 rfl (by kernel_rfl) rfl ?_
  refine Calls.mono (rdInt hR) ?_
  rintro e w4 ⟨rfl, hR2⟩
  have hi := tkN_i64 (taken l1 e1 8)
  obtain ⟨s, hs⟩ : ∃ s, tkN (taken l1 e1 8) = s := ⟨_, rfl⟩
  obtain ⟨l2, e2, hle⟩ : ∃ l2 e2, (taken l1 e1 8).2 = (l2, e2) := ⟨_, _, rfl⟩
  rw [hle] at hR2 hr0
  rw [hs] at hi hr0 ⊢
  dsimp only at hR2 hr0
  unfold I64 at hi
  have his := Lib.hid hi
  have hR := hR2
  clear hle hs hi hR2
  refine ⟨_, rfl, ?_⟩
  unfold rawH at hr0
  have HR0 := Lib.hid hr0
  clear hr0
  refine Yr 31 _ (entC ⟨q, s, z32⟩).toArray rfl rfl rfl (by rfl) (by rfl) (entBuilt2 q s) ?_
  refine kl_varR (z := (entC entZ).toArray) (cells := (entC ⟨q, s, z32⟩).toArray) hR entZero (entInfo ⟨q, s, z32⟩ ZL) rfl (Yu _) rfl rfl rfl rfl rfl rfl rfl rfl rfl ?_
  intro g5 w5 hg5 hb5 hR5
  have hR := hR5
  clear hb5 hR5
  have HG5 := Lib.hid hg5
  clear hg5
  repeat (first | refine Zv ?_ | refine Zs ?_ | refine Zc ?_ | refine Zq ?_ | refine Zm ?_ | (first | refine Zb rfl rfl (.inl rfl) rfl rfl ?_ | refine Zb rfl rfl (.inr rfl) rfl rfl ?_ | refine Za rfl rfl (.inl rfl) rfl ?_ | refine Za rfl rfl (.inr rfl) rfl ?_))
  refine KW.less [2, 3, 4, 5, 15] ?_
  simp only [nrm, lk, Nat.reduceBEq, cond_true, cond_false]
  refine Yw (fun m L wr => ∃ k, k ≤ 32 ∧ m = 32 - k ∧ Hid (Rd true w wr [(g5, (entC ⟨q, s, (hashN k ([], l2, e2)).1 ++ List.replicate (32 - k) 0⟩).toArray, 31), (g2, (entC entZ).toArray, 31)] g (hashN k ([], l2, e2)).2.1 (hashN k ([], l2, e2)).2.2) ∧
    L = [(2, .pointer (some ⟨g2, 0, none⟩)), (3, .int .i64 0), (4, .pointer (some ⟨g, 0, none⟩)), (5, .pointer (some ⟨g5, 0, none⟩)), (15, .int .i64 (k : Int))]) ⟨0, by omega, rfl, (show Hid (Rd true w _ [(g5, (entC ⟨q, s, z32⟩).toArray, 31), (g2, (entC entZ).toArray, 31)] g l2 e2) from hR), rfl⟩ ?_
  clear hR
  rintro m L wr ⟨k, hk, rfl, hR, rfl⟩
  have hlen := Vl k l2 e2
  obtain ⟨hs, rl, re, hh⟩ : ∃ hs rl re, hashN k ([], l2, e2) = (hs, rl, re) := ⟨_, _, _, rfl⟩
  have HH := Lib.hid hh
  rw [hh] at hR hlen
  clear hh
  have hR := hR.out
  simp only at hR hlen
  by_cases hlt : k < 32
  · have k0 : (0 : Int) ≤ k := by omega
    have k1 : (k : Int) < 32 := by omega
    have HL := Lib.hid hlen
    have HLT := Lib.hid hlt
    clear hlen
    repeat (first | refine Zv ?_ | refine Zs ?_ | refine Zu ?_ | refine Zc ?_ | refine Zq ?_ | refine Zm ?_ | refine Zp ?_ | refine Zw ?_ | refine Zf ?_ | refine Zd rfl ?_ | refine Zj rfl ?_ | refine Ze ?_ | refine Z3 ?_ | refine Zk ?_ | refine Zg ?_ | refine Zi ?_ | refine Zy rfl ?_ | refine Zx rfl ?_ | refine Zz rfl rfl ?_ | refine Zt rfl rfl rfl rfl ?_ | refine Zr rfl rfl rfl ?_ | (first | refine Zb rfl rfl (.inl rfl) rfl rfl ?_ | refine Zb rfl rfl (.inr rfl) rfl rfl ?_ | refine Za rfl rfl (.inl rfl) rfl ?_ | refine Za rfl rfl (.inr rfl) rfl ?_) | ((first | refine Zn rfl rfl rfl fun K hK => ?_ | refine Zh rfl rfl rfl fun K hK => ?_); go_simp; (try go_bits); (first | refine hK _ _ ?_ | refine hK _ ?_); clear hK K))
    refine Z9 rfl rfl rfl Try.func77 rfl (by kernel_rfl) rfl ?_
    refine Calls.mono (rdByte hR) ?_
    rintro e w8 ⟨rfl, hR4⟩
    refine ⟨_, rfl, ?_⟩
    obtain ⟨x, hx⟩ : ∃ x, (taken rl re 1).1.headD 0 = x := ⟨_, rfl⟩
    have HX := Lib.hid hx
    rw [hx]
    clear hx hR
    have hbx := ZS x
    have c2 : w8.cell? ⟨g5, 2 + k, none⟩ = some (bval 0) := hR4.get (j := 2 + k) 0 rfl (by rw [ent_sum]; exact hash_cell hs k HL.out hlt)
    have f2 := hR4.free 0 rfl (2 + k)
    have hR5 := hR4.cell 0 rfl HG5.out (2 + k) (bval x)
    rw [ent_set, hash_row hs k x HL.out hlt] at hR5
    have hR5 := Lib.hid hR5
    clear hR4 hlt
    repeat (first | refine Zv ?_ | refine Zs ?_ | refine Zu ?_ | refine Zc ?_ | refine Zq ?_ | refine Zm ?_ | refine Zp ?_ | refine Zw ?_ | refine Zf ?_ | refine Zd rfl ?_ | refine Zj rfl ?_ | refine Ze ?_ | refine Z3 ?_ | refine Zk ?_ | refine Zg ?_ | refine Zi ?_ | refine Zy rfl ?_ | refine Zx rfl ?_ | refine Zz rfl rfl ?_ | refine Zt rfl rfl rfl rfl ?_ | refine Zr rfl rfl rfl ?_ | (first | refine Zb rfl rfl (.inl rfl) rfl rfl ?_ | refine Zb rfl rfl (.inr rfl) rfl rfl ?_ | refine Za rfl rfl (.inl rfl) rfl ?_ | refine Za rfl rfl (.inr rfl) rfl ?_) | ((first | refine Zn rfl rfl rfl fun K hK => ?_ | refine Zh rfl rfl rfl fun K hK => ?_); go_simp; (try go_bits); (first | refine hK _ _ ?_ | refine hK _ ?_); clear hK K))
    have hlt := HLT.out
    refine Yk (32 - (k + 1)) [2, 3, 4, 5, 15] (by omega) ?_
    simp only [nrm, lk, Nat.reduceBEq, cond_true, cond_false]
    refine ⟨k + 1, by omega, rfl, ?_, by simp only [Int.natCast_add]; rfl⟩
    have := hR5.out
    rw [hashN, HH.out]
    unfold hashStep
    simp only
    rw [HX.out]
    exact this
  obtain rfl : k = 32 := by omega
  have k1 : decide (((32 : Nat) : Int) < 32) = false := by decide
  clear hlt
  rw [Nat.sub_self, List.replicate_zero, List.append_nil] at hR
  have hr0 := HR0.out
  rw [HH.out] at hr0
  dsimp only at hr0
  have HS := Lib.hid hlen
  clear HR0 hlen
  repeat (first | refine Zv ?_ | refine Zc ?_ | (first | refine Zb rfl rfl (.inl rfl) rfl rfl ?_ | refine Zb rfl rfl (.inr rfl) rfl rfl ?_ | refine Za rfl rfl (.inl rfl) rfl ?_ | refine Za rfl rfl (.inr rfl) rfl ?_) | ((first | refine Zn rfl rfl rfl fun K hK => ?_ | refine Zh rfl rfl rfl fun K hK => ?_); go_simp; (try go_bits); (first | refine hK _ _ ?_ | refine hK _ ?_); clear hK K))
  refine Zq ?_
  refine Zm ?_
  (try refine Zv ?_)
  refine Zx rfl ?_
  refine Zw ?_
  refine Zf ?_
  refine Ze ?_
  refine Zd rfl ?_
  skip
  refine Zm ?_
  refine KW.less [2, 3, 4, 5] ?_
  simp only [nrm, lk, Nat.reduceBEq, cond_true, cond_false]
  repeat (first | refine Zv ?_ | refine Zs ?_ | refine Zu ?_ | refine Zc ?_ | refine Zq ?_ | refine Zm ?_ | refine Zp ?_ | refine Zw ?_ | refine Zf ?_ | refine Zd rfl ?_ | refine Zj rfl ?_ | refine Ze ?_ | refine Z3 ?_ | refine Zk ?_ | refine Zg ?_ | refine Zi ?_ | refine Zy rfl ?_ | refine Zx rfl ?_ | refine Zz rfl rfl ?_ | refine Zt rfl rfl rfl rfl ?_ | refine Zr rfl rfl rfl ?_ | (first | refine Zb rfl rfl (.inl rfl) rfl rfl ?_ | refine Zb rfl rfl (.inr rfl) rfl rfl ?_ | refine Za rfl rfl (.inl rfl) rfl ?_ | refine Za rfl rfl (.inr rfl) rfl ?_) | ((first | refine Zn rfl rfl rfl fun K hK => ?_ | refine Zh rfl rfl rfl fun K hK => ?_); go_simp; (try go_bits); (first | refine hK _ _ ?_ | refine hK _ ?_); clear hK K))
  refine Z9 rfl rfl rfl Try.func78 rfl (by kernel_rfl) rfl ?_
  refine Calls.mono (rdEnd hR) ?_
  rintro e w9 ⟨rfl, hR9, hb9⟩
  refine ⟨_, rfl, ?_⟩
  have hL := hR9.lay hB.out
  obtain ⟨E, hE⟩ : ∃ E, ended rl re = E := ⟨_, rfl⟩
  rw [hE] at hr0 ⊢
  clear hE hR hR9 hb9 HH hk k1
  have HR0 := Lib.hid hr0
  clear hr0
  have c0 := hL.get (j := 0) 0 rfl (ent_0 _)
  have c1 := hL.get (j := 1) 0 rfl (ent_1 _)
  by_cases e0 : E = 0
  case neg =>
    have t1 : (E == 0) = false := by rw [beq_eq_false_iff_ne]; exact e0
    have t2 : (E != 0) = true := by rw [bne_iff_ne]; exact e0
    have HF := Lib.hid (HR0.out.symm.trans (finE_err _ E e0))
    clear HR0
    repeat (first | refine Zv ?_ | refine Zs ?_ | refine Zu ?_ | refine Zc ?_ | refine Zq ?_ | refine Zm ?_ | refine Zp ?_ | refine Zw ?_ | refine Zf ?_ | refine Zd rfl ?_ | refine Zj rfl ?_ | refine Ze ?_ | refine Z3 ?_ | refine Zk ?_ | refine Zg ?_ | refine Zi ?_ | refine Zy rfl ?_ | refine Zx rfl ?_ | refine Zz rfl rfl ?_ | refine Zt rfl rfl rfl rfl ?_ | refine Zr rfl rfl rfl ?_ | refine Yr 31 _ (entC entZ).toArray rfl rfl rfl (by rfl) (by rfl) entBuilt0 ?_ | refine YL (cells := (entC entZ).toArray) hL 1 rfl (entInfo entZ ZL) rfl (Yu entZ) rfl rfl rfl rfl rfl (fun hL2 => ?_) | (first | refine Zb rfl rfl (.inl rfl) rfl rfl ?_ | refine Zb rfl rfl (.inr rfl) rfl rfl ?_ | refine Za rfl rfl (.inl rfl) rfl ?_ | refine Za rfl rfl (.inr rfl) rfl ?_) | ((first | refine Zn rfl rfl rfl fun K hK => ?_ | refine Zh rfl rfl rfl fun K hK => ?_); go_simp; (try go_bits); (first | refine hK _ _ ?_ | refine hK _ ?_); clear hK K))
    refine YO (v := .tuple #[.agg (entC entZ).toArray, .int .i64 E]) (fun a k => ZW rfl _ _ g2 31 (entC entZ).toArray (0, 0) _ _ (k.slot 2 rfl) (k.slot 3 rfl) (hL2.at_ 1 rfl) Try.underlying31 rfl (entInfo entZ ZL)) ?_
    refine ⟨?_, hL2.below⟩
    show _ = Ending.returned (.tuple #[.agg (entC (parseE b).1).toArray, .int .i64 (parseE b).2])
    rw [HP0.out, HF.out]
  subst e0
  have t1 : ((0 : Int) == 0) = true := rfl
  by_cases d0 : q < 1
  case pos =>
    have t3 : decide (q < 1) = true := decide_eq_true d0
    have HF := Lib.hid (HR0.out.symm.trans (XD _ (badE_1 q s hs d0)))
    clear HR0
    repeat (first | refine Zv ?_ | refine Zs ?_ | refine Zu ?_ | refine Zc ?_ | refine Zq ?_ | refine Zm ?_ | refine Zp ?_ | refine Zw ?_ | refine Zf ?_ | refine Zd rfl ?_ | refine Zj rfl ?_ | refine Ze ?_ | refine Z3 ?_ | refine Zk ?_ | refine Zg ?_ | refine Zi ?_ | refine Zy rfl ?_ | refine Zx rfl ?_ | refine Zz rfl rfl ?_ | refine Zt rfl rfl rfl rfl ?_ | refine Zr rfl rfl rfl ?_ | refine Yr 31 _ (entC entZ).toArray rfl rfl rfl (by rfl) (by rfl) entBuilt0 ?_ | refine YL (cells := (entC entZ).toArray) hL 1 rfl (entInfo entZ ZL) rfl (Yu entZ) rfl rfl rfl rfl rfl (fun hL2 => ?_) | (first | refine Zb rfl rfl (.inl rfl) rfl rfl ?_ | refine Zb rfl rfl (.inr rfl) rfl rfl ?_ | refine Za rfl rfl (.inl rfl) rfl ?_ | refine Za rfl rfl (.inr rfl) rfl ?_) | ((first | refine Zn rfl rfl rfl fun K hK => ?_ | refine Zh rfl rfl rfl fun K hK => ?_); go_simp; (try go_bits); (first | refine hK _ _ ?_ | refine hK _ ?_); clear hK K))
    refine YO (v := .tuple #[.agg (entC entZ).toArray, .int .i64 10]) (fun a k => ZW rfl _ _ g2 31 (entC entZ).toArray (0, 0) _ _ (k.slot 2 rfl) (k.slot 3 rfl) (hL2.at_ 1 rfl) Try.underlying31 rfl (entInfo entZ ZL)) ?_
    refine ⟨?_, hL2.below⟩
    show _ = Ending.returned (.tuple #[.agg (entC (parseE b).1).toArray, .int .i64 (parseE b).2])
    rw [HP0.out, HF.out]
  have t3 : decide (q < 1) = false := decide_eq_false d0
  by_cases d1 : 1073741824 < q
  case pos =>
    have t4 : decide (1073741824 < q) = true := decide_eq_true d1
    have HF := Lib.hid (HR0.out.symm.trans (XD _ (badE_2 q s hs d1)))
    clear HR0
    repeat (first | refine Zv ?_ | refine Zs ?_ | refine Zu ?_ | refine Zc ?_ | refine Zq ?_ | refine Zm ?_ | refine Zp ?_ | refine Zw ?_ | refine Zf ?_ | refine Zd rfl ?_ | refine Zj rfl ?_ | refine Ze ?_ | refine Z3 ?_ | refine Zk ?_ | refine Zg ?_ | refine Zi ?_ | refine Zy rfl ?_ | refine Zx rfl ?_ | refine Zz rfl rfl ?_ | refine Zt rfl rfl rfl rfl ?_ | refine Zr rfl rfl rfl ?_ | refine Yr 31 _ (entC entZ).toArray rfl rfl rfl (by rfl) (by rfl) entBuilt0 ?_ | refine YL (cells := (entC entZ).toArray) hL 1 rfl (entInfo entZ ZL) rfl (Yu entZ) rfl rfl rfl rfl rfl (fun hL2 => ?_) | (first | refine Zb rfl rfl (.inl rfl) rfl rfl ?_ | refine Zb rfl rfl (.inr rfl) rfl rfl ?_ | refine Za rfl rfl (.inl rfl) rfl ?_ | refine Za rfl rfl (.inr rfl) rfl ?_) | ((first | refine Zn rfl rfl rfl fun K hK => ?_ | refine Zh rfl rfl rfl fun K hK => ?_); go_simp; (try go_bits); (first | refine hK _ _ ?_ | refine hK _ ?_); clear hK K))
    refine YO (v := .tuple #[.agg (entC entZ).toArray, .int .i64 10]) (fun a k => ZW rfl _ _ g2 31 (entC entZ).toArray (0, 0) _ _ (k.slot 2 rfl) (k.slot 3 rfl) (hL2.at_ 1 rfl) Try.underlying31 rfl (entInfo entZ ZL)) ?_
    refine ⟨?_, hL2.below⟩
    show _ = Ending.returned (.tuple #[.agg (entC (parseE b).1).toArray, .int .i64 (parseE b).2])
    rw [HP0.out, HF.out]
  have t4 : decide (1073741824 < q) = false := decide_eq_false d1
  by_cases d2 : s < 0
  case pos =>
    have t5 : decide (s < 0) = true := decide_eq_true d2
    have HF := Lib.hid (HR0.out.symm.trans (XD _ (badE_3 q s hs d2)))
    clear HR0
    repeat (first | refine Zv ?_ | refine Zs ?_ | refine Zu ?_ | refine Zc ?_ | refine Zq ?_ | refine Zm ?_ | refine Zp ?_ | refine Zw ?_ | refine Zf ?_ | refine Zd rfl ?_ | refine Zj rfl ?_ | refine Ze ?_ | refine Z3 ?_ | refine Zk ?_ | refine Zg ?_ | refine Zi ?_ | refine Zy rfl ?_ | refine Zx rfl ?_ | refine Zz rfl rfl ?_ | refine Zt rfl rfl rfl rfl ?_ | refine Zr rfl rfl rfl ?_ | refine Yr 31 _ (entC entZ).toArray rfl rfl rfl (by rfl) (by rfl) entBuilt0 ?_ | refine YL (cells := (entC entZ).toArray) hL 1 rfl (entInfo entZ ZL) rfl (Yu entZ) rfl rfl rfl rfl rfl (fun hL2 => ?_) | (first | refine Zb rfl rfl (.inl rfl) rfl rfl ?_ | refine Zb rfl rfl (.inr rfl) rfl rfl ?_ | refine Za rfl rfl (.inl rfl) rfl ?_ | refine Za rfl rfl (.inr rfl) rfl ?_) | ((first | refine Zn rfl rfl rfl fun K hK => ?_ | refine Zh rfl rfl rfl fun K hK => ?_); go_simp; (try go_bits); (first | refine hK _ _ ?_ | refine hK _ ?_); clear hK K))
    refine YO (v := .tuple #[.agg (entC entZ).toArray, .int .i64 10]) (fun a k => ZW rfl _ _ g2 31 (entC entZ).toArray (0, 0) _ _ (k.slot 2 rfl) (k.slot 3 rfl) (hL2.at_ 1 rfl) Try.underlying31 rfl (entInfo entZ ZL)) ?_
    refine ⟨?_, hL2.below⟩
    show _ = Ending.returned (.tuple #[.agg (entC (parseE b).1).toArray, .int .i64 (parseE b).2])
    rw [HP0.out, HF.out]
  have t5 : decide (s < 0) = false := decide_eq_false d2
  by_cases d3 : 2 < s
  case pos =>
    have t6 : decide (2 < s) = true := decide_eq_true d3
    have HF := Lib.hid (HR0.out.symm.trans (XD _ (badE_4 q s hs d3)))
    clear HR0
    repeat (first | refine Zv ?_ | refine Zs ?_ | refine Zu ?_ | refine Zc ?_ | refine Zq ?_ | refine Zm ?_ | refine Zp ?_ | refine Zw ?_ | refine Zf ?_ | refine Zd rfl ?_ | refine Zj rfl ?_ | refine Ze ?_ | refine Z3 ?_ | refine Zk ?_ | refine Zg ?_ | refine Zi ?_ | refine Zy rfl ?_ | refine Zx rfl ?_ | refine Zz rfl rfl ?_ | refine Zt rfl rfl rfl rfl ?_ | refine Zr rfl rfl rfl ?_ | refine Yr 31 _ (entC entZ).toArray rfl rfl rfl (by rfl) (by rfl) entBuilt0 ?_ | refine YL (cells := (entC entZ).toArray) hL 1 rfl (entInfo entZ ZL) rfl (Yu entZ) rfl rfl rfl rfl rfl (fun hL2 => ?_) | (first | refine Zb rfl rfl (.inl rfl) rfl rfl ?_ | refine Zb rfl rfl (.inr rfl) rfl rfl ?_ | refine Za rfl rfl (.inl rfl) rfl ?_ | refine Za rfl rfl (.inr rfl) rfl ?_) | ((first | refine Zn rfl rfl rfl fun K hK => ?_ | refine Zh rfl rfl rfl fun K hK => ?_); go_simp; (try go_bits); (first | refine hK _ _ ?_ | refine hK _ ?_); clear hK K))
    refine YO (v := .tuple #[.agg (entC entZ).toArray, .int .i64 10]) (fun a k => ZW rfl _ _ g2 31 (entC entZ).toArray (0, 0) _ _ (k.slot 2 rfl) (k.slot 3 rfl) (hL2.at_ 1 rfl) Try.underlying31 rfl (entInfo entZ ZL)) ?_
    refine ⟨?_, hL2.below⟩
    show _ = Ending.returned (.tuple #[.agg (entC (parseE b).1).toArray, .int .i64 (parseE b).2])
    rw [HP0.out, HF.out]
  have t6 : decide (2 < s) = false := decide_eq_false d3
  have HF := Lib.hid (HR0.out.symm.trans (finE_ok _ (badE_0 q s hs d0 d1 d2 d3)))
  clear HR0 d0 d1 d2 d3
  repeat (first | refine Zv ?_ | refine Zs ?_ | refine Zu ?_ | refine Zc ?_ | refine Zq ?_ | refine Zm ?_ | refine Zp ?_ | refine Zw ?_ | refine Zf ?_ | refine Zd rfl ?_ | refine Zj rfl ?_ | refine Ze ?_ | refine Z3 ?_ | refine Zk ?_ | refine Zg ?_ | refine Zi ?_ | refine Zy rfl ?_ | refine Zx rfl ?_ | refine Zz rfl rfl ?_ | refine Zt rfl rfl rfl rfl ?_ | refine Zr rfl rfl rfl ?_ | refine Wf hL 0 rfl Try.underlying31 rfl (entInfo ⟨q, s, hs⟩ HS.out) rfl rfl rfl rfl rfl ?_ | refine YL (cells := (entC ⟨q, s, hs⟩).toArray) hL 1 rfl (entInfo ⟨q, s, hs⟩ HS.out) (by rw [List.size_toArray, List.size_toArray, ZR entZ ZL, ZR ⟨q, s, hs⟩ HS.out]) (Yu _) rfl rfl rfl rfl rfl (fun hL2 => ?_) | (first | refine Zb rfl rfl (.inl rfl) rfl rfl ?_ | refine Zb rfl rfl (.inr rfl) rfl rfl ?_ | refine Za rfl rfl (.inl rfl) rfl ?_ | refine Za rfl rfl (.inr rfl) rfl ?_) | ((first | refine Zn rfl rfl rfl fun K hK => ?_ | refine Zh rfl rfl rfl fun K hK => ?_); go_simp; (try go_bits); (first | refine hK _ _ ?_ | refine hK _ ?_); clear hK K))
  refine YO (v := .tuple #[.agg (entC ⟨q, s, hs⟩).toArray, .int .i64 0]) (fun a k => ZW rfl _ _ g2 31 (entC ⟨q, s, hs⟩).toArray (0, 0) _ _ (k.slot 2 rfl) (k.slot 3 rfl) (hL2.at_ 1 rfl) Try.underlying31 rfl (entInfo ⟨q, s, hs⟩ HS.out)) ?_
  refine ⟨?_, hL2.below⟩
  show _ = Ending.returned (.tuple #[.agg (entC (parseE b).1).toArray, .int .i64 (parseE b).2])
  rw [HP0.out, HF.out]
set_option maxRecDepth 100000 in
set_option maxHeartbeats 4000000 in
theorem rparseE_any (A : Option Addr) (n c : Nat) (b : List UInt8) (w : World) (hA : Bs w A n b) (hn : n ≤ 1099511627776) (hnc : n ≤ c) (hc : c ≤ 9223372036854775807) : Calls Try.prog 70 #[.slice A n c] w (ParseEP b w) := by
  refine ZZ Try.func70 rfl Try.ntmps70 rfl [(0, .slice A n c)] rfl ?_
  refine Zv ?_
  refine Zc ?_
  refine W6 (Lay.start w) rentZero rfl rfl rfl rfl ?_
  intro g2 w1 hg2 hb1 hL1
  have hA1 := hA.below hb1
  have hg2w : Hid (w.heap.size ≤ w1.heap.size) := hb1.size
  clear hg2 hb1
  repeat (first | refine Zv ?_ | refine Zs ?_ | refine Zu ?_ | refine Zc ?_ | refine Zq ?_ | refine Zm ?_ | refine Zp ?_ | refine Zw ?_ | refine Zf ?_ | refine Zd rfl ?_ | refine Zj rfl ?_ | refine Ze ?_ | refine Z3 ?_ | refine Zk ?_ | refine Zg ?_ | refine Zi ?_ | refine Zy rfl ?_ | refine Zx rfl ?_ | refine Zz rfl rfl ?_ | refine Zt rfl rfl rfl rfl ?_ | refine Zr rfl rfl rfl ?_ | (first | refine Zb rfl rfl (.inl rfl) rfl rfl ?_ | refine Zb rfl rfl (.inr rfl) rfl rfl ?_ | refine Za rfl rfl (.inl rfl) rfl ?_ | refine Za rfl rfl (.inr rfl) rfl ?_) | ((first | refine Zn rfl rfl rfl fun K hK => ?_ | refine Zh rfl rfl rfl fun K hK => ?_); go_simp; (try go_bits); (first | refine hK _ _ ?_ | refine hK _ ?_); clear hK K))
  refine Z9 rfl rfl rfl Try.func91 rfl (by kernel_rfl) rfl ?_
  refine Calls.mono (rrNew A n c b hL1 hA1 hn hnc hc) ?_
  rintro e w2 ⟨g, rfl, hg, hR⟩
  refine ⟨_, rfl, ?_⟩
  have hB : Hid (w.heap.size ≤ g) := by show _ ≤ _; have := hg2w.out; omega
  clear hL1 hA1 hg
  obtain ⟨r0, hr0⟩ : ∃ r0, parseE b = r0 := ⟨_, rfl⟩
  have HP0 := Lib.hid hr0
  unfold parseE at hr0
  repeat (first | refine Zv ?_ | refine Zs ?_ | refine Zu ?_ | refine Zc ?_ | refine Zq ?_ | refine Zm ?_ | refine Zp ?_ | refine Zw ?_ | refine Zf ?_ | refine Zd rfl ?_ | refine Zj rfl ?_ | refine Ze ?_ | refine Z3 ?_ | refine Zk ?_ | refine Zg ?_ | refine Zi ?_ | refine Zy rfl ?_ | refine Zx rfl ?_ | refine Zz rfl rfl ?_ | refine Zt rfl rfl rfl rfl ?_ | refine Zr rfl rfl rfl ?_ | (first | refine Zb rfl rfl (.inl rfl) rfl rfl ?_ | refine Zb rfl rfl (.inr rfl) rfl rfl ?_ | refine Za rfl rfl (.inl rfl) rfl ?_ | refine Za rfl rfl (.inr rfl) rfl ?_) | ((first | refine Zn rfl rfl rfl fun K hK => ?_ | refine Zh rfl rfl rfl fun K hK => ?_); go_simp; (try go_bits); (first | refine hK _ _ ?_ | refine hK _ ?_); clear hK K))
  refine Z9 rfl rfl rfl Try.func92 rfl (by kernel_rfl) rfl ?_
  refine Calls.mono (rrInt hR) ?_
  rintro e w3 ⟨rfl, hR2⟩
  have hi := tkN_i64 (taken b 0 8)
  obtain ⟨q, hq⟩ : ∃ q, tkN (taken b 0 8) = q := ⟨_, rfl⟩
  obtain ⟨l1, e1, hle⟩ : ∃ l1 e1, (taken b 0 8).2 = (l1, e1) := ⟨_, _, rfl⟩
  rw [hle] at hR2 hr0
  rw [hq] at hi hr0 ⊢
  dsimp only at hR2 hr0
  unfold I64 at hi
  have hiq := Lib.hid hi
  have hR := hR2
  clear hle hq hi hR2
  refine ⟨_, rfl, ?_⟩
  unfold rawS at hr0
  have hr0 := hr0
  refine Yr 59 _ (entC ⟨q, 0, z32⟩).toArray rfl rfl rfl (by rfl) (by rfl) (rentBuilt1 q) ?_
  refine kl_varR (z := (entC entZ).toArray) (cells := (entC ⟨q, 0, z32⟩).toArray) hR rentZero (rentInfo ⟨q, 0, z32⟩ ZL) rfl (Yu _) rfl rfl rfl rfl rfl rfl rfl rfl rfl ?_
  intro g5 w5 hg5 hb5 hR5
  have hR := hR5
  clear hb5 hR5
  repeat (first | refine Zv ?_ | refine Zs ?_ | refine Zu ?_ | refine Zc ?_ | refine Zq ?_ | refine Zm ?_ | refine Zp ?_ | refine Zw ?_ | refine Zf ?_ | refine Zd rfl ?_ | refine Zj rfl ?_ | refine Ze ?_ | refine Z3 ?_ | refine Zk ?_ | refine Zg ?_ | refine Zi ?_ | refine Zy rfl ?_ | refine Zx rfl ?_ | refine Zz rfl rfl ?_ | refine Zt rfl rfl rfl rfl ?_ | refine Zr rfl rfl rfl ?_ | (first | refine Zb rfl rfl (.inl rfl) rfl rfl ?_ | refine Zb rfl rfl (.inr rfl) rfl rfl ?_ | refine Za rfl rfl (.inl rfl) rfl ?_ | refine Za rfl rfl (.inr rfl) rfl ?_) | ((first | refine Zn rfl rfl rfl fun K hK => ?_ | refine Zh rfl rfl rfl fun K hK => ?_); go_simp; (try go_bits); (first | refine hK _ _ ?_ | refine hK _ ?_); clear hK K))
  refine Z9 rfl rfl rfl Try.func92 rfl (by kernel_rfl) rfl ?_
  refine Calls.mono (rrInt hR) ?_
  rintro e w4 ⟨rfl, hR2⟩
  have hi := tkN_i64 (taken l1 e1 8)
  obtain ⟨s, hs⟩ : ∃ s, tkN (taken l1 e1 8) = s := ⟨_, rfl⟩
  obtain ⟨l2, e2, hle⟩ : ∃ l2 e2, (taken l1 e1 8).2 = (l2, e2) := ⟨_, _, rfl⟩
  rw [hle] at hR2 hr0
  rw [hs] at hi hr0 ⊢
  dsimp only at hR2 hr0
  unfold I64 at hi
  have his := Lib.hid hi
  have hR := hR2
  clear hle hs hi hR2
  refine ⟨_, rfl, ?_⟩
  unfold rawH at hr0
  have HR0 := Lib.hid hr0
  clear hr0
  have c1 := hR.get (j := 1) 0 rfl (ent_1 _)
  have f1 := hR.free 0 rfl 1
  have hR6 := hR.cell 0 rfl hg5 1 (.int .i64 s)
  rw [ent_set1] at hR6
  have HR6 := Lib.hid hR6
  clear hR hR6
  repeat (first | refine Zq ?_ | (first | refine Zb rfl rfl (.inl rfl) rfl rfl ?_ | refine Zb rfl rfl (.inr rfl) rfl rfl ?_ | refine Za rfl rfl (.inl rfl) rfl ?_ | refine Za rfl rfl (.inr rfl) rfl ?_) | ((first | refine Zn rfl rfl rfl fun K hK => ?_ | refine Zh rfl rfl rfl fun K hK => ?_); go_simp; (try go_bits); (first | refine hK _ _ ?_ | refine hK _ ?_); clear hK K))
  have hR := HR6.out
  clear HR6 c1 f1
  generalize World.setCell _ _ _ = w6 at hR ⊢
  refine Zm ?_
  have HG5 := Lib.hid hg5
  clear hg5
  repeat (first | refine Zv ?_ | refine Zs ?_ | refine Zc ?_ | refine Zq ?_ | refine Zm ?_ | (first | refine Zb rfl rfl (.inl rfl) rfl rfl ?_ | refine Zb rfl rfl (.inr rfl) rfl rfl ?_ | refine Za rfl rfl (.inl rfl) rfl ?_ | refine Za rfl rfl (.inr rfl) rfl ?_))
  refine KW.less [2, 3, 4, 5, 6] ?_
  simp only [nrm, lk, Nat.reduceBEq, cond_true, cond_false]
  refine Yw (fun m L wr => ∃ k, k ≤ 32 ∧ m = 32 - k ∧ Hid (Rd false w wr [(g5, (entC ⟨q, s, (hashN k ([], l2, e2)).1 ++ List.replicate (32 - k) 0⟩).toArray, 59), (g2, (entC entZ).toArray, 59)] g (hashN k ([], l2, e2)).2.1 (hashN k ([], l2, e2)).2.2) ∧
    L = [(2, .pointer (some ⟨g2, 0, none⟩)), (3, .int .i64 0), (4, .pointer (some ⟨g, 0, none⟩)), (5, .pointer (some ⟨g5, 0, none⟩)), (6, .int .i64 (k : Int))]) ⟨0, by omega, rfl, (show Hid (Rd false w _ [(g5, (entC ⟨q, s, z32⟩).toArray, 59), (g2, (entC entZ).toArray, 59)] g l2 e2) from hR), rfl⟩ ?_
  clear hR
  rintro m L wr ⟨k, hk, rfl, hR, rfl⟩
  have hlen := Vl k l2 e2
  obtain ⟨hs, rl, re, hh⟩ : ∃ hs rl re, hashN k ([], l2, e2) = (hs, rl, re) := ⟨_, _, _, rfl⟩
  have HH := Lib.hid hh
  rw [hh] at hR hlen
  clear hh
  have hR := hR.out
  simp only at hR hlen
  by_cases hlt : k < 32
  · have k0 : (0 : Int) ≤ k := by omega
    have k1 : (k : Int) < 32 := by omega
    have HL := Lib.hid hlen
    have HLT := Lib.hid hlt
    clear hlen
    repeat (first | refine Zv ?_ | refine Zs ?_ | refine Zu ?_ | refine Zc ?_ | refine Zq ?_ | refine Zm ?_ | refine Zp ?_ | refine Zw ?_ | refine Zf ?_ | refine Zd rfl ?_ | refine Zj rfl ?_ | refine Ze ?_ | refine Z3 ?_ | refine Zk ?_ | refine Zg ?_ | refine Zi ?_ | refine Zy rfl ?_ | refine Zx rfl ?_ | refine Zz rfl rfl ?_ | refine Zt rfl rfl rfl rfl ?_ | refine Zr rfl rfl rfl ?_ | (first | refine Zb rfl rfl (.inl rfl) rfl rfl ?_ | refine Zb rfl rfl (.inr rfl) rfl rfl ?_ | refine Za rfl rfl (.inl rfl) rfl ?_ | refine Za rfl rfl (.inr rfl) rfl ?_) | ((first | refine Zn rfl rfl rfl fun K hK => ?_ | refine Zh rfl rfl rfl fun K hK => ?_); go_simp; (try go_bits); (first | refine hK _ _ ?_ | refine hK _ ?_); clear hK K))
    refine Z9 rfl rfl rfl Try.func93 rfl (by kernel_rfl) rfl ?_
    refine Calls.mono (rrByte hR) ?_
    rintro e w8 ⟨rfl, hR4⟩
    refine ⟨_, rfl, ?_⟩
    obtain ⟨x, hx⟩ : ∃ x, (taken rl re 1).1.headD 0 = x := ⟨_, rfl⟩
    have HX := Lib.hid hx
    rw [hx]
    clear hx hR
    have hbx := ZS x
    have c2 : w8.cell? ⟨g5, 2 + k, none⟩ = some (bval 0) := hR4.get (j := 2 + k) 0 rfl (by rw [ent_sum]; exact hash_cell hs k HL.out hlt)
    have f2 := hR4.free 0 rfl (2 + k)
    have hR5 := hR4.cell 0 rfl HG5.out (2 + k) (bval x)
    rw [ent_set, hash_row hs k x HL.out hlt] at hR5
    have hR5 := Lib.hid hR5
    clear hR4 hlt
    repeat (first | refine Zv ?_ | refine Zs ?_ | refine Zu ?_ | refine Zc ?_ | refine Zq ?_ | refine Zm ?_ | refine Zp ?_ | refine Zw ?_ | refine Zf ?_ | refine Zd rfl ?_ | refine Zj rfl ?_ | refine Ze ?_ | refine Z3 ?_ | refine Zk ?_ | refine Zg ?_ | refine Zi ?_ | refine Zy rfl ?_ | refine Zx rfl ?_ | refine Zz rfl rfl ?_ | refine Zt rfl rfl rfl rfl ?_ | refine Zr rfl rfl rfl ?_ | (first | refine Zb rfl rfl (.inl rfl) rfl rfl ?_ | refine Zb rfl rfl (.inr rfl) rfl rfl ?_ | refine Za rfl rfl (.inl rfl) rfl ?_ | refine Za rfl rfl (.inr rfl) rfl ?_) | ((first | refine Zn rfl rfl rfl fun K hK => ?_ | refine Zh rfl rfl rfl fun K hK => ?_); go_simp; (try go_bits); (first | refine hK _ _ ?_ | refine hK _ ?_); clear hK K))
    have hlt := HLT.out
    refine Yk (32 - (k + 1)) [2, 3, 4, 5, 6] (by omega) ?_
    simp only [nrm, lk, Nat.reduceBEq, cond_true, cond_false]
    refine ⟨k + 1, by omega, rfl, ?_, by simp only [Int.natCast_add]; rfl⟩
    have := hR5.out
    rw [hashN, HH.out]
    unfold hashStep
    simp only
    rw [HX.out]
    exact this
  obtain rfl : k = 32 := by omega
  have k1 : decide (((32 : Nat) : Int) < 32) = false := by decide
  clear hlt
  rw [Nat.sub_self, List.replicate_zero, List.append_nil] at hR
  have hr0 := HR0.out
  rw [HH.out] at hr0
  dsimp only at hr0
  have HS := Lib.hid hlen
  clear HR0 hlen
  repeat (first | refine Zv ?_ | refine Zc ?_ | (first | refine Zb rfl rfl (.inl rfl) rfl rfl ?_ | refine Zb rfl rfl (.inr rfl) rfl rfl ?_ | refine Za rfl rfl (.inl rfl) rfl ?_ | refine Za rfl rfl (.inr rfl) rfl ?_) | ((first | refine Zn rfl rfl rfl fun K hK => ?_ | refine Zh rfl rfl rfl fun K hK => ?_); go_simp; (try go_bits); (first | refine hK _ _ ?_ | refine hK _ ?_); clear hK K))
  refine Zq ?_
  refine Zm ?_
  (try refine Zv ?_)
  refine Zx rfl ?_
  refine Zw ?_
  refine Zf ?_
  refine Ze ?_
  refine Zd rfl ?_
  skip
  refine Zm ?_
  refine KW.less [2, 3, 4, 5] ?_
  simp only [nrm, lk, Nat.reduceBEq, cond_true, cond_false]
  repeat (first | refine Zv ?_ | refine Zs ?_ | refine Zu ?_ | refine Zc ?_ | refine Zq ?_ | refine Zm ?_ | refine Zp ?_ | refine Zw ?_ | refine Zf ?_ | refine Zd rfl ?_ | refine Zj rfl ?_ | refine Ze ?_ | refine Z3 ?_ | refine Zk ?_ | refine Zg ?_ | refine Zi ?_ | refine Zy rfl ?_ | refine Zx rfl ?_ | refine Zz rfl rfl ?_ | refine Zt rfl rfl rfl rfl ?_ | refine Zr rfl rfl rfl ?_ | (first | refine Zb rfl rfl (.inl rfl) rfl rfl ?_ | refine Zb rfl rfl (.inr rfl) rfl rfl ?_ | refine Za rfl rfl (.inl rfl) rfl ?_ | refine Za rfl rfl (.inr rfl) rfl ?_) | ((first | refine Zn rfl rfl rfl fun K hK => ?_ | refine Zh rfl rfl rfl fun K hK => ?_); go_simp; (try go_bits); (first | refine hK _ _ ?_ | refine hK _ ?_); clear hK K))
  refine Z9 rfl rfl rfl Try.func94 rfl (by kernel_rfl) rfl ?_
  refine Calls.mono (rrEnd hR) ?_
  rintro e w9 ⟨rfl, hR9, hb9⟩
  refine ⟨_, rfl, ?_⟩
  have hL := hR9.lay hB.out
  obtain ⟨E, hE⟩ : ∃ E, ended rl re = E := ⟨_, rfl⟩
  rw [hE] at hr0 ⊢
  clear hE hR hR9 hb9 HH hk k1
  have HR0 := Lib.hid hr0
  clear hr0
  have c0 := hL.get (j := 0) 0 rfl (ent_0 _)
  have c1 := hL.get (j := 1) 0 rfl (ent_1 _)
  by_cases e0 : E = 0
  case neg =>
    have t1 : (E == 0) = false := by rw [beq_eq_false_iff_ne]; exact e0
    have t2 : (E != 0) = true := by rw [bne_iff_ne]; exact e0
    have HF := Lib.hid (HR0.out.symm.trans (finE_err _ E e0))
    clear HR0
    repeat (first | refine Zv ?_ | refine Zs ?_ | refine Zu ?_ | refine Zc ?_ | refine Zq ?_ | refine Zm ?_ | refine Zp ?_ | refine Zw ?_ | refine Zf ?_ | refine Zd rfl ?_ | refine Zj rfl ?_ | refine Ze ?_ | refine Z3 ?_ | refine Zk ?_ | refine Zg ?_ | refine Zi ?_ | refine Zy rfl ?_ | refine Zx rfl ?_ | refine Zz rfl rfl ?_ | refine Zt rfl rfl rfl rfl ?_ | refine Zr rfl rfl rfl ?_ | refine Yr 59 _ (entC entZ).toArray rfl rfl rfl (by rfl) (by rfl) rentBuilt0 ?_ | refine YL (cells := (entC entZ).toArray) hL 1 rfl (rentInfo entZ ZL) rfl (Yu entZ) rfl rfl rfl rfl rfl (fun hL2 => ?_) | (first | refine Zb rfl rfl (.inl rfl) rfl rfl ?_ | refine Zb rfl rfl (.inr rfl) rfl rfl ?_ | refine Za rfl rfl (.inl rfl) rfl ?_ | refine Za rfl rfl (.inr rfl) rfl ?_) | ((first | refine Zn rfl rfl rfl fun K hK => ?_ | refine Zh rfl rfl rfl fun K hK => ?_); go_simp; (try go_bits); (first | refine hK _ _ ?_ | refine hK _ ?_); clear hK K))
    refine YO (v := .tuple #[.agg (entC entZ).toArray, .int .i64 E]) (fun a k => ZW rfl _ _ g2 59 (entC entZ).toArray (0, 0) _ _ (k.slot 2 rfl) (k.slot 3 rfl) (hL2.at_ 1 rfl) Try.underlying59 rfl (rentInfo entZ ZL)) ?_
    refine ⟨?_, hL2.below⟩
    show _ = Ending.returned (.tuple #[.agg (entC (parseE b).1).toArray, .int .i64 (parseE b).2])
    rw [HP0.out, HF.out]
  subst e0
  have t1 : ((0 : Int) == 0) = true := rfl
  by_cases d0 : q < 1
  case pos =>
    have t3 : decide (q < 1) = true := decide_eq_true d0
    have HF := Lib.hid (HR0.out.symm.trans (XD _ (badE_1 q s hs d0)))
    clear HR0
    repeat (first | refine Zv ?_ | refine Zs ?_ | refine Zu ?_ | refine Zc ?_ | refine Zq ?_ | refine Zm ?_ | refine Zp ?_ | refine Zw ?_ | refine Zf ?_ | refine Zd rfl ?_ | refine Zj rfl ?_ | refine Ze ?_ | refine Z3 ?_ | refine Zk ?_ | refine Zg ?_ | refine Zi ?_ | refine Zy rfl ?_ | refine Zx rfl ?_ | refine Zz rfl rfl ?_ | refine Zt rfl rfl rfl rfl ?_ | refine Zr rfl rfl rfl ?_ | refine Yr 59 _ (entC entZ).toArray rfl rfl rfl (by rfl) (by rfl) rentBuilt0 ?_ | refine YL (cells := (entC entZ).toArray) hL 1 rfl (rentInfo entZ ZL) rfl (Yu entZ) rfl rfl rfl rfl rfl (fun hL2 => ?_) | (first | refine Zb rfl rfl (.inl rfl) rfl rfl ?_ | refine Zb rfl rfl (.inr rfl) rfl rfl ?_ | refine Za rfl rfl (.inl rfl) rfl ?_ | refine Za rfl rfl (.inr rfl) rfl ?_) | ((first | refine Zn rfl rfl rfl fun K hK => ?_ | refine Zh rfl rfl rfl fun K hK => ?_); go_simp; (try go_bits); (first | refine hK _ _ ?_ | refine hK _ ?_); clear hK K))
    refine YO (v := .tuple #[.agg (entC entZ).toArray, .int .i64 10]) (fun a k => ZW rfl _ _ g2 59 (entC entZ).toArray (0, 0) _ _ (k.slot 2 rfl) (k.slot 3 rfl) (hL2.at_ 1 rfl) Try.underlying59 rfl (rentInfo entZ ZL)) ?_
    refine ⟨?_, hL2.below⟩
    show _ = Ending.returned (.tuple #[.agg (entC (parseE b).1).toArray, .int .i64 (parseE b).2])
    rw [HP0.out, HF.out]
  have t3 : decide (q < 1) = false := decide_eq_false d0
  by_cases d1 : 1073741824 < q
  case pos =>
    have t4 : decide (1073741824 < q) = true := decide_eq_true d1
    have HF := Lib.hid (HR0.out.symm.trans (XD _ (badE_2 q s hs d1)))
    clear HR0
    repeat (first | refine Zv ?_ | refine Zs ?_ | refine Zu ?_ | refine Zc ?_ | refine Zq ?_ | refine Zm ?_ | refine Zp ?_ | refine Zw ?_ | refine Zf ?_ | refine Zd rfl ?_ | refine Zj rfl ?_ | refine Ze ?_ | refine Z3 ?_ | refine Zk ?_ | refine Zg ?_ | refine Zi ?_ | refine Zy rfl ?_ | refine Zx rfl ?_ | refine Zz rfl rfl ?_ | refine Zt rfl rfl rfl rfl ?_ | refine Zr rfl rfl rfl ?_ | refine Yr 59 _ (entC entZ).toArray rfl rfl rfl (by rfl) (by rfl) rentBuilt0 ?_ | refine YL (cells := (entC entZ).toArray) hL 1 rfl (rentInfo entZ ZL) rfl (Yu entZ) rfl rfl rfl rfl rfl (fun hL2 => ?_) | (first | refine Zb rfl rfl (.inl rfl) rfl rfl ?_ | refine Zb rfl rfl (.inr rfl) rfl rfl ?_ | refine Za rfl rfl (.inl rfl) rfl ?_ | refine Za rfl rfl (.inr rfl) rfl ?_) | ((first | refine Zn rfl rfl rfl fun K hK => ?_ | refine Zh rfl rfl rfl fun K hK => ?_); go_simp; (try go_bits); (first | refine hK _ _ ?_ | refine hK _ ?_); clear hK K))
    refine YO (v := .tuple #[.agg (entC entZ).toArray, .int .i64 10]) (fun a k => ZW rfl _ _ g2 59 (entC entZ).toArray (0, 0) _ _ (k.slot 2 rfl) (k.slot 3 rfl) (hL2.at_ 1 rfl) Try.underlying59 rfl (rentInfo entZ ZL)) ?_
    refine ⟨?_, hL2.below⟩
    show _ = Ending.returned (.tuple #[.agg (entC (parseE b).1).toArray, .int .i64 (parseE b).2])
    rw [HP0.out, HF.out]
  have t4 : decide (1073741824 < q) = false := decide_eq_false d1
  by_cases d2 : s < 0
  case pos =>
    have t5 : decide (s < 0) = true := decide_eq_true d2
    have HF := Lib.hid (HR0.out.symm.trans (XD _ (badE_3 q s hs d2)))
    clear HR0
    repeat (first | refine Zv ?_ | refine Zs ?_ | refine Zu ?_ | refine Zc ?_ | refine Zq ?_ | refine Zm ?_ | refine Zp ?_ | refine Zw ?_ | refine Zf ?_ | refine Zd rfl ?_ | refine Zj rfl ?_ | refine Ze ?_ | refine Z3 ?_ | refine Zk ?_ | refine Zg ?_ | refine Zi ?_ | refine Zy rfl ?_ | refine Zx rfl ?_ | refine Zz rfl rfl ?_ | refine Zt rfl rfl rfl rfl ?_ | refine Zr rfl rfl rfl ?_ | refine Yr 59 _ (entC entZ).toArray rfl rfl rfl (by rfl) (by rfl) rentBuilt0 ?_ | refine YL (cells := (entC entZ).toArray) hL 1 rfl (rentInfo entZ ZL) rfl (Yu entZ) rfl rfl rfl rfl rfl (fun hL2 => ?_) | (first | refine Zb rfl rfl (.inl rfl) rfl rfl ?_ | refine Zb rfl rfl (.inr rfl) rfl rfl ?_ | refine Za rfl rfl (.inl rfl) rfl ?_ | refine Za rfl rfl (.inr rfl) rfl ?_) | ((first | refine Zn rfl rfl rfl fun K hK => ?_ | refine Zh rfl rfl rfl fun K hK => ?_); go_simp; (try go_bits); (first | refine hK _ _ ?_ | refine hK _ ?_); clear hK K))
    refine YO (v := .tuple #[.agg (entC entZ).toArray, .int .i64 10]) (fun a k => ZW rfl _ _ g2 59 (entC entZ).toArray (0, 0) _ _ (k.slot 2 rfl) (k.slot 3 rfl) (hL2.at_ 1 rfl) Try.underlying59 rfl (rentInfo entZ ZL)) ?_
    refine ⟨?_, hL2.below⟩
    show _ = Ending.returned (.tuple #[.agg (entC (parseE b).1).toArray, .int .i64 (parseE b).2])
    rw [HP0.out, HF.out]
  have t5 : decide (s < 0) = false := decide_eq_false d2
  by_cases d3 : 2 < s
  case pos =>
    have t6 : decide (2 < s) = true := decide_eq_true d3
    have HF := Lib.hid (HR0.out.symm.trans (XD _ (badE_4 q s hs d3)))
    clear HR0
    repeat (first | refine Zv ?_ | refine Zs ?_ | refine Zu ?_ | refine Zc ?_ | refine Zq ?_ | refine Zm ?_ | refine Zp ?_ | refine Zw ?_ | refine Zf ?_ | refine Zd rfl ?_ | refine Zj rfl ?_ | refine Ze ?_ | refine Z3 ?_ | refine Zk ?_ | refine Zg ?_ | refine Zi ?_ | refine Zy rfl ?_ | refine Zx rfl ?_ | refine Zz rfl rfl ?_ | refine Zt rfl rfl rfl rfl ?_ | refine Zr rfl rfl rfl ?_ | refine Yr 59 _ (entC entZ).toArray rfl rfl rfl (by rfl) (by rfl) rentBuilt0 ?_ | refine YL (cells := (entC entZ).toArray) hL 1 rfl (rentInfo entZ ZL) rfl (Yu entZ) rfl rfl rfl rfl rfl (fun hL2 => ?_) | (first | refine Zb rfl rfl (.inl rfl) rfl rfl ?_ | refine Zb rfl rfl (.inr rfl) rfl rfl ?_ | refine Za rfl rfl (.inl rfl) rfl ?_ | refine Za rfl rfl (.inr rfl) rfl ?_) | ((first | refine Zn rfl rfl rfl fun K hK => ?_ | refine Zh rfl rfl rfl fun K hK => ?_); go_simp; (try go_bits); (first | refine hK _ _ ?_ | refine hK _ ?_); clear hK K))
    refine YO (v := .tuple #[.agg (entC entZ).toArray, .int .i64 10]) (fun a k => ZW rfl _ _ g2 59 (entC entZ).toArray (0, 0) _ _ (k.slot 2 rfl) (k.slot 3 rfl) (hL2.at_ 1 rfl) Try.underlying59 rfl (rentInfo entZ ZL)) ?_
    refine ⟨?_, hL2.below⟩
    show _ = Ending.returned (.tuple #[.agg (entC (parseE b).1).toArray, .int .i64 (parseE b).2])
    rw [HP0.out, HF.out]
  have t6 : decide (2 < s) = false := decide_eq_false d3
  have HF := Lib.hid (HR0.out.symm.trans (finE_ok _ (badE_0 q s hs d0 d1 d2 d3)))
  clear HR0 d0 d1 d2 d3
  repeat (first | refine Zv ?_ | refine Zs ?_ | refine Zu ?_ | refine Zc ?_ | refine Zq ?_ | refine Zm ?_ | refine Zp ?_ | refine Zw ?_ | refine Zf ?_ | refine Zd rfl ?_ | refine Zj rfl ?_ | refine Ze ?_ | refine Z3 ?_ | refine Zk ?_ | refine Zg ?_ | refine Zi ?_ | refine Zy rfl ?_ | refine Zx rfl ?_ | refine Zz rfl rfl ?_ | refine Zt rfl rfl rfl rfl ?_ | refine Zr rfl rfl rfl ?_ | refine Wf hL 0 rfl Try.underlying59 rfl (rentInfo ⟨q, s, hs⟩ HS.out) rfl rfl rfl rfl rfl ?_ | refine YL (cells := (entC ⟨q, s, hs⟩).toArray) hL 1 rfl (rentInfo ⟨q, s, hs⟩ HS.out) (by rw [List.size_toArray, List.size_toArray, ZR entZ ZL, ZR ⟨q, s, hs⟩ HS.out]) (Yu _) rfl rfl rfl rfl rfl (fun hL2 => ?_) | (first | refine Zb rfl rfl (.inl rfl) rfl rfl ?_ | refine Zb rfl rfl (.inr rfl) rfl rfl ?_ | refine Za rfl rfl (.inl rfl) rfl ?_ | refine Za rfl rfl (.inr rfl) rfl ?_) | ((first | refine Zn rfl rfl rfl fun K hK => ?_ | refine Zh rfl rfl rfl fun K hK => ?_); go_simp; (try go_bits); (first | refine hK _ _ ?_ | refine hK _ ?_); clear hK K))
  refine YO (v := .tuple #[.agg (entC ⟨q, s, hs⟩).toArray, .int .i64 0]) (fun a k => ZW rfl _ _ g2 59 (entC ⟨q, s, hs⟩).toArray (0, 0) _ _ (k.slot 2 rfl) (k.slot 3 rfl) (hL2.at_ 1 rfl) Try.underlying59 rfl (rentInfo ⟨q, s, hs⟩ HS.out)) ?_
  refine ⟨?_, hL2.below⟩
  show _ = Ending.returned (.tuple #[.agg (entC (parseE b).1).toArray, .int .i64 (parseE b).2])
  rw [HP0.out, HF.out]
end Go.Proofs.Ytkncomkncfcecaa
