/- == on entries by value. Boot, the code's. Bytes of an entry: the code's and the document's. -/
import Derived.Test.YtkncomkncfcecaaKnV
import Derived.Test.YtkncomkncfcecaaRs
import Derived.DeepKeys
import Derived.Test.YtkncomkncfcecaaSlotImg
import Derived.Test.YtkncomkncfcecaaCodeText
import Derived.Test.YtkncomkncfcecaaConcat
import Derived.Test.YtkncomkncfcecaaFlashLaws
set_option linter.unusedVariables false
set_option linter.unusedSimpArgs false
namespace Go.Proofs.Ytkncomkncfcecaa
open Go.RowKit
def eqE (a b : EntS) : Bool := a.seq == b.seq && (a.slot == b.slot && a.sum == b.sum)
theorem eqE_self (a : EntS) : eqE a a = true := by simp [eqE]
theorem eqE_seq (a b : EntS) (h : a.seq ≠ b.seq) : eqE a b = false := by simp [eqE, h]
theorem fieldsOf_of {P : Program} {t : TypeId} {fs : Array Field} (h : P.underlying t = some (.struct fs)) : P.fieldsOf t = fs := by unfold Program.fieldsOf; rw [h]
theorem sizeHash (w : World) : (Go.sizeOf 29).run Try.prog w = .ok 32 w := by
  have h := hashSize z32 ZL
  rw [Ye, ZL] at h
  cases hi : Try.prog.info? 29 with
  | none => rw [hi] at h; cases h
  | some i =>
    rw [hi] at h
    have : i.size = 32 := by simpa using h
    simp [Go.sizeOf, typeInfo, hi, this]
theorem part_0 (w : World) (a : EntS) : (part 3 (entC a).toArray 0).run Try.prog w = .ok (.int .i64 a.seq) w := by
  simp [part, isAgg, run_underlying Try.underlying3, entC]
theorem part_1 (w : World) (a : EntS) : (part 3 (entC a).toArray 1).run Try.prog w = .ok (.int .i64 a.slot) w := by
  simp [part, isAgg, run_underlying Try.underlying3, entC]
theorem part_2 (w : World) (a : EntS) (h : a.sum.length = 32) : (part 29 (entC a).toArray 2).run Try.prog w = .ok (.agg (bv a.sum).toArray) w := by
  have he : (entC a).toArray.extract 2 (2 + 32) = (bv a.sum).toArray := by
    apply Array.toList_inj.1
    rw [Array.toList_extract]
    show List.extract (.int .i64 a.seq :: .int .i64 a.slot :: bv a.sum) 2 34 = bv a.sum
    simp only [List.extract, List.drop_succ_cons, List.drop_zero]
    rw [List.take_of_length_le (by rw [Ye, h]; omega)]
  simp only [part, isAgg, run_underlying Try.underlying29, sizeHash, Sem.run_bind, Sem.run_pure, Result.andThen_ok, Sem.run_ite, if_true, he]
set_option maxRecDepth 100000 in
theorem eqEnt (w : World) (a b : EntS) (ha : a.sum.length = 32) (hb : b.sum.length = 32) : (Op.equalIn 10000 31 (.agg (entC a).toArray) (.agg (entC b).toArray)).run Try.prog w = .ok (eqE a b) w := by
  have hf := fieldsOf_of Try.underlying31
  have hu : Try.prog.underlying 31 = some (.struct (Try.prog.fieldsOf 31)) := by rw [hf]; exact Try.underlying31
  have e2 : ∀ W, (Op.equalIn 9999 29 (.agg (bv a.sum).toArray) (.agg (bv b.sum).toArray)).run Try.prog W = .ok (a.sum == b.sum) W := fun W => run_equalIn_bytes W 9997 29 5 32 hashUnder Try.underlying5 (fun _ => rfl) a.sum b.sum ha hb
  rw [run_equalIn_struct w 9999 31 _ _ hu (by kernel_rfl), hf]
  have e0 := fun W (x y : Int) => run_equalIn_int (P := Try.prog) W 9998 3 .i64 .i64 x y Try.underlying3
  simp only [Op.eqFields, Sem.run_bind, Sem.run_ite, part_0, part_1, part_2 _ _ ha, part_2 _ _ hb, Result.andThen_ok, e0, e2]
  unfold eqE
  cases a.seq == b.seq <;> cases a.slot == b.slot <;> cases a.sum == b.sum <;> simp
set_option maxRecDepth 100000 in
theorem reqEnt (w : World) (a b : EntS) (ha : a.sum.length = 32) (hb : b.sum.length = 32) : (Op.equalIn 10000 59 (.agg (entC a).toArray) (.agg (entC b).toArray)).run Try.prog w = .ok (eqE a b) w := by
  have hf := fieldsOf_of Try.underlying59
  have hu : Try.prog.underlying 59 = some (.struct (Try.prog.fieldsOf 59)) := by rw [hf]; exact Try.underlying59
  have e2 : ∀ W, (Op.equalIn 9999 29 (.agg (bv a.sum).toArray) (.agg (bv b.sum).toArray)).run Try.prog W = .ok (a.sum == b.sum) W := fun W => run_equalIn_bytes W 9997 29 5 32 hashUnder Try.underlying5 (fun _ => rfl) a.sum b.sum ha hb
  rw [run_equalIn_struct w 9999 59 _ _ hu (by kernel_rfl), hf]
  have e0 := fun W (x y : Int) => run_equalIn_int (P := Try.prog) W 9998 3 .i64 .i64 x y Try.underlying3
  simp only [Op.eqFields, Sem.run_bind, Sem.run_ite, part_0, part_1, part_2 _ _ ha, part_2 _ _ hb, Result.andThen_ok, e0, e2]
  unfold eqE
  cases a.seq == b.seq <;> cases a.slot == b.slot <;> cases a.sum == b.sum <;> simp
end Go.Proofs.Ytkncomkncfcecaa
set_option linter.unusedVariables false
set_option linter.unusedSimpArgs false
namespace Go.Proofs.Ytkncomkncfcecaa
open Go.RowKit
attribute [local go_sem] Y1 Yl Yp ZT Yy Yo ZI ZO Yi ZN ZH ZU Ya
theorem bs_typed {w w' : World} {A : Option Addr} {n g : Nat} {l : List UInt8} {t : TypeId} {cs : Array Value} {fr : Nat × Nat} (h : Bs w A n l) (hT : TyB w A) (hg : w.heap[g]? = some (.cells cs t fr)) (ht : t ≠ 5) (hw : w.grownBy w' (some g)) : Bs w' A n l ∧ TyB w' A := by
  have key : ∀ b o, A = some ⟨b, o, none⟩ → w'.heap[b]? = w.heap[b]? := fun b o e => by
    obtain ⟨cs', hc⟩ := hT b o e
    refine hw.block b (Array.getElem?_eq_some_iff.1 hc).1 fun hk => ?_
    injection hk with hk
    subst hk
    rw [hg] at hc
    injection hc with hc
    injection hc with _ h' _
    exact ht h'
  exact ⟨h.heap fun _ => key, fun b o e => by rw [key b o e]; exact hT b o e⟩
theorem plc_ent {w : World} {b : Nat} {p : Plc} {t : TypeId} (h : w.heap[b]? = some (.cells (plcC p).toArray t (0, 0))) : w.rangeAt b 0 (entC p.1) := fun j u hu => by
  rw [Nat.zero_add]
  refine Z4 h ?_
  rw [List.getElem?_toArray]
  unfold plcC
  rw [List.getElem?_append_left (List.getElem?_eq_some_iff.1 hu).1]
  exact hu
theorem boot_hit (f : FlashSt) (k : Nat) (p : Plc) (hp : (allP f)[k]? = some p) (hn : ((allP f).take k).all (fun p => !(imageP f p.1).2) = true) (h : (imageP f p.1).2 = true) : bootP f = (p.1, (imageP f p.1).1) := by
  have hk := (List.getElem?_eq_some_iff.1 hp).1
  have hf : (allP f).find? (fun p => (imageP f p.1).2) = some p := by
    have h1 : allP f = (allP f).take k ++ p :: (allP f).drop (k + 1) := by
      have h2 := List.take_append_drop k (allP f)
      rw [List.drop_eq_getElem_cons hk, (List.getElem?_eq_some_iff.1 hp).2] at h2
      exact h2.symm
    rw [h1, List.find?_append]
    have h3 : ((allP f).take k).find? (fun p => (imageP f p.1).2) = none := by
      rw [List.find?_eq_none]
      intro x hx
      have := List.all_eq_true.1 hn x hx
      simpa using this
    rw [h3, List.find?_cons, h]
    rfl
  unfold bootP
  rw [hf]
theorem boot_none (f : FlashSt) (hn : (allP f).all (fun p => !(imageP f p.1).2) = true) : bootP f = (entF, []) := by
  have h3 : (allP f).find? (fun p => (imageP f p.1).2) = none := by
    rw [List.find?_eq_none]
    intro x hx
    have := List.all_eq_true.1 hn x hx
    simpa using this
  unfold bootP
  rw [h3]
def BootP (f : FlashSt) (w : World) (r : Ending) (w' : World) : Prop := ∃ A n c, r = .returned (.tuple #[.agg (entC (bootP f).1).toArray, .slice A n c]) ∧ Bs w' A n (bootP f).2 ∧ TyB w' A ∧ n ≤ c ∧ c ≤ 9223372036854775807 ∧ Below w.heap.size w w'
theorem entF_len : entF.sum.length = 32 := ZL
set_option maxRecDepth 100000 in
set_option maxHeartbeats 8000000 in
theorem boot_any (Q : Nat → Prop) (g : Nat) (f : FlashSt) (w : World) (h : FS Q w g f) : Calls Try.prog 14 #[.pointer (some ⟨g, 0, none⟩)] w (BootP f w) := by
  refine ZZ Try.func14 rfl Try.ntmps14 rfl [(0, .pointer (some ⟨g, 0, none⟩))] rfl ?_
  refine Zv ?_
  refine Zc ?_
  refine W6 (Lay.start w) entZero rfl rfl rfl rfl ?_
  intro g2 w1 hg2 hb1 hL1
  have h1 := h.below hb1
  clear hg2 hb1
  repeat (first | refine Zv ?_ | refine Zc ?_ | refine Zq ?_ | refine Zm ?_ | (first | refine Zb rfl rfl (.inl rfl) rfl rfl ?_ | refine Zb rfl rfl (.inr rfl) rfl rfl ?_ | refine Za rfl rfl (.inl rfl) rfl ?_ | refine Za rfl rfl (.inr rfl) rfl ?_))
  refine Z9 rfl rfl rfl Try.func34 rfl (by kernel_rfl) rfl ?_
  refine Calls.mono (all_any Q g f w1 h1) ?_
  rintro e w2 ⟨v, rfl, hO, hb2⟩
  refine ⟨_, rfl, ?_⟩
  have hL2 := Lib.hid (hL1.next hb2)
  have hF2 := Lib.hid (h1.below hb2)
  clear hL1 h1 hb2
  obtain ⟨A, c, rfl, hpl, hlc, hc9⟩ := hO.pls
  have hgood := Vp f
  obtain ⟨N, hN⟩ : ∃ N, (allP f).length = N := ⟨_, rfl⟩
  rw [hN] at hpl hlc ⊢
  have HGD := Lib.hid hgood
  have HN := Lib.hid hN
  have HPL := Lib.hid hpl
  clear hpl hgood hO hN
  repeat (first | (first | refine Zb rfl rfl (.inl rfl) rfl rfl ?_ | refine Zb rfl rfl (.inr rfl) rfl rfl ?_ | refine Za rfl rfl (.inl rfl) rfl ?_ | refine Za rfl rfl (.inr rfl) rfl ?_) | ((first | refine Zn rfl rfl rfl fun K hK => ?_ | refine Zh rfl rfl rfl fun K hK => ?_); go_simp; (try go_bits); (first | refine hK _ _ ?_ | refine hK _ ?_); clear hK K) | refine Zq ?_)
  refine Zm ?_
  repeat (first | refine Zv ?_ | refine Zc ?_ | refine Zq ?_ | refine Zm ?_ | (first | refine Zb rfl rfl (.inl rfl) rfl rfl ?_ | refine Zb rfl rfl (.inr rfl) rfl rfl ?_ | refine Za rfl rfl (.inl rfl) rfl ?_ | refine Za rfl rfl (.inr rfl) rfl ?_))
  refine KW.less [0, 2, 3, 9, 10, 11] ?_
  simp only [nrm, lk, Nat.reduceBEq, cond_true, cond_false]
  refine Zs ?_
  refine Yw (fun mm L W => ∃ k, k ≤ N ∧ mm = N - k ∧ Hid (Lay w W [(g2, (entC entZ).toArray, 31)]) ∧ Hid (FS Q W g f) ∧ Hid (PlS W A N (allP f)) ∧ Hid (((allP f).take k).all (fun p => !(imageP f p.1).2) = true) ∧ L = [(0, .pointer (some ⟨g, 0, none⟩)), (2, .pointer (some ⟨g2, 0, none⟩)), (3, .slice none 0 0), (9, .slice A N c), (10, .int .i64 (N : Int)), (11, .int .i64 (k : Int))]) ⟨0, by omega, rfl, hL2, hF2, HPL, by show _ = _; simp, rfl⟩ ?_
  clear hL2 hF2 HPL
  rintro mm L W ⟨k, hk, rfl, hL, hF, hP, htk, rfl⟩
  by_cases hkn : k < N
  case neg =>
    obtain rfl : k = N := by omega
    have t1 : decide ((k : Int) < (k : Int)) = false := by simp
    have t1n : decide (k < k) = false := by simp
    have hall := htk.out
    rw [List.take_of_length_le (by rw [HN.out]; exact Nat.le_refl _)] at hall
    have HB := Lib.hid (boot_none f hall)
    have LG := hL.out
    clear hkn hall
    repeat (first | refine Zv ?_ | refine Zs ?_ | refine Zu ?_ | refine Zc ?_ | refine Zq ?_ | refine Zm ?_ | refine Zp ?_ | refine Zw ?_ | refine Zf ?_ | refine Zd rfl ?_ | refine Zj rfl ?_ | refine Ze ?_ | refine Z3 ?_ | refine Zk ?_ | refine Zg ?_ | refine Zi ?_ | refine Zy rfl ?_ | refine Zx rfl ?_ | refine Zz rfl rfl ?_ | refine Zt rfl rfl rfl rfl ?_ | refine Zr rfl rfl rfl ?_ | refine Yr 31 _ (entC entF).toArray rfl rfl rfl (by rfl) (by rfl) entBuiltF ?_ | refine YL (cells := (entC entF).toArray) LG 0 rfl (entInfo entF entF_len) rfl (Yu entF) rfl rfl rfl rfl rfl (fun hL2 => ?_) | (first | refine Zb rfl rfl (.inl rfl) rfl rfl ?_ | refine Zb rfl rfl (.inr rfl) rfl rfl ?_ | refine Za rfl rfl (.inl rfl) rfl ?_ | refine Za rfl rfl (.inr rfl) rfl ?_) | ((first | refine Zn rfl rfl rfl fun K hK => ?_ | refine Zh rfl rfl rfl fun K hK => ?_); go_simp; (try go_bits); (first | refine hK _ _ ?_ | refine hK _ ?_); clear hK K))
    refine YO (v := .tuple #[.agg (entC entF).toArray, .slice none 0 0]) (fun a k => ZW rfl _ _ g2 31 (entC entF).toArray (0, 0) _ _ (k.slot 2 rfl) (k.slot 3 rfl) (hL2.at_ 0 rfl) Try.underlying31 rfl (entInfo entF entF_len)) ?_
    exact ⟨none, 0, 0, by rw [HB.out], by rw [HB.out]; exact Bs.nil _ _, (fun _ _ e => by cases e), Nat.le_refl _, by omega, hL2.below⟩
  have t1 : decide ((k : Int) < (N : Int)) = true := by rw [decide_eq_true_eq]; omega
  have t1n : decide (k < N) = true := decide_eq_true hkn
  have u0 : (0 : Int) ≤ k := by omega
  have u1 : (k : Int) < N := by omega
  obtain ⟨nk, hnk⟩ : ∃ nk, k + 1 = nk := ⟨_, rfl⟩
  have i3 : (k : Int) + 1 = (nk : Int) := by omega
  have i4 : IntKind.i64.wrap ((k : Int) + 1) = (nk : Int) := by rw [i3, IntWalk.i64_in _ (by omega)]
  have HNK := Lib.hid (And.intro hnk hkn)
  obtain ⟨gA, oA, p, rfl, hra, hps, hx1, hx2⟩ := hP.out.next hkn
  have hgd := (HGD.out p (List.mem_of_getElem? hx2.out)).1
  have HRA := Lib.hid hra
  have HGP := Lib.hid hgd
  have LG := hL.out
  clear hra hgd hnk hkn
  repeat (first | refine Zv ?_ | refine Zs ?_ | refine Zc ?_ | refine Zq ?_ | refine Zm ?_ | refine Zy rfl ?_ | refine Zu ?_ | (first | refine Zb rfl rfl (.inl rfl) rfl rfl ?_ | refine Zb rfl rfl (.inr rfl) rfl rfl ?_ | refine Za rfl rfl (.inl rfl) rfl ?_ | refine Za rfl rfl (.inr rfl) rfl ?_) | ((first | refine Zn rfl rfl rfl fun K hK => ?_ | refine Zh rfl rfl rfl fun K hK => ?_); go_simp; (try go_bits); (first | refine hK _ _ ?_ | refine hK _ ?_); clear hK K))
  refine Y8 72 gA _ _ _ HRA.out Try.underlying72 rfl (plcInfoL p hps) rfl rfl rfl rfl rfl ?_
  refine XH (z := (plcC (entZ, 0)).toArray) (cells := (plcC p).toArray) LG plcZero (plcInfo p hps) (by rw [List.size_toArray, List.size_toArray, Xi (entZ, 0) ZL, Xi p hps]) (plc_one _) rfl rfl rfl rfl rfl rfl rfl rfl rfl ?_
  intro g5 w5 hg5 hb5 L5
  have HF5 := Lib.hid (hF.out.below hb5)
  have HP5 := Lib.hid (hP.out.below hb5)
  have hr5 := plc_ent (L5.at_ 0 rfl)
  have L5 := Lib.hid L5
  clear hF hP hb5 hg5 HRA hL LG
  repeat (first | refine Zv ?_ | refine Zc ?_ | refine Zq ?_ | refine Zm ?_ | (first | refine Zb rfl rfl (.inl rfl) rfl rfl ?_ | refine Zb rfl rfl (.inr rfl) rfl rfl ?_ | refine Za rfl rfl (.inl rfl) rfl ?_ | refine Za rfl rfl (.inr rfl) rfl ?_) | refine Y8 31 g5 0 _ _ hr5 Try.underlying31 rfl (entInfoL p.1 hps) rfl rfl rfl rfl rfl ?_ | ((first | refine Zn rfl rfl rfl fun K hK => ?_ | refine Zh rfl rfl rfl fun K hK => ?_); go_simp; (try go_bits); (first | refine hK _ _ ?_ | refine hK _ ?_); clear hK K))
  refine Z9 rfl rfl rfl Try.func38 rfl (by kernel_rfl) rfl ?_
  refine Calls.mono (image_any Q g f p.1 w5 HF5.out HGP.out) ?_
  rintro e w6 ⟨Ai, ni, ci, rfl, hBi, hni, hci, hTi, hb6⟩
  refine ⟨_, rfl, ?_⟩
  have L6 := Lib.hid (L5.out.next hb6)
  have HF6 := Lib.hid (HF5.out.below hb6)
  have HP6 := Lib.hid (HP5.out.below hb6)
  have hr6 := plc_ent (L6.out.at_ 0 rfl)
  clear L5 HF5 HP5 hr5 hb6
  obtain ⟨q, hq⟩ : ∃ q, (imageP f p.1).2 = q := ⟨_, rfl⟩
  rw [hq]
  have HQ := Lib.hid hq
  have HBI := Lib.hid (And.intro hBi hTi)
  clear hq hBi hTi
  cases q
  case false =>
    have hn1 : Hid (((allP f).take nk).all (fun p => !(imageP f p.1).2) = true) := by
      show _ = _
      rw [← HNK.out.1, hx1.out, List.all_append, htk.out]
      simp [HQ.out]
    have L7 : Hid (Lay w w6 [(g2, (entC entZ).toArray, 31)]) := ⟨L6.out.below, L6.out.vars.2.2.2⟩
    clear L6 HBI
    repeat (first | refine Zv ?_ | refine Zc ?_ | refine Zq ?_ | refine Zm ?_ | refine Zp ?_ | refine Zx rfl ?_ | refine Zu ?_ | refine Zz rfl rfl ?_ | refine Zt rfl rfl rfl rfl ?_ | (first | refine Zb rfl rfl (.inl rfl) rfl rfl ?_ | refine Zb rfl rfl (.inr rfl) rfl rfl ?_ | refine Za rfl rfl (.inl rfl) rfl ?_ | refine Za rfl rfl (.inr rfl) rfl ?_) | ((first | refine Zn rfl rfl rfl fun K hK => ?_ | refine Zh rfl rfl rfl fun K hK => ?_); go_simp; (try go_bits); (first | refine hK _ _ ?_ | refine hK _ ?_); clear hK K))
    refine Yk (N - nk) [0, 2, 3, 9, 10, 11] (by have := HNK.out; omega) ?_
    exact ⟨nk, by have := HNK.out; omega, rfl, L7, HF6, HP6, hn1, rfl⟩
  have he : ∀ W, (Op.equalIn 10000 31 (.agg (entC p.1).toArray) (.agg (entC entZ).toArray)).run Try.prog W = .ok false W := fun W => by
    rw [eqEnt W _ _ hps ZL, eqE_seq _ _ (by have := HGP.out.seq; show p.1.seq ≠ 0; omega)]
  have HB := Lib.hid (boot_hit f k p hx2.out htk.out HQ.out)
  repeat (first | refine Zv ?_ | refine Zc ?_ | refine Zq ?_ | refine Zm ?_ | refine Zy rfl ?_ | refine Zu ?_ | refine Zz rfl rfl ?_ | (first | refine Zb rfl rfl (.inl rfl) rfl rfl ?_ | refine Zb rfl rfl (.inr rfl) rfl rfl ?_ | refine Za rfl rfl (.inl rfl) rfl ?_ | refine Za rfl rfl (.inr rfl) rfl ?_) | refine Y8 31 g5 0 _ _ hr6 Try.underlying31 rfl (entInfoL p.1 hps) rfl rfl rfl rfl rfl ?_ | refine Yr 31 _ (entC entZ).toArray rfl rfl rfl (by rfl) (by rfl) entBuilt0 ?_ | ((first | refine Zn rfl rfl rfl fun K hK => ?_ | refine Zh rfl rfl rfl fun K hK => ?_); go_simp; (try go_bits); (first | refine hK _ _ ?_ | refine hK _ ?_); clear hK K))
  refine YL (cells := (entC p.1).toArray) L6.out 1 rfl (entInfo p.1 hps) (by rw [List.size_toArray, List.size_toArray, ZR entZ ZL, ZR p.1 hps]) (Yu p.1) rfl rfl rfl rfl rfl (fun hL2 => ?_)
  have HB7 := Lib.hid (bs_typed HBI.out.1 HBI.out.2 (L6.out.at_ 1 rfl) (by decide) (XM w6 g2 (entC p.1).toArray))
  have hL2 := Lib.hid hL2
  generalize w6.setRow g2 (entC p.1).toArray = w7 at hL2 HB7 ⊢
  clear L6 HBI he hr6
  repeat (first | refine Zv ?_ | refine Zs ?_ | refine Zu ?_ | refine Zc ?_ | refine Zq ?_ | refine Zm ?_ | refine Zp ?_ | refine Zw ?_ | refine Zf ?_ | refine Zd rfl ?_ | refine Zj rfl ?_ | refine Ze ?_ | refine Z3 ?_ | refine Zk ?_ | refine Zg ?_ | refine Zi ?_ | refine Zy rfl ?_ | refine Zx rfl ?_ | refine Zz rfl rfl ?_ | refine Zt rfl rfl rfl rfl ?_ | refine Zr rfl rfl rfl ?_ | (first | refine Zb rfl rfl (.inl rfl) rfl rfl ?_ | refine Zb rfl rfl (.inr rfl) rfl rfl ?_ | refine Za rfl rfl (.inl rfl) rfl ?_ | refine Za rfl rfl (.inr rfl) rfl ?_) | ((first | refine Zn rfl rfl rfl fun K hK => ?_ | refine Zh rfl rfl rfl fun K hK => ?_); go_simp; (try go_bits); (first | refine hK _ _ ?_ | refine hK _ ?_); clear hK K))
  refine YO (v := .tuple #[.agg (entC p.1).toArray, .slice Ai ni ci]) (fun a k => ZW rfl _ _ g2 31 (entC p.1).toArray (0, 0) _ _ (k.slot 2 rfl) (k.slot 3 rfl) (hL2.out.at_ 1 rfl) Try.underlying31 rfl (entInfo p.1 hps)) ?_
  exact ⟨Ai, ni, ci, by rw [HB.out], by rw [HB.out]; exact HB7.out.1, HB7.out.2, hni, hci, hL2.out.below⟩
end Go.Proofs.Ytkncomkncfcecaa
set_option linter.unusedVariables false
set_option linter.unusedSimpArgs false
namespace Go.Proofs.Ytkncomkncfcecaa
open Go.RowKit
attribute [local go_sem] Y1 Yl Yp ZT Yy Yo ZI ZO Yi ZN ZH ZU Ya
theorem own_mono {w : World} {base base' : Nat} {e : TypeId} {size : Nat} {v : Value} {n : Nat} {xs : List Value} (h : w.ownsRow base e size v n xs) (hb : base' ≤ base) : w.ownsRow base' e size v n xs := by
  refine ⟨h.1, ?_⟩
  rcases h.2 with h2 | ⟨g, cap, cur, hv, hg, r⟩
  · exact .inl h2
  · exact .inr ⟨g, cap, cur, hv, Nat.le_trans hb hg, r⟩
theorem codeInt_B (A : Option Addr) (n c : Nat) (l : List UInt8) (x : Int) (w : World) (hA : Bs w A n l) (hn : n ≤ 1099511627776) (hx : I64 x) :
    Calls Try.prog 58 #[.slice A n c, .int .i64 x] w fun e w' => ∃ A' c', e = .returned (.slice A' (n + 8) c') ∧ Bs w' A' (n + 8) (l ++ le8 x) ∧ n + 8 ≤ c' ∧ c' ≤ 9223372036854775807 ∧ Below w.heap.size w w' :=
  Calls.mono (codeInt_any A n c l x w hA hn hx) fun e w' ⟨v, he, hown, hb⟩ => by
    obtain ⟨A', c', rfl, h1, h2, h3, _⟩ := ZP hown
    exact ⟨A', c', he, h3, h1, by simpa [maxLen] using h2, hb⟩
theorem refInt_O {w0 w : World} (hb : Below w0.heap.size w0 w) (v0 : Value) (n : Nat) (l : List UInt8) (x : Int) (hown : w.ownsRow w0.heap.size 5 1 v0 n (bv l)) (hn : n ≤ 1099511627776) (hx : I64 x) :
    Calls Try.prog 71 #[v0, .int .i64 x] w fun e w' => ∃ v, e = .returned v ∧ w'.ownsRow w0.heap.size 5 1 v (n + 8) (bv (l ++ le8 x)) ∧ Below w0.heap.size w0 w' :=
  Calls.mono (refInt_any v0 n l x w w0.heap.size hown hb.size hn hx) fun e w' ⟨v, he, hO⟩ => ⟨v, he, hO.now, Yq hb hO.grown hown hb.size⟩
theorem entBs {w : World} {b : Nat} {e : EntS} {t : TypeId} (h : w.heap[b]? = some (.cells (entC e).toArray t (0, 0))) (hs : e.sum.length = 32) : Bs w (some ⟨b, 2, none⟩) 32 e.sum := by
  refine ⟨by rw [Ye]; exact hs, fun _ => ⟨b, 2, rfl, fun i u hu => Z4 h ?_⟩⟩
  rw [List.getElem?_toArray, ent_sum]; exact hu
def EBytesP (l : List UInt8) (w : World) (e : Ending) (w' : World) : Prop := ∃ v, e = .returned v ∧ w'.ownsRow w.heap.size 5 1 v 48 (bv l) ∧ Below w.heap.size w w'
set_option maxRecDepth 100000 in
set_option maxHeartbeats 1000000 in
theorem eBytes_any (e : EntS) (w : World) (hs : e.sum.length = 32) (h1 : I64 e.seq) (h2 : I64 e.slot) : Calls Try.prog 35 #[.agg (entC e).toArray] w (EBytesP (bytesE e) w) := by
  refine ZZ Try.func35 rfl Try.ntmps35 rfl [(0, .agg (entC e).toArray)] rfl ?_
  refine Zv ?_
  refine Zc ?_
  refine Xx (Lay.start w) rfl rfl rfl rfl rfl ?_
  intro b w1 hb hb1 hL
  clear hb
  repeat (first | refine Zv ?_ | refine Zq ?_ | refine Zm ?_ | (first | refine Zb rfl rfl (.inl rfl) rfl rfl ?_ | refine Zb rfl rfl (.inr rfl) rfl rfl ?_ | refine Za rfl rfl (.inl rfl) rfl ?_ | refine Za rfl rfl (.inr rfl) rfl ?_) | ((first | refine Zn rfl rfl rfl fun K hK => ?_ | refine Zh rfl rfl rfl fun K hK => ?_); go_simp; (try go_bits); (first | refine hK _ _ ?_ | refine hK _ ?_); clear hK K))
  have hB := Lib.hid (hL.at_ 0 rfl)
  have hR0 : Below w1.heap.size w1 w1.drew := (Below.refl _ _).drew
  have f0 := fun W (h : Below w1.heap.size w1 W) => Keeps.of_below h _ _ (hL.get 0 rfl (ent_0 e))
  have f1 := fun W (h : Below w1.heap.size w1 W) => Keeps.of_below h _ _ (hL.get 0 rfl (ent_1 e))
  refine ZX (Below w1.heap.size w1) [true, true, false, true, true, false, true, true, false, false, true] (by kernel_rfl) (by kernel_rfl) hR0 ?_
  generalize w1.drew = w2 at hR0 ⊢
  repeat (first | refine Ym ?_ | refine Yj rfl rfl ?_ | refine ZM rfl rfl rfl rfl ?_ | (first | refine Z5 rfl rfl (.inl rfl) rfl rfl ?_ | refine Z5 rfl rfl (.inr rfl) rfl rfl ?_ | refine Z2 rfl rfl (.inl rfl) rfl ?_ | refine Z2 rfl rfl (.inr rfl) rfl ?_) | (refine Yf rfl rfl rfl ?_; apply Exists.intro; refine And.intro (fun W hW N hN => ?_) ?_; · (go_simp; (try go_bits); exact hN)))
  refine YT ?_
  refine Z9 rfl rfl rfl Try.func58 rfl (by kernel_rfl) rfl ?_
  refine Calls.mono (codeInt_B none 0 0 [] e.seq _ (Vs.nil _ _) (by omega) h1) ?_
  rintro e w3 ⟨A3, c3, rfl, hB3, n3, m3, hb3⟩
  have hR3 := Z1 hR0 hb3 hR0.size
  clear hR0 hb3
  refine ⟨_, rfl, ?_⟩
  refine Zq ?_
  refine kq_f hR3 ?_
  repeat (first | refine Ym ?_ | refine Yj rfl rfl ?_ | refine ZM rfl rfl rfl rfl ?_ | (first | refine Z5 rfl rfl (.inl rfl) rfl rfl ?_ | refine Z5 rfl rfl (.inr rfl) rfl rfl ?_ | refine Z2 rfl rfl (.inl rfl) rfl ?_ | refine Z2 rfl rfl (.inr rfl) rfl ?_) | (refine Yf rfl rfl rfl ?_; apply Exists.intro; refine And.intro (fun W hW N hN => ?_) ?_; · (go_simp; (try go_bits); exact hN)))
  refine YT ?_
  refine Z9 rfl rfl rfl Try.func58 rfl (by kernel_rfl) rfl ?_
  refine Calls.mono (codeInt_B A3 (0 + 8) c3 _ e.slot _ hB3 (by omega) h2) ?_
  rintro e w4 ⟨A4, c4, rfl, hB4, n4, m4, hb4⟩
  have hR4 := Z1 hR3 hb4 hR3.size
  clear hR3 hb4 hB3
  refine ⟨_, rfl, ?_⟩
  refine Zq ?_
  refine kq_f hR4 ?_
  repeat (first | refine Ym ?_ | refine Yj rfl rfl ?_ | refine ZM rfl rfl rfl rfl ?_ | (first | refine Z5 rfl rfl (.inl rfl) rfl rfl ?_ | refine Z5 rfl rfl (.inr rfl) rfl rfl ?_ | refine Z2 rfl rfl (.inl rfl) rfl ?_ | refine Z2 rfl rfl (.inr rfl) rfl ?_) | (refine Yf rfl rfl rfl ?_; apply Exists.intro; refine And.intro (fun W hW N hN => ?_) ?_; · (go_simp; (try go_bits); exact hN)))
  refine YT ?_
  ((first | refine Zn rfl rfl rfl fun K hK => ?_ | refine Zh rfl rfl rfl fun K hK => ?_); go_simp; (try go_bits); (first | refine hK _ _ ?_ | refine hK _ ?_); clear hK K)
  refine Zq ?_
  have hsum : Bs w4 (some ⟨b, 2, none⟩) 32 e.sum := entBs (by rw [hR4.block b (Array.getElem?_eq_some_iff.1 hB.out).1]; exact hB.out) hs
  have hP := Ps.lit2 (w := w4) 32 rfl hB4 n4 m4 hsum (Nat.le_refl 32) (by omega)
  have hR5 := Z1 hR4 ((Below.refl w4.heap.size w4).alloc (Nat.le_refl _) (.cells #[.slice A4 (0 + 8 + 8) c4, .slice (some ⟨b, 2, none⟩) 32 32] 32)) hR4.size
  clear hB4 n4 m4 hsum hR4
  generalize w4.alloc (.cells #[.slice A4 (0 + 8 + 8) c4, .slice (some ⟨b, 2, none⟩) 32 32] 32) = w5 at hP hR5 ⊢
  generalize w4.heap.size = g5 at hP ⊢
  refine kq_f hR5 ?_
  have hfl : [([] ++ le8 e.seq) ++ le8 e.slot, e.sum].flatten = bytesE e := by simp [bytesE]
  repeat (first | refine Ym ?_ | refine Yj rfl rfl ?_ | refine ZM rfl rfl rfl rfl ?_ | (first | refine Z5 rfl rfl (.inl rfl) rfl rfl ?_ | refine Z5 rfl rfl (.inr rfl) rfl rfl ?_ | refine Z2 rfl rfl (.inl rfl) rfl ?_ | refine Z2 rfl rfl (.inr rfl) rfl ?_) | (refine Yf rfl rfl rfl ?_; apply Exists.intro; refine And.intro (fun W hW N hN => ?_) ?_; · (go_simp; (try go_bits); exact hN)))
  refine YT ?_
  refine Z9 rfl rfl rfl Try.func57 rfl (by kernel_rfl) rfl ?_
  refine Calls.mono (concat_any _ _ _ _ _ hP (by omega) (by rw [hfl, Wx e hs]; omega)) ?_
  rintro e w6 ⟨v6, rfl, hown, hb6⟩
  rw [hfl, Wx e hs] at hown
  have hR6 := Z1 hR5 hb6 hR5.size
  have hw6 := own_mono hown (show w.heap.size ≤ w5.heap.size from Nat.le_trans hb1.size hR5.size)
  have hbz := Z1 hb1 hR6 hb1.size
  clear hown hb6 hP
  refine ⟨_, rfl, ?_⟩
  refine Zq ?_
  refine kq_f hR6 ?_
  repeat (first | refine Ym ?_ | refine Yj rfl rfl ?_ | refine ZM rfl rfl rfl rfl ?_ | (first | refine Z5 rfl rfl (.inl rfl) rfl rfl ?_ | refine Z5 rfl rfl (.inr rfl) rfl rfl ?_ | refine Z2 rfl rfl (.inl rfl) rfl ?_ | refine Z2 rfl rfl (.inr rfl) rfl ?_) | (refine Yf rfl rfl rfl ?_; apply Exists.intro; refine And.intro (fun W hW N hN => ?_) ?_; · (go_simp; (try go_bits); exact hN)))
  refine Zm ?_
  repeat (first | refine Zv ?_ | refine Zs ?_ | refine Zu ?_ | refine Zc ?_ | refine Zq ?_ | refine Zm ?_ | refine Zp ?_ | refine Zw ?_ | refine Zf ?_ | refine Zd rfl ?_ | refine Zj rfl ?_ | refine Ze ?_ | refine Z3 ?_ | refine Zk ?_ | refine Zg ?_ | refine Zi ?_ | refine Zy rfl ?_ | refine Zx rfl ?_ | refine Zz rfl rfl ?_ | refine Zt rfl rfl rfl rfl ?_ | refine Zr rfl rfl rfl ?_ | (first | refine Zb rfl rfl (.inl rfl) rfl rfl ?_ | refine Zb rfl rfl (.inr rfl) rfl rfl ?_ | refine Za rfl rfl (.inl rfl) rfl ?_ | refine Za rfl rfl (.inr rfl) rfl ?_) | ((first | refine Zn rfl rfl rfl fun K hK => ?_ | refine Zh rfl rfl rfl fun K hK => ?_); go_simp; (try go_bits); (first | refine hK _ _ ?_ | refine hK _ ?_); clear hK K))
  exact ZE rfl rfl ⟨_, rfl, hw6, hbz⟩
set_option maxRecDepth 100000 in
set_option maxHeartbeats 1000000 in
theorem eBytesR_any (e : EntS) (w : World) (hs : e.sum.length = 32) (h1 : I64 e.seq) (h2 : I64 e.slot) : Calls Try.prog 46 #[.agg (entC e).toArray] w (EBytesP (bytesE e) w) := by
  refine ZZ Try.func46 rfl Try.ntmps46 rfl [(0, .agg (entC e).toArray)] rfl ?_
  refine Zv ?_
  refine Zc ?_
  refine Xx (Lay.start w) rfl rfl rfl rfl rfl ?_
  intro b w1 hb hb1 hL
  clear hb
  repeat (first | refine Zv ?_ | refine Zq ?_ | refine Zm ?_ | (first | refine Zb rfl rfl (.inl rfl) rfl rfl ?_ | refine Zb rfl rfl (.inr rfl) rfl rfl ?_ | refine Za rfl rfl (.inl rfl) rfl ?_ | refine Za rfl rfl (.inr rfl) rfl ?_) | ((first | refine Zn rfl rfl rfl fun K hK => ?_ | refine Zh rfl rfl rfl fun K hK => ?_); go_simp; (try go_bits); (first | refine hK _ _ ?_ | refine hK _ ?_); clear hK K))
  have hB := Lib.hid (hL.at_ 0 rfl)
  have hR0 : Below w1.heap.size w1 w1.drew := (Below.refl _ _).drew
  have f0 := fun W (h : Below w1.heap.size w1 W) => Keeps.of_below h _ _ (hL.get 0 rfl (ent_0 e))
  have f1 := fun W (h : Below w1.heap.size w1 W) => Keeps.of_below h _ _ (hL.get 0 rfl (ent_1 e))
  refine ZX (Below w1.heap.size w1) [true, true, false, true, true, false, true] (by kernel_rfl) (by kernel_rfl) hR0 ?_
  generalize w1.drew = w2 at hR0 ⊢
  repeat (first | refine Ym ?_ | refine Yj rfl rfl ?_ | refine ZM rfl rfl rfl rfl ?_ | (first | refine Z5 rfl rfl (.inl rfl) rfl rfl ?_ | refine Z5 rfl rfl (.inr rfl) rfl rfl ?_ | refine Z2 rfl rfl (.inl rfl) rfl ?_ | refine Z2 rfl rfl (.inr rfl) rfl ?_) | (refine Yf rfl rfl rfl ?_; apply Exists.intro; refine And.intro (fun W hW N hN => ?_) ?_; · (go_simp; (try go_bits); exact hN)))
  refine YT ?_
  refine Z9 rfl rfl rfl Try.func71 rfl (by kernel_rfl) rfl ?_
  refine Calls.mono (refInt_O hR0 (.slice none 0 0) 0 [] e.seq (World.ownsRow_nil _ _ _ _) (by omega) h1) ?_
  rintro e w3 ⟨v3, rfl, ho3, hR3⟩
  refine ⟨_, rfl, ?_⟩
  refine Zq ?_
  refine kq_f hR3 ?_
  repeat (first | refine Ym ?_ | refine Yj rfl rfl ?_ | refine ZM rfl rfl rfl rfl ?_ | (first | refine Z5 rfl rfl (.inl rfl) rfl rfl ?_ | refine Z5 rfl rfl (.inr rfl) rfl rfl ?_ | refine Z2 rfl rfl (.inl rfl) rfl ?_ | refine Z2 rfl rfl (.inr rfl) rfl ?_) | (refine Yf rfl rfl rfl ?_; apply Exists.intro; refine And.intro (fun W hW N hN => ?_) ?_; · (go_simp; (try go_bits); exact hN)))
  refine YT ?_
  refine Z9 rfl rfl rfl Try.func71 rfl (by kernel_rfl) rfl ?_
  refine Calls.mono (refInt_O hR3 v3 (0 + 8) _ e.slot ho3 (by omega) h2) ?_
  rintro e w4 ⟨v4, rfl, ho4, hR4⟩
  refine ⟨_, rfl, ?_⟩
  refine Zq ?_
  refine kq_f hR4 ?_
  repeat (first | refine Ym ?_ | refine Yj rfl rfl ?_ | refine ZM rfl rfl rfl rfl ?_ | (first | refine Z5 rfl rfl (.inl rfl) rfl rfl ?_ | refine Z5 rfl rfl (.inr rfl) rfl rfl ?_ | refine Z2 rfl rfl (.inl rfl) rfl ?_ | refine Z2 rfl rfl (.inr rfl) rfl ?_) | (refine Yf rfl rfl rfl ?_; apply Exists.intro; refine And.intro (fun W hW N hN => ?_) ?_; · (go_simp; (try go_bits); exact hN)))
  refine Zm ?_
  have hsum : Bs w4 (some ⟨b, 2, none⟩) 32 e.sum := entBs (by rw [hR4.block b (Array.getElem?_eq_some_iff.1 hB.out).1]; exact hB.out) hs
  clear ho3 hR0 hR3 f0 f1
  repeat (first | refine Zv ?_ | refine Zc ?_ | (first | refine Zb rfl rfl (.inl rfl) rfl rfl ?_ | refine Zb rfl rfl (.inr rfl) rfl rfl ?_ | refine Za rfl rfl (.inl rfl) rfl ?_ | refine Za rfl rfl (.inr rfl) rfl ?_) | ((first | refine Zn rfl rfl rfl fun K hK => ?_ | refine Zh rfl rfl rfl fun K hK => ?_); go_simp; (try go_bits); (first | refine hK _ _ ?_ | refine hK _ ?_); clear hK K))
  refine Vf w1.heap.size v4 (0 + 8 + 8) _ ho4 _ 32 32 e.sum hsum (by omega) hR4.size rfl rfl rfl rfl rfl rfl ?_
  intro v5 w5 ho5 hg5 _
  have hbz := Z1 hb1 (Yq hR4 hg5 ho4 hR4.size) hb1.size
  have he : ([] ++ le8 e.seq) ++ le8 e.slot ++ e.sum = bytesE e := by simp [bytesE]
  rw [he] at ho5
  have hw5 := own_mono ho5 hb1.size
  repeat (first | refine Zv ?_ | refine Zs ?_ | refine Zu ?_ | refine Zc ?_ | refine Zq ?_ | refine Zm ?_ | refine Zp ?_ | refine Zw ?_ | refine Zf ?_ | refine Zd rfl ?_ | refine Zj rfl ?_ | refine Ze ?_ | refine Z3 ?_ | refine Zk ?_ | refine Zg ?_ | refine Zi ?_ | refine Zy rfl ?_ | refine Zx rfl ?_ | refine Zz rfl rfl ?_ | refine Zt rfl rfl rfl rfl ?_ | refine Zr rfl rfl rfl ?_ | (first | refine Zb rfl rfl (.inl rfl) rfl rfl ?_ | refine Zb rfl rfl (.inr rfl) rfl rfl ?_ | refine Za rfl rfl (.inl rfl) rfl ?_ | refine Za rfl rfl (.inr rfl) rfl ?_) | ((first | refine Zn rfl rfl rfl fun K hK => ?_ | refine Zh rfl rfl rfl fun K hK => ?_); go_simp; (try go_bits); (first | refine hK _ _ ?_ | refine hK _ ?_); clear hK K))
  exact ZE rfl rfl ⟨_, rfl, hw5, hbz⟩
end Go.Proofs.Ytkncomkncfcecaa
