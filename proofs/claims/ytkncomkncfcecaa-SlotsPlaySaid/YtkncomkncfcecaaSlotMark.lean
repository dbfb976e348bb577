/- Mark and Store: the code's and the document's. -/
import Derived.Test.YtkncomkncfcecaaSlotBytes
import Derived.Test.YtkncomkncfcecaaRecApp
import Derived.Test.YtkncomkncfcecaaRefErase
import Derived.Test.YtkncomkncfcecaaSlotAll
set_option linter.unusedVariables false
set_option linter.unusedSimpArgs false
namespace Go.Proofs.Ytkncomkncfcecaa
open Go.RowKit
attribute [local go_sem] Y1 Yl Yp ZT Yy Yo ZI ZO Yi ZN ZH ZU Ya
def DoP (F : (Nat → Prop) → World → Nat → FlashSt → Prop) (Q : Nat → Prop) (g : Nat) (r : Int × FlashSt) (w : World) (e : Ending) (w' : World) : Prop := e = .returned (.int .i64 r.1) ∧ F Q w' g r.2 ∧ w.grownBy w' (some g)
theorem write_1 {f : FlashSt} {s : Int} {b : List UInt8} {r : Int × FlashSt} (h : appendP f s b = r) (h4 : r.1 ≠ 4) : writeP f s b = r := by unfold writeP; rw [h, if_pos h4]
theorem write_2 {f : FlashSt} {s : Int} {b : List UInt8} {r r2 : Int × FlashSt} (h : appendP f s b = r) (h4 : r.1 = 4) (h2 : eraseF r.2 (1 - s) = r2) (h0 : r2.1 ≠ 0) : writeP f s b = r2 := by unfold writeP; rw [h, if_neg (by simp [h4]), h2, if_pos h0]
theorem write_3 {f : FlashSt} {s : Int} {b : List UInt8} {r r2 r3 : Int × FlashSt} (h : appendP f s b = r) (h4 : r.1 = 4) (h2 : eraseF r.2 (1 - s) = r2) (h0 : r2.1 = 0) (h3 : appendP r2.2 (1 - s) b = r3) : writeP f s b = r3 := by unfold writeP; rw [h, if_neg (by simp [h4]), h2, if_neg (by simp [h0]), h3]
theorem mark_arg {f : FlashSt} {slot : Int} {sum : List UInt8} (h : slot < 0 ∨ 2 < slot) : markP f slot sum = (1, f) := by unfold markP; rw [if_pos h]
theorem mark_over {f : FlashSt} {slot : Int} {sum : List UInt8} (h : ¬ (slot < 0 ∨ 2 < slot)) (h2 : 1073741824 ≤ (lastP f).1) : markP f slot sum = (11, f) := by unfold markP; rw [if_neg h, if_pos h2]
theorem mark_go {f : FlashSt} {slot : Int} {sum : List UInt8} (h : ¬ (slot < 0 ∨ 2 < slot)) (h2 : ¬ 1073741824 ≤ (lastP f).1) {q s : Int} (hq : (lastP f).1 + 1 = q) (hs : (lastP f).2 = s) : markP f slot sum = writeP f s (bytesE ⟨q, slot, sum⟩) := by unfold markP; rw [if_neg h, if_neg h2, hq, hs]
theorem Vm {f : FlashSt} {slot : Int} {b : List UInt8} (h : slot < 0 ∨ 2 ≤ slot) : storeP f slot b = (1, f) := by unfold storeP; rw [if_pos h]
theorem store_long {f : FlashSt} {slot : Int} {b : List UInt8} (h : ¬ (slot < 0 ∨ 2 ≤ slot)) (h2 : 1000 < b.length) : storeP f slot b = (5, f) := by unfold storeP; rw [if_neg h, if_pos h2]
theorem store_1 {f : FlashSt} {slot : Int} {b : List UInt8} (h : ¬ (slot < 0 ∨ 2 ≤ slot)) (h2 : ¬ 1000 < b.length) {r : Int × FlashSt} (hr : eraseF f (2 + slot) = r) (h0 : r.1 ≠ 0) : storeP f slot b = r := by unfold storeP; rw [if_neg h, if_neg h2, hr, if_pos h0]
theorem store_2 {f : FlashSt} {slot : Int} {b : List UInt8} (h : ¬ (slot < 0 ∨ 2 ≤ slot)) (h2 : ¬ 1000 < b.length) {r r2 : Int × FlashSt} (hr : eraseF f (2 + slot) = r) (h0 : r.1 = 0) (h3 : appendP r.2 (2 + slot) b = r2) : storeP f slot b = r2 := by unfold storeP; rw [if_neg h, if_neg h2, hr, if_neg (by simp [h0]), h3]
theorem lastP_nil {f : FlashSt} (h : allP f = []) : lastP f = (0, 0) := by unfold lastP; rw [h]
theorem lastP_cons {f : FlashSt} {p : Plc} {l : List Plc} (h : allP f = p :: l) : lastP f = (p.1.seq, p.2) := by unfold lastP; rw [h]
theorem eb_own {w : World} {base n : Nat} {v : Value} {l : List UInt8} (h : w.ownsRow base 5 1 v n (bv l)) : ∃ A c, v = .slice A n c ∧ Bs w A n l ∧ n ≤ c ∧ c ≤ 9223372036854775807 ∧ ∀ a, A = some a → base ≤ a.block := by
  rcases h.2 with ⟨h1, h2⟩ | ⟨g, cap, cur, h1, hb, _, h4, h5, _⟩
  · subst h2; exact ⟨none, 0, h1, by subst h1; exact .of_own h, Nat.le_refl _, by omega, fun a e => by cases e⟩
  · subst h1; exact ⟨_, cap, rfl, .of_own h, h4, by simpa [maxLen] using h5, fun a e => by injection e with e; subst e; exact hb⟩
theorem hash_1 (sum : List UInt8) (h : sum.length = 32) : (Try.prog.info? 29).map (·.size) = some (bv sum).toArray.size := by rw [List.size_toArray]; exact hashSize sum h
set_option maxRecDepth 100000 in
set_option maxHeartbeats 8000000 in
theorem mark_any (Q : Nat → Prop) (g : Nat) (hQ : ∀ b, Q b → b ≠ g) (f : FlashSt) (slot : Int) (sum : List UInt8) (w : World) (h : FS Q w g f) (hs : sum.length = 32) (hsl : I64 slot) : Calls Try.prog 13 #[.pointer (some ⟨g, 0, none⟩), .int .i64 slot, .agg (bv sum).toArray] w (DoP FS Q g (markP f slot sum) w) := by
  have hglt := h.lt
  unfold I64 at hsl
  refine ZZ Try.func13 rfl Try.ntmps13 rfl [(0, .pointer (some ⟨g, 0, none⟩)), (1, .int .i64 slot), (2, .agg (bv sum).toArray)] rfl ?_
  refine Zv ?_
  refine Zc ?_
  refine Xx (Lay.start w) rfl rfl rfl rfl rfl ?_
  intro g5 w1 hg5 hb1 hL1
  have hg5w : w.heap.size ≤ g5 := by omega
  clear hg5
  by_cases d1 : slot < 0
  · have t1 : decide (slot < 0) = true := decide_eq_true d1
    have HE := Lib.hid (mark_arg (f := f) (sum := sum) (.inl d1))
    clear d1
    repeat (first | refine Zv ?_ | refine Zs ?_ | refine Zu ?_ | refine Zc ?_ | refine Zq ?_ | refine Zm ?_ | refine Zp ?_ | refine Zw ?_ | refine Zf ?_ | refine Zd rfl ?_ | refine Zj rfl ?_ | refine Ze ?_ | refine Z3 ?_ | refine Zk ?_ | refine Zg ?_ | refine Zi ?_ | refine Zy rfl ?_ | refine Zx rfl ?_ | refine Zz rfl rfl ?_ | refine Zt rfl rfl rfl rfl ?_ | refine Zr rfl rfl rfl ?_ | (first | refine Zb rfl rfl (.inl rfl) rfl rfl ?_ | refine Zb rfl rfl (.inr rfl) rfl rfl ?_ | refine Za rfl rfl (.inl rfl) rfl ?_ | refine Za rfl rfl (.inr rfl) rfl ?_) | ((first | refine Zn rfl rfl rfl fun K hK => ?_ | refine Zh rfl rfl rfl fun K hK => ?_); go_simp; (try go_bits); (first | refine hK _ _ ?_ | refine hK _ ?_); clear hK K))
    exact ZE rfl rfl ⟨by rw [HE.out], by rw [HE.out]; exact h.below hb1, Z8 hb1 _⟩
  have t1 : decide (slot < 0) = false := decide_eq_false d1
  by_cases d2 : 2 < slot
  · have t2 : decide (2 < slot) = true := decide_eq_true d2
    have HE := Lib.hid (mark_arg (f := f) (sum := sum) (.inr d2))
    clear d1 d2
    repeat (first | refine Zv ?_ | refine Zs ?_ | refine Zu ?_ | refine Zc ?_ | refine Zq ?_ | refine Zm ?_ | refine Zp ?_ | refine Zw ?_ | refine Zf ?_ | refine Zd rfl ?_ | refine Zj rfl ?_ | refine Ze ?_ | refine Z3 ?_ | refine Zk ?_ | refine Zg ?_ | refine Zi ?_ | refine Zy rfl ?_ | refine Zx rfl ?_ | refine Zz rfl rfl ?_ | refine Zt rfl rfl rfl rfl ?_ | refine Zr rfl rfl rfl ?_ | (first | refine Zb rfl rfl (.inl rfl) rfl rfl ?_ | refine Zb rfl rfl (.inr rfl) rfl rfl ?_ | refine Za rfl rfl (.inl rfl) rfl ?_ | refine Za rfl rfl (.inr rfl) rfl ?_) | ((first | refine Zn rfl rfl rfl fun K hK => ?_ | refine Zh rfl rfl rfl fun K hK => ?_); go_simp; (try go_bits); (first | refine hK _ _ ?_ | refine hK _ ?_); clear hK K))
    exact ZE rfl rfl ⟨by rw [HE.out], by rw [HE.out]; exact h.below hb1, Z8 hb1 _⟩
  have t2 : decide (2 < slot) = false := decide_eq_false d2
  have HSL : Hid (¬ (slot < 0 ∨ 2 < slot)) := by show ¬ _; omega
  have HSI : Hid (I64 slot) := by show I64 slot; unfold I64; omega
  clear d1 d2
  have h1 := h.below hb1
  have HL1 := Lib.hid hL1
  clear hL1 hb1
  have hbd := lastP_bds f
  repeat (first | refine Zv ?_ | refine Zq ?_ | refine Zm ?_ | refine Zc ?_ | refine Zx rfl ?_ | refine Zu ?_ | refine Zz rfl rfl ?_ | (first | refine Zb rfl rfl (.inl rfl) rfl rfl ?_ | refine Zb rfl rfl (.inr rfl) rfl rfl ?_ | refine Za rfl rfl (.inl rfl) rfl ?_ | refine Za rfl rfl (.inr rfl) rfl ?_) | ((first | refine Zn rfl rfl rfl fun K hK => ?_ | refine Zh rfl rfl rfl fun K hK => ?_); go_simp; (try go_bits); (first | refine hK _ _ ?_ | refine hK _ ?_); clear hK K))
  refine W6 HL1.out plcZero rfl rfl rfl rfl ?_
  intro g7 w2 hg7 hb2 hL2
  have h2 := h1.below hb2
  have HL2 := Lib.hid hL2
  clear hg7 hb2 hL2 HL1 h1 t1 t2
  repeat (first | refine Zv ?_ | refine Zq ?_ | refine Zm ?_ | refine Zc ?_ | (first | refine Zb rfl rfl (.inl rfl) rfl rfl ?_ | refine Zb rfl rfl (.inr rfl) rfl rfl ?_ | refine Za rfl rfl (.inl rfl) rfl ?_ | refine Za rfl rfl (.inr rfl) rfl ?_))
  refine Z9 rfl rfl rfl Try.func34 rfl (by kernel_rfl) rfl ?_
  refine Calls.mono (all_any Q g f w2 h2) ?_
  rintro e w3 ⟨v, rfl, hO, hb3⟩
  refine ⟨_, rfl, ?_⟩
  have HL3 := Lib.hid (HL2.out.next hb3)
  clear h2 hb3 HL2
  obtain ⟨A, c, rfl, hpl, hlc, hc9⟩ := hO.pls
  have hpl2 := hpl
  have hgood := Vp f
  obtain ⟨l, hl⟩ : ∃ l, allP f = l := ⟨_, rfl⟩
  rw [hl] at hpl hlc hgood ⊢
  have HPL := Lib.hid hpl
  have HGD := Lib.hid hgood
  have HLL := Lib.hid hl
  obtain ⟨N, hN⟩ : ∃ N, l.length = N := ⟨_, rfl⟩
  rw [hN] at hlc ⊢
  have HN := Lib.hid hN
  clear hO hpl hpl2 hgood hl hN
  obtain ⟨bb, tb⟩ : ∃ bb, decide ((0 : Int) < (N : Int)) = bb := ⟨_, rfl⟩
  have tbn : decide (0 < N) = bb := by rw [← tb]; exact decide_eq_decide.2 (by omega)
  repeat (first | (first | refine Zb rfl rfl (.inl rfl) rfl rfl ?_ | refine Zb rfl rfl (.inr rfl) rfl rfl ?_ | refine Za rfl rfl (.inl rfl) rfl ?_ | refine Za rfl rfl (.inr rfl) rfl ?_) | refine Zq ?_ )
  refine Zm ?_
  refine Zv ?_
  refine Zc ?_
  repeat (first | (first | refine Zb rfl rfl (.inl rfl) rfl rfl ?_ | refine Zb rfl rfl (.inr rfl) rfl rfl ?_ | refine Za rfl rfl (.inl rfl) rfl ?_ | refine Za rfl rfl (.inr rfl) rfl ?_) | ((first | refine Zn rfl rfl rfl fun K hK => ?_ | refine Zh rfl rfl rfl fun K hK => ?_); go_simp; (try go_bits); (first | refine hK _ _ ?_ | refine hK _ ?_); clear hK K) | refine Zq ?_ )
  refine Zm ?_
  refine kw_cutq (fun L W => ∃ pl : Plc, Hid (pl.1.seq = (lastP f).1 ∧ pl.2 = (lastP f).2) ∧ Hid (pl.1.sum.length = 32) ∧ Hid (Lay w W [(g7, (plcC pl).toArray, 72), (g5, (bv sum).toArray, 29)]) ∧ L = [(0, .pointer (some ⟨g, 0, none⟩)), (1, .int .i64 slot), (5, .pointer (some ⟨g5, 0, none⟩)), (7, .pointer (some ⟨g7, 0, none⟩))]) ?_ ?_
  · cases l with
    | nil =>
      obtain rfl : N = 0 := by rw [← HN.out]; rfl
      obtain rfl : bb = false := by rw [← tb]; decide
      repeat (first | refine Zv ?_ | refine Zc ?_ | refine Zq ?_ | refine Zm ?_ | refine Zx rfl ?_ | refine Zu ?_ | (first | refine Zb rfl rfl (.inl rfl) rfl rfl ?_ | refine Zb rfl rfl (.inr rfl) rfl rfl ?_ | refine Za rfl rfl (.inl rfl) rfl ?_ | refine Za rfl rfl (.inr rfl) rfl ?_) | ((first | refine Zn rfl rfl rfl fun K hK => ?_ | refine Zh rfl rfl rfl fun K hK => ?_); go_simp; (try go_bits); (first | refine hK _ _ ?_ | refine hK _ ?_); clear hK K))
      refine YU [0, 1, 5, 7] ?_
      refine ⟨(entZ, 0), ?_, ZL, HL3, rfl⟩
      show _ ∧ _
      rw [lastP_nil HLL.out]
      exact ⟨rfl, rfl⟩
    | cons p l =>
      have hN0 : 0 < N := by rw [← HN.out]; simp
      obtain rfl : bb = true := by rw [← tbn]; exact decide_eq_true hN0
      have u1 : (0 : Int) < N := by omega
      have hps := HPL.out
      rw [HN.out] at hps
      obtain ⟨gA, oA, p', rfl, hra, hsm, _, hx2⟩ := hps.next (k := 0) hN0
      obtain rfl : p' = p := by have := hx2.out; simp at this; exact this.symm
      rw [Nat.zero_mul, Nat.add_zero] at hra
      have HRA := Lib.hid hra
      clear hps hra
      repeat (first | refine Zv ?_ | refine Zc ?_ | refine Zq ?_ | refine Zm ?_ | refine Zy rfl ?_ | refine Zu ?_ | (first | refine Zb rfl rfl (.inl rfl) rfl rfl ?_ | refine Zb rfl rfl (.inr rfl) rfl rfl ?_ | refine Za rfl rfl (.inl rfl) rfl ?_ | refine Za rfl rfl (.inr rfl) rfl ?_) | ((first | refine Zn rfl rfl rfl fun K hK => ?_ | refine Zh rfl rfl rfl fun K hK => ?_); go_simp; (try go_bits); (first | refine hK _ _ ?_ | refine hK _ ?_); clear hK K))
      refine Y8 72 gA oA _ _ HRA.out Try.underlying72 rfl (plcInfoL p' hsm) rfl rfl rfl rfl rfl ?_
      refine YL (cells := (plcC p').toArray) HL3.out 0 rfl (plcInfo p' hsm) (by rw [List.size_toArray, List.size_toArray, Xi (entZ, 0) ZL, Xi p' hsm]) (plc_one _) rfl rfl rfl rfl rfl (fun hL4 => ?_)
      refine Zq ?_
      refine YU [0, 1, 5, 7] ?_
      refine ⟨p', ?_, hsm, hL4, rfl⟩
      show _ ∧ _
      rw [lastP_cons HLL.out]
      exact ⟨rfl, rfl⟩
  clear HL3 HPL HGD HLL HN hlc tb tbn
  rintro L W ⟨pl, hp, hps, hL, rfl⟩
  obtain ⟨q, hq⟩ : ∃ q, (lastP f).1 = q := ⟨_, rfl⟩
  obtain ⟨sc, hsc⟩ : ∃ sc, (lastP f).2 = sc := ⟨_, rfl⟩
  have hp2 := hp.out
  rw [hq, hsc] at hp2
  rw [hq, hsc] at hbd
  have c0 := head_seq (hL.out.at_ 0 rfl)
  have c34 := head_sec (hL.out.at_ 0 rfl) hps.out
  rw [hp2.1] at c0
  rw [hp2.2] at c34
  have HSC := Lib.hid hsc
  have HC34 := Lib.hid c34
  have HG7 := Lib.hid (hL.out.ge 0 rfl)
  clear hp2 hp c34
  by_cases hov : 1073741824 ≤ q
  · have t3 : decide (1073741824 ≤ q) = true := decide_eq_true hov
    have HE := Lib.hid (mark_over (f := f) (sum := sum) HSL.out (by rw [hq]; exact hov))
    clear hov hbd
    repeat (first | refine Zv ?_ | refine Zs ?_ | refine Zu ?_ | refine Zc ?_ | refine Zq ?_ | refine Zm ?_ | refine Zp ?_ | refine Zw ?_ | refine Zf ?_ | refine Zd rfl ?_ | refine Zj rfl ?_ | refine Ze ?_ | refine Z3 ?_ | refine Zk ?_ | refine Zg ?_ | refine Zi ?_ | refine Zy rfl ?_ | refine Zx rfl ?_ | refine Zz rfl rfl ?_ | refine Zt rfl rfl rfl rfl ?_ | refine Zr rfl rfl rfl ?_ | (first | refine Zb rfl rfl (.inl rfl) rfl rfl ?_ | refine Zb rfl rfl (.inr rfl) rfl rfl ?_ | refine Za rfl rfl (.inl rfl) rfl ?_ | refine Za rfl rfl (.inr rfl) rfl ?_) | ((first | refine Zn rfl rfl rfl fun K hK => ?_ | refine Zh rfl rfl rfl fun K hK => ?_); go_simp; (try go_bits); (first | refine hK _ _ ?_ | refine hK _ ?_); clear hK K))
    exact ZE rfl rfl ⟨by rw [HE.out], by rw [HE.out]; exact h.below hL.out.below, Z8 hL.out.below _⟩
  have t3 : decide (1073741824 ≤ q) = false := decide_eq_false hov
  obtain ⟨q1, hq1⟩ : ∃ q1, q + 1 = q1 := ⟨_, rfl⟩
  have a1 : 0 ≤ q1 := by omega
  have a2 : q1 ≤ 1073741825 := by omega
  have HQ1 : Hid ((lastP f).1 + 1 = q1) := by show _ = _; rw [hq]; exact hq1
  have HNO : Hid (¬ 1073741824 ≤ (lastP f).1) := by show ¬ _; rw [hq]; exact hov
  have HQI : Hid (I64 q1) := by show I64 q1; unfold I64; omega
  have LG := hL.out
  clear hov hq
  repeat (first | refine Zv ?_ | refine Zc ?_ | refine Zq ?_ | refine Zm ?_ | refine Zx rfl ?_ | refine Zw ?_ | refine Zf ?_ | refine Zd rfl ?_ | refine Zu ?_ | (first | refine Zb rfl rfl (.inl rfl) rfl rfl ?_ | refine Zb rfl rfl (.inr rfl) rfl rfl ?_ | refine Za rfl rfl (.inl rfl) rfl ?_ | refine Za rfl rfl (.inr rfl) rfl ?_) | refine Wf LG 1 rfl Try.underlying29 rfl (hash_1 sum hs) rfl rfl rfl rfl rfl ?_ | refine Yr 31 _ (entC ⟨q1, slot, sum⟩).toArray rfl rfl rfl (by rfl) (by rfl) (entBuilt3 q1 slot sum hs) ?_ | ((first | refine Zn rfl rfl rfl fun K hK => ?_ | refine Zh rfl rfl rfl fun K hK => ?_); go_simp; (try go_bits); (first | refine hK _ _ ?_ | refine hK _ ?_); clear hK K))
  refine Z9 rfl rfl rfl Try.func35 rfl (by kernel_rfl) rfl ?_
  refine Calls.mono (eBytes_any ⟨q1, slot, sum⟩ _ hs HQI.out HSI.out) ?_
  rintro e w8 ⟨v8, rfl, ho8, hb8⟩
  refine ⟨_, rfl, ?_⟩
  have h8w := YP ho8 LG.below.size
  have hb08 := Z1 LG.below hb8 LG.below.size
  obtain ⟨A8, c8, rfl, hB8, hn8, hc8, haw⟩ := eb_own h8w
  have HAW : Hid (0 < 48 → Away g A8) := fun _ a e => by have := haw a e; omega
  have C8 := Lib.hid (Keeps.of_below hb8 _ _ HC34.out)
  obtain ⟨b, hbe⟩ : ∃ b, bytesE ⟨q1, slot, sum⟩ = b := ⟨_, rfl⟩
  rw [hbe] at hB8
  have HM := mark_go (f := f) (sum := sum) HSL.out HNO.out (q := q1) (s := sc) HQ1.out HSC.out
  rw [hbe] at HM
  obtain ⟨r1, hr1⟩ : ∃ r1, appendP f sc b = r1 := ⟨_, rfl⟩
  have HR1 := Lib.hid hr1
  have HM := Lib.hid HM
  have h8 := h.below hb08
  have HB8 := Lib.hid hB8
  have hg8 := Z8 hb08 (some g)
  clear hbe ho8 h8w haw hr1 hB8 hb8 hL LG
  have c34 := C8.out
  repeat (first | (first | refine Zb rfl rfl (.inl rfl) rfl rfl ?_ | refine Zb rfl rfl (.inr rfl) rfl rfl ?_ | refine Za rfl rfl (.inl rfl) rfl ?_ | refine Za rfl rfl (.inr rfl) rfl ?_) | ((first | refine Zn rfl rfl rfl fun K hK => ?_ | refine Zh rfl rfl rfl fun K hK => ?_); go_simp; (try go_bits); (first | refine hK _ _ ?_ | refine hK _ ?_); clear hK K) | refine Zq ?_ | refine Zm ?_ | refine Zv ?_ | refine Zc ?_)
  refine Z9 rfl rfl rfl Try.func36 rfl (by kernel_rfl) rfl ?_
  refine Calls.mono (append_any Q g hQ f sc A8 48 c8 b w8 h8 (by omega) HB8.out hn8 hc8) ?_
  rintro e w9 ⟨rfl, h9, hg9⟩
  refine ⟨_, rfl, ?_⟩
  rw [HR1.out] at h9 ⊢
  have HG9 := Lib.hid (Z0 hg8 hg9)
  have HB9 := Lib.hid (HB8.out.grownKeep0 hg9 HAW.out)
  have C9 := Lib.hid (hg9.cell C8.out (fun hh => by injection hh with hh; have := HG7.out; dsimp only at hh; omega))
  clear c34 C8
  clear h8 hg8 hg9 HB8
  obtain ⟨e1, f1⟩ := r1
  dsimp only at h9 ⊢
  by_cases h4 : e1 = 4
  case neg =>
    have t4 : (e1 != 4) = true := bne_iff_ne.2 h4
    have HW := Lib.hid (HM.out.trans (write_1 HR1.out h4))
    clear h4
    repeat (first | refine Zv ?_ | refine Zs ?_ | refine Zu ?_ | refine Zc ?_ | refine Zq ?_ | refine Zm ?_ | refine Zp ?_ | refine Zw ?_ | refine Zf ?_ | refine Zd rfl ?_ | refine Zj rfl ?_ | refine Ze ?_ | refine Z3 ?_ | refine Zk ?_ | refine Zg ?_ | refine Zi ?_ | refine Zy rfl ?_ | refine Zx rfl ?_ | refine Zz rfl rfl ?_ | refine Zt rfl rfl rfl rfl ?_ | refine Zr rfl rfl rfl ?_ | (first | refine Zb rfl rfl (.inl rfl) rfl rfl ?_ | refine Zb rfl rfl (.inr rfl) rfl rfl ?_ | refine Za rfl rfl (.inl rfl) rfl ?_ | refine Za rfl rfl (.inr rfl) rfl ?_) | ((first | refine Zn rfl rfl rfl fun K hK => ?_ | refine Zh rfl rfl rfl fun K hK => ?_); go_simp; (try go_bits); (first | refine hK _ _ ?_ | refine hK _ ?_); clear hK K))
    exact ZE rfl rfl ⟨by rw [HW.out], by rw [HW.out]; exact h9, HG9.out⟩
  subst h4
  have t4 : ((4 : Int) != 4) = false := rfl
  obtain ⟨os, hos⟩ : ∃ os, 1 - sc = os := ⟨_, rfl⟩
  have b1 : 0 ≤ os := by omega
  have b2 : os ≤ 1 := by omega
  obtain ⟨r2, hr2⟩ : ∃ r2, eraseF f1 (1 - sc) = r2 := ⟨_, rfl⟩
  have HR2 := Lib.hid hr2
  rw [hos] at hr2
  have HR2o := Lib.hid hr2
  clear hr2
  have c34 := C9.out
  repeat (first | refine Zv ?_ | refine Zc ?_ | refine Zq ?_ | refine Zm ?_ | refine Zx rfl ?_ | refine Zu ?_ | (first | refine Zb rfl rfl (.inl rfl) rfl rfl ?_ | refine Zb rfl rfl (.inr rfl) rfl rfl ?_ | refine Za rfl rfl (.inl rfl) rfl ?_ | refine Za rfl rfl (.inr rfl) rfl ?_) | ((first | refine Zn rfl rfl rfl fun K hK => ?_ | refine Zh rfl rfl rfl fun K hK => ?_); go_simp; (try go_bits); (first | refine hK _ _ ?_ | refine hK _ ?_); clear hK K))
  refine Z9 rfl rfl rfl Try.func37 rfl (by kernel_rfl) rfl ?_
  refine Calls.mono (Vc Q g hQ f1 os w9 h9) ?_
  rintro e w10 ⟨rfl, h10, hg10⟩
  refine ⟨_, rfl, ?_⟩
  rw [HR2o.out] at h10 ⊢
  have HG10 := Lib.hid (Z0 HG9.out hg10)
  have HB10 := Lib.hid (HB9.out.grownKeep0 hg10 HAW.out)
  clear c34 C9
  clear h9 hg10 HB9 HG9
  obtain ⟨e2, f2⟩ := r2
  dsimp only at h10 ⊢
  by_cases h0 : e2 = 0
  case neg =>
    have t5 : (e2 != 0) = true := bne_iff_ne.2 h0
    have HW := Lib.hid (HM.out.trans (write_2 HR1.out rfl HR2.out h0))
    clear h0
    repeat (first | refine Zv ?_ | refine Zs ?_ | refine Zu ?_ | refine Zc ?_ | refine Zq ?_ | refine Zm ?_ | refine Zp ?_ | refine Zw ?_ | refine Zf ?_ | refine Zd rfl ?_ | refine Zj rfl ?_ | refine Ze ?_ | refine Z3 ?_ | refine Zk ?_ | refine Zg ?_ | refine Zi ?_ | refine Zy rfl ?_ | refine Zx rfl ?_ | refine Zz rfl rfl ?_ | refine Zt rfl rfl rfl rfl ?_ | refine Zr rfl rfl rfl ?_ | (first | refine Zb rfl rfl (.inl rfl) rfl rfl ?_ | refine Zb rfl rfl (.inr rfl) rfl rfl ?_ | refine Za rfl rfl (.inl rfl) rfl ?_ | refine Za rfl rfl (.inr rfl) rfl ?_) | ((first | refine Zn rfl rfl rfl fun K hK => ?_ | refine Zh rfl rfl rfl fun K hK => ?_); go_simp; (try go_bits); (first | refine hK _ _ ?_ | refine hK _ ?_); clear hK K))
    exact ZE rfl rfl ⟨by rw [HW.out], by rw [HW.out]; exact h10, HG10.out⟩
  subst h0
  have t5 : ((0 : Int) != 0) = false := rfl
  obtain ⟨r3, hr3⟩ : ∃ r3, appendP f2 (1 - sc) b = r3 := ⟨_, rfl⟩
  have HR3 := Lib.hid hr3
  rw [hos] at hr3
  have HR3o := Lib.hid hr3
  clear hr3
  repeat (first | refine Zv ?_ | refine Zc ?_ | refine Zq ?_ | refine Zm ?_ | refine Zx rfl ?_ | refine Zu ?_ | (first | refine Zb rfl rfl (.inl rfl) rfl rfl ?_ | refine Zb rfl rfl (.inr rfl) rfl rfl ?_ | refine Za rfl rfl (.inl rfl) rfl ?_ | refine Za rfl rfl (.inr rfl) rfl ?_) | ((first | refine Zn rfl rfl rfl fun K hK => ?_ | refine Zh rfl rfl rfl fun K hK => ?_); go_simp; (try go_bits); (first | refine hK _ _ ?_ | refine hK _ ?_); clear hK K))
  refine Z9 rfl rfl rfl Try.func36 rfl (by kernel_rfl) rfl ?_
  refine Calls.mono (append_any Q g hQ f2 os A8 48 c8 b w10 h10 (by omega) HB10.out hn8 hc8) ?_
  rintro e w11 ⟨rfl, h11, hg11⟩
  refine ⟨_, rfl, ?_⟩
  rw [HR3o.out] at h11 ⊢
  have HW := Lib.hid (HM.out.trans (write_3 HR1.out rfl HR2.out rfl HR3.out))
  have HG11 := Lib.hid (Z0 HG10.out hg11)
  clear hg11
  repeat (first | refine Zv ?_ | refine Zs ?_ | refine Zu ?_ | refine Zc ?_ | refine Zq ?_ | refine Zm ?_ | refine Zp ?_ | refine Zw ?_ | refine Zf ?_ | refine Zd rfl ?_ | refine Zj rfl ?_ | refine Ze ?_ | refine Z3 ?_ | refine Zk ?_ | refine Zg ?_ | refine Zi ?_ | refine Zy rfl ?_ | refine Zx rfl ?_ | refine Zz rfl rfl ?_ | refine Zt rfl rfl rfl rfl ?_ | refine Zr rfl rfl rfl ?_ | (first | refine Zb rfl rfl (.inl rfl) rfl rfl ?_ | refine Zb rfl rfl (.inr rfl) rfl rfl ?_ | refine Za rfl rfl (.inl rfl) rfl ?_ | refine Za rfl rfl (.inr rfl) rfl ?_) | ((first | refine Zn rfl rfl rfl fun K hK => ?_ | refine Zh rfl rfl rfl fun K hK => ?_); go_simp; (try go_bits); (first | refine hK _ _ ?_ | refine hK _ ?_); clear hK K))
  exact ZE rfl rfl ⟨by rw [HW.out], by rw [HW.out]; exact h11, HG11.out⟩
end Go.Proofs.Ytkncomkncfcecaa
