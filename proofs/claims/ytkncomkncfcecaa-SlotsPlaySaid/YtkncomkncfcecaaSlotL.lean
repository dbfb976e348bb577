/- Store: the code's and the document's. Slots, plain: marks and stores while the power is on; what boots then. No program in sight. -/
import Derived.Test.YtkncomkncfcecaaSlotMark
import Derived.Test.YtkncomkncfcecaaSlotP
set_option linter.unusedVariables false
set_option linter.unusedSimpArgs false
namespace Go.Proofs.Ytkncomkncfcecaa
open Go.RowKit
attribute [local go_sem] Y1 Yl Yp ZT Yy Yo ZI ZO Yi ZN ZH ZU Ya
set_option maxRecDepth 100000 in
set_option maxHeartbeats 4000000 in
theorem store_any (Q : Nat → Prop) (g : Nat) (hQ : ∀ b, Q b → b ≠ g) (f : FlashSt) (slot : Int) (A : Option Addr) (n c : Nat) (b : List UInt8) (w : World) (h : FS Q w g f) (hsl : I64 slot) (hB : Bs w A n b) (haw : 0 < n → Away g A) (hn : n ≤ c) (hc9 : c ≤ 9223372036854775807) : Calls Try.prog 17 #[.pointer (some ⟨g, 0, none⟩), .int .i64 slot, .slice A n c] w (DoP FS Q g (storeP f slot b) w) := by
  unfold I64 at hsl
  have HB := Lib.hid hB
  have hbl := hB.len
  have HAW : Hid (0 < n → Away g A) := haw
  clear haw hB
  refine ZZ Try.func17 rfl Try.ntmps17 rfl [(0, .pointer (some ⟨g, 0, none⟩)), (1, .int .i64 slot), (2, .slice A n c)] rfl ?_
  by_cases d1 : slot < 0
  · have t1 : decide (slot < 0) = true := decide_eq_true d1
    have HE := Lib.hid (Vm (f := f) (b := b) (.inl d1))
    clear d1
    repeat (first | refine Zv ?_ | refine Zs ?_ | refine Zu ?_ | refine Zc ?_ | refine Zq ?_ | refine Zm ?_ | refine Zp ?_ | refine Zw ?_ | refine Zf ?_ | refine Zd rfl ?_ | refine Zj rfl ?_ | refine Ze ?_ | refine Z3 ?_ | refine Zk ?_ | refine Zg ?_ | refine Zi ?_ | refine Zy rfl ?_ | refine Zx rfl ?_ | refine Zz rfl rfl ?_ | refine Zt rfl rfl rfl rfl ?_ | refine Zr rfl rfl rfl ?_ | (first | refine Zb rfl rfl (.inl rfl) rfl rfl ?_ | refine Zb rfl rfl (.inr rfl) rfl rfl ?_ | refine Za rfl rfl (.inl rfl) rfl ?_ | refine Za rfl rfl (.inr rfl) rfl ?_) | ((first | refine Zn rfl rfl rfl fun K hK => ?_ | refine Zh rfl rfl rfl fun K hK => ?_); go_simp; (try go_bits); (first | refine hK _ _ ?_ | refine hK _ ?_); clear hK K))
    exact ZE rfl rfl ⟨by rw [HE.out], by rw [HE.out]; exact h, ZG w _⟩
  have t1 : decide (slot < 0) = false := decide_eq_false d1
  by_cases d2 : 2 ≤ slot
  · have t2 : decide (2 ≤ slot) = true := decide_eq_true (by omega)
    have HE := Lib.hid (Vm (f := f) (b := b) (.inr d2))
    clear d1 d2
    repeat (first | refine Zv ?_ | refine Zs ?_ | refine Zu ?_ | refine Zc ?_ | refine Zq ?_ | refine Zm ?_ | refine Zp ?_ | refine Zw ?_ | refine Zf ?_ | refine Zd rfl ?_ | refine Zj rfl ?_ | refine Ze ?_ | refine Z3 ?_ | refine Zk ?_ | refine Zg ?_ | refine Zi ?_ | refine Zy rfl ?_ | refine Zx rfl ?_ | refine Zz rfl rfl ?_ | refine Zt rfl rfl rfl rfl ?_ | refine Zr rfl rfl rfl ?_ | (first | refine Zb rfl rfl (.inl rfl) rfl rfl ?_ | refine Zb rfl rfl (.inr rfl) rfl rfl ?_ | refine Za rfl rfl (.inl rfl) rfl ?_ | refine Za rfl rfl (.inr rfl) rfl ?_) | ((first | refine Zn rfl rfl rfl fun K hK => ?_ | refine Zh rfl rfl rfl fun K hK => ?_); go_simp; (try go_bits); (first | refine hK _ _ ?_ | refine hK _ ?_); clear hK K))
    exact ZE rfl rfl ⟨by rw [HE.out], by rw [HE.out]; exact h, ZG w _⟩
  have t2 : decide (2 ≤ slot) = false := decide_eq_false (by omega)
  have HSL : Hid (¬ (slot < 0 ∨ 2 ≤ slot)) := by show ¬ _; omega
  by_cases d3 : 1000 < n
  · have t3 : decide ((1000 : Int) < (n : Int)) = true := decide_eq_true (by omega)
    have t3n : decide (1000 < n) = true := decide_eq_true d3
    have HE := Lib.hid (store_long (f := f) (b := b) HSL.out (by omega))
    clear d1 d2 d3
    repeat (first | refine Zv ?_ | refine Zs ?_ | refine Zu ?_ | refine Zc ?_ | refine Zq ?_ | refine Zm ?_ | refine Zp ?_ | refine Zw ?_ | refine Zf ?_ | refine Zd rfl ?_ | refine Zj rfl ?_ | refine Ze ?_ | refine Z3 ?_ | refine Zk ?_ | refine Zg ?_ | refine Zi ?_ | refine Zy rfl ?_ | refine Zx rfl ?_ | refine Zz rfl rfl ?_ | refine Zt rfl rfl rfl rfl ?_ | refine Zr rfl rfl rfl ?_ | (first | refine Zb rfl rfl (.inl rfl) rfl rfl ?_ | refine Zb rfl rfl (.inr rfl) rfl rfl ?_ | refine Za rfl rfl (.inl rfl) rfl ?_ | refine Za rfl rfl (.inr rfl) rfl ?_) | ((first | refine Zn rfl rfl rfl fun K hK => ?_ | refine Zh rfl rfl rfl fun K hK => ?_); go_simp; (try go_bits); (first | refine hK _ _ ?_ | refine hK _ ?_); clear hK K))
    exact ZE rfl rfl ⟨by rw [HE.out], by rw [HE.out]; exact h, ZG w _⟩
  have t3 : decide ((1000 : Int) < (n : Int)) = false := decide_eq_false (by omega)
  have t3n : decide (1000 < n) = false := decide_eq_false d3
  have HLN : Hid (¬ 1000 < b.length) := by show ¬ _; omega
  have d4 : 0 ≤ slot := by omega
  have d5 : slot ≤ 1 := by omega
  obtain ⟨sl2, hs2⟩ : ∃ sl2, 2 + slot = sl2 := ⟨_, rfl⟩
  have hsB : -9223372036854775808 ≤ sl2 ∧ sl2 ≤ 9223372036854775807 := by omega
  obtain ⟨r1, hr1⟩ : ∃ r1, eraseF f sl2 = r1 := ⟨_, rfl⟩
  have HR1 : Hid (eraseF f (2 + slot) = r1) := by show _ = _; rw [hs2]; exact hr1
  have HR1o := Lib.hid hr1
  have HS2 := Lib.hid hs2
  clear hr1 d1 d2 d3 hbl
  repeat (first | refine Zv ?_ | refine Zs ?_ | refine Zc ?_ | refine Zq ?_ | refine Zm ?_ | refine Zp ?_ | refine Zx rfl ?_ | refine Zu ?_ | refine Zz rfl rfl ?_ | refine Zt rfl rfl rfl rfl ?_ | (first | refine Zb rfl rfl (.inl rfl) rfl rfl ?_ | refine Zb rfl rfl (.inr rfl) rfl rfl ?_ | refine Za rfl rfl (.inl rfl) rfl ?_ | refine Za rfl rfl (.inr rfl) rfl ?_) | ((first | refine Zn rfl rfl rfl fun K hK => ?_ | refine Zh rfl rfl rfl fun K hK => ?_); go_simp; (try go_bits); (first | refine hK _ _ ?_ | refine hK _ ?_); clear hK K))
  refine Z9 rfl rfl rfl Try.func37 rfl (by kernel_rfl) rfl ?_
  refine Calls.mono (Vc Q g hQ f sl2 w h) ?_
  rintro e w2 ⟨rfl, h2, hg2⟩
  refine ⟨_, rfl, ?_⟩
  rw [HR1o.out] at h2 ⊢
  have HB2 := Lib.hid (HB.out.grownKeep0 hg2 HAW.out)
  have HG2 := Lib.hid hg2
  clear hg2 HB h
  obtain ⟨e1, f1⟩ := r1
  dsimp only at h2 ⊢
  by_cases h0 : e1 = 0
  case neg =>
    have t5 : (e1 != 0) = true := bne_iff_ne.2 h0
    have HW := Lib.hid (store_1 HSL.out HLN.out HR1.out h0)
    clear h0
    repeat (first | refine Zv ?_ | refine Zs ?_ | refine Zu ?_ | refine Zc ?_ | refine Zq ?_ | refine Zm ?_ | refine Zp ?_ | refine Zw ?_ | refine Zf ?_ | refine Zd rfl ?_ | refine Zj rfl ?_ | refine Ze ?_ | refine Z3 ?_ | refine Zk ?_ | refine Zg ?_ | refine Zi ?_ | refine Zy rfl ?_ | refine Zx rfl ?_ | refine Zz rfl rfl ?_ | refine Zt rfl rfl rfl rfl ?_ | refine Zr rfl rfl rfl ?_ | (first | refine Zb rfl rfl (.inl rfl) rfl rfl ?_ | refine Zb rfl rfl (.inr rfl) rfl rfl ?_ | refine Za rfl rfl (.inl rfl) rfl ?_ | refine Za rfl rfl (.inr rfl) rfl ?_) | ((first | refine Zn rfl rfl rfl fun K hK => ?_ | refine Zh rfl rfl rfl fun K hK => ?_); go_simp; (try go_bits); (first | refine hK _ _ ?_ | refine hK _ ?_); clear hK K))
    exact ZE rfl rfl ⟨by rw [HW.out], by rw [HW.out]; exact h2, HG2.out⟩
  subst h0
  have t5 : ((0 : Int) != 0) = false := rfl
  obtain ⟨r2, hr2⟩ : ∃ r2, appendP f1 sl2 b = r2 := ⟨_, rfl⟩
  have HR2o := Lib.hid hr2
  have HW : Hid (storeP f slot b = r2) := by
    show _ = _
    exact store_2 HSL.out HLN.out HR1.out rfl (by rw [HS2.out]; exact hr2)
  clear hr2
  repeat (first | refine Zv ?_ | refine Zc ?_ | refine Zq ?_ | refine Zm ?_ | refine Zx rfl ?_ | refine Zu ?_ | (first | refine Zb rfl rfl (.inl rfl) rfl rfl ?_ | refine Zb rfl rfl (.inr rfl) rfl rfl ?_ | refine Za rfl rfl (.inl rfl) rfl ?_ | refine Za rfl rfl (.inr rfl) rfl ?_) | ((first | refine Zn rfl rfl rfl fun K hK => ?_ | refine Zh rfl rfl rfl fun K hK => ?_); go_simp; (try go_bits); (first | refine hK _ _ ?_ | refine hK _ ?_); clear hK K))
  refine Z9 rfl rfl rfl Try.func36 rfl (by kernel_rfl) rfl ?_
  refine Calls.mono (append_any Q g hQ f1 sl2 A n c b w2 h2 hsB HB2.out hn hc9) ?_
  rintro e w3 ⟨rfl, h3, hg3⟩
  refine ⟨_, rfl, ?_⟩
  rw [HR2o.out] at h3 ⊢
  have HG3 := Lib.hid (Z0 HG2.out hg3)
  clear hg3
  repeat (first | refine Zv ?_ | refine Zs ?_ | refine Zu ?_ | refine Zc ?_ | refine Zq ?_ | refine Zm ?_ | refine Zp ?_ | refine Zw ?_ | refine Zf ?_ | refine Zd rfl ?_ | refine Zj rfl ?_ | refine Ze ?_ | refine Z3 ?_ | refine Zk ?_ | refine Zg ?_ | refine Zi ?_ | refine Zy rfl ?_ | refine Zx rfl ?_ | refine Zz rfl rfl ?_ | refine Zt rfl rfl rfl rfl ?_ | refine Zr rfl rfl rfl ?_ | (first | refine Zb rfl rfl (.inl rfl) rfl rfl ?_ | refine Zb rfl rfl (.inr rfl) rfl rfl ?_ | refine Za rfl rfl (.inl rfl) rfl ?_ | refine Za rfl rfl (.inr rfl) rfl ?_) | ((first | refine Zn rfl rfl rfl fun K hK => ?_ | refine Zh rfl rfl rfl fun K hK => ?_); go_simp; (try go_bits); (first | refine hK _ _ ?_ | refine hK _ ?_); clear hK K))
  exact ZE rfl rfl ⟨by rw [HW.out], by rw [HW.out]; exact h3, HG3.out⟩
end Go.Proofs.Ytkncomkncfcecaa
set_option linter.unusedVariables false
set_option linter.unusedSimpArgs false
namespace Go.Proofs.Ytkncomkncfcecaa
open Go.RowKit
theorem pagesE (e : EntS) (h : e.sum.length = 32) : pagesN (bytesE e).length = 4 := by rw [Wx e h]; rfl
theorem usedE : ∀ l : List EntS, (∀ e ∈ l, GoodE e) → usedP (l.map bytesE) = 4 * l.length
  | [], _ => rfl
  | e :: l, h => by
    rw [List.map_cons, usedP_cons, pagesE e (h e (by simp)).sum, usedE l (fun x hx => h x (by simp [hx])), List.length_cons]; omega
theorem entsR_back : ∀ l : List EntS, (∀ e ∈ l, GoodE e) → entsR (l.map bytesE) = l
  | [], _ => rfl
  | e :: l, h => by
    have h1 := parseE_back e (h e (by simp))
    have h2 := entsR_back l (fun x hx => h x (by simp [hx]))
    rw [entsR_eq] at h2 ⊢
    rw [List.map_cons, List.filterMap_cons, h1, h2]
    rfl
theorem secE_packed {f : FlashSt} {k : Int} {l : List EntS} (h : Packed (readF f k) (l.map bytesE)) (hg : ∀ e ∈ l, GoodE e) : secE f k = l := by
  unfold secE; rw [h.load]; exact entsR_back l hg
/-! ### the newest that counts -/
theorem fold_rise (c : EntS → Bool) (s : Int) (o : Option Plc) : ∀ (es : List EntS), (∀ p, o = some p → ∀ e ∈ es, p.1.seq < e.seq) → es.Pairwise (fun a b => a.seq < b.seq) →
    es.reverse.foldr (fun e o => optP c o (e, s)) o = (match es.reverse.find? c with | some e => some (e, s) | none => o) := by
  suffices h : ∀ (rs : List EntS), (∀ p, o = some p → ∀ e ∈ rs, p.1.seq < e.seq) → rs.Pairwise (fun a b => b.seq < a.seq) →
      rs.foldr (fun e o => optP c o (e, s)) o = (match rs.find? c with | some e => some (e, s) | none => o) from fun es h1 h2 =>
    h es.reverse (fun p hp e he => h1 p hp e (List.mem_reverse.1 he)) (List.pairwise_reverse.2 h2)
  intro rs
  induction rs with
  | nil => intro _ _; rfl
  | cons e rs ih =>
    intro h1 h2
    obtain ⟨h3, h4⟩ := List.pairwise_cons.1 h2
    have hi := ih (fun p hp x hx => h1 p hp x (by simp [hx])) h4
    rw [List.foldr_cons, hi, List.find?_cons]
    unfold optP
    dsimp only
    cases hc : c e with
    | false => rw [if_neg (by simp)]
    | true =>
      rw [if_pos rfl]
      cases hf : rs.find? c with
      | none =>
        dsimp only
        cases o with
        | none => rfl
        | some y =>
          have := h1 y rfl e (by simp)
          have hn : newerP (e, s) y = true := by rw [Yv]; exact .inl this
          simp [hn]
      | some z =>
        have := h3 z (List.mem_of_find?_eq_some hf)
        have hn : newerP (e, s) (z, s) = true := by rw [Yv]; exact .inl this
        simp [hn]
theorem Wy (c : EntS → Bool) (s : Int) (o : Option Plc) (es : List EntS) (h1 : ∀ p, o = some p → ∀ e ∈ es, p.1.seq < e.seq) (h2 : es.Pairwise (fun a b => a.seq < b.seq)) :
    es.foldl (fun o e => optP c o (e, s)) o = (match es.reverse.find? c with | some e => some (e, s) | none => o) := by
  rw [← fold_rise c s o es h1 h2, List.foldr_reverse]
theorem fold_elder (c : EntS → Bool) (s : Int) (p : Plc) : ∀ (es : List EntS), (∀ e ∈ es, e.seq < p.1.seq) → es.foldl (fun o e => optP c o (e, s)) (some p) = some p
  | [], _ => rfl
  | e :: es, h => by
    have h1 := h e (by simp)
    have hn : newerP (e, s) p = false := by
      rw [Bool.eq_false_iff]
      intro h
      rw [Yv] at h
      dsimp only at h
      omega
    have h2 : optP c (some p) (e, s) = some p := by
      unfold optP
      dsimp only
      rw [hn]
      split <;> rfl
    rw [List.foldl_cons, h2]
    exact fold_elder c s p es fun x hx => h x (by simp [hx])
def pickL (c : EntS → Bool) (s : Int) (old cur : List EntS) : Option Plc := match cur.reverse.find? c with
  | some e => some (e, s)
  | none => (old.reverse.find? c).map fun e => (e, 1 - s)
structure Secs (f : FlashSt) (n : Nat) (old cur : List EntS) : Prop where
  pcur : Packed (readF f (((n - 1) / 16 % 2 : Nat) : Int)) (cur.map bytesE)
  pold : Packed (readF f ((1 - (n - 1) / 16 % 2 : Nat) : Int)) (old.map bytesE)
  clen : (n = 0 ∧ cur.length = 0) ∨ (0 < n ∧ cur.length = (n - 1) % 16 + 1)
  olen : (n ≤ 16 ∧ old.length = 0) ∨ (16 < n ∧ old.length = 16)
  good : ∀ e ∈ old ++ cur, GoodE e
  rise : (old ++ cur).Pairwise fun a b => a.seq < b.seq
  top : ∀ e ∈ old ++ cur, e.seq ≤ (n : Int)
  last : 0 < n → ∃ (c : List EntS) (e : EntS), cur = c ++ [e] ∧ e.seq = (n : Int)
theorem Secs.pick {f : FlashSt} {n : Nat} {old cur : List EntS} (h : Secs f n old cur) (c : EntS → Bool) : (allP f).find? (fun p => c p.1) = pickL c (((n - 1) / 16 % 2 : Nat) : Int) old cur := by
  have hs : (n - 1) / 16 % 2 = 0 ∨ (n - 1) / 16 % 2 = 1 := by omega
  have hc := secE_packed h.pcur (fun e he => h.good e (by simp [he]))
  have ho := secE_packed h.pold (fun e he => h.good e (by simp [he]))
  obtain ⟨r1, r2, r3⟩ := List.pairwise_append.1 h.rise
  rw [allP_find]
  generalize (n - 1) / 16 % 2 = s at hs hc ho ⊢
  rcases hs with rfl | rfl
  · have e0 : secE f 0 = cur := hc
    have e1 : secE f 1 = old := ho
    rw [e0, e1, Wy c 0 none cur (by simp) r2]
    unfold pickL
    cases hf : cur.reverse.find? c with
    | some e =>
      dsimp only
      refine fold_elder c 1 (e, 0) old fun x hx => r3 x hx e ?_
      exact List.mem_reverse.1 (List.mem_of_find?_eq_some hf)
    | none =>
      dsimp only
      rw [Wy c 1 none old (by simp) r1]
      cases old.reverse.find? c <;> rfl
  · have e0 : secE f 0 = old := ho
    have e1 : secE f 1 = cur := hc
    rw [e0, e1, Wy c 0 none old (by simp) r1, Wy c 1 _ cur ?_ r2]
    · unfold pickL
      cases cur.reverse.find? c with
      | some e => rfl
      | none => cases old.reverse.find? c <;> rfl
    · intro p hp e he
      cases hf : old.reverse.find? c with
      | none => rw [hf] at hp; cases hp
      | some z =>
        rw [hf] at hp
        injection hp with hp
        subst hp
        exact r3 z (List.mem_reverse.1 (List.mem_of_find?_eq_some hf)) e he
def bootL (f : FlashSt) (l : List EntS) : EntS × List UInt8 := match l.reverse.find? (fun e => (imageP f e).2) with
  | some e => (e, (imageP f e).1)
  | none => (entF, [])
theorem Secs.boot {f : FlashSt} {n : Nat} {old cur : List EntS} (h : Secs f n old cur) : bootP f = bootL f (old ++ cur) := by
  unfold bootP bootL
  rw [h.pick (fun e => (imageP f e).2), List.reverse_append, List.find?_append]
  unfold pickL
  cases cur.reverse.find? (fun e => (imageP f e).2) with
  | some e => rfl
  | none => cases old.reverse.find? (fun e => (imageP f e).2) <;> rfl
theorem Secs.lastq {f : FlashSt} {n : Nat} {old cur : List EntS} (h : Secs f n old cur) : lastP f = ((n : Int), (((n - 1) / 16 % 2 : Nat) : Int)) := by
  have e1 : lastP f = ofM ((allP f).find? fun _ => true) := by
    unfold lastP
    cases allP f <;> rfl
  rw [e1, h.pick (fun _ => true)]
  unfold pickL
  by_cases hn : n = 0
  · subst hn
    have h1 : cur = [] := List.length_eq_zero_iff.1 (by have := h.clen; omega)
    have h2 : old = [] := List.length_eq_zero_iff.1 (by have := h.olen; omega)
    subst h1 h2
    rfl
  · obtain ⟨c, e, rfl, he⟩ := h.last (by omega)
    rw [List.reverse_append]
    show (e.seq, _) = _
    rw [he]
/-! ### stores and erasures -/
theorem read_erased (f : FlashSt) (k : Nat) (hS : f.S.length = 6144) (hk : k < 6) (f' : FlashSt) (hf : f'.S.length = 6144) (hat : ∀ i, i < 6144 → f'.S.getD i 0 = if k * 1024 ≤ i ∧ i < k * 1024 + 1024 then 255 else f.S.getD i 0) :
    Packed (readF f' k) [] ∧ ∀ j : Nat, j < 6 → j ≠ k → readF f' j = readF f j := by
  refine ⟨Packed.nil ?_, fun j hj hne => ?_⟩
  · apply List.ext_getElem?
    intro m
    rw [List.getElem?_replicate]
    by_cases hm : m < 1024
    · rw [Wl f' k hk hf m hm, hat _ (by omega), if_pos (by omega), if_pos hm]
    · rw [List.getElem?_eq_none (by rw [Xp f' k hk hf]; omega), if_neg hm]
  · apply List.ext_getElem?
    intro m
    by_cases hm : m < 1024
    · rw [Wl f' j hj hf m hm, Wl f j hj hS m hm, hat _ (by omega), if_neg (by omega)]
    · rw [List.getElem?_eq_none (by rw [Xp f' j hj hf]; omega), List.getElem?_eq_none (by rw [Xp f j hj hS]; omega)]
theorem erase_live (f : FlashSt) (hL : Live f) (k : Nat) (hk : k < 6) : ∃ f', eraseF f k = (0, f') ∧ Live f' ∧ f'.done = wrap64 (f.done + 1) ∧ Packed (readF f' k) [] ∧ ∀ j : Nat, j < 6 → j ≠ k → readF f' j = readF f j := by
  have hl : (doneE f k).S.length = 6144 := by rw [doneE_len]; exact hL.len
  have h := read_erased f k hL.len hk (doneE f k) hl (fun i hi => doneE_at f k i (by rw [hL.len]; exact hi))
  exact ⟨_, erase_ok f k hL.dead hL.left hk, ⟨rfl, rfl, hl⟩, rfl, h⟩
/-! ### a mark -/
theorem secs_new : Secs newF 0 [] [] := ⟨packed_new 0 (by omega), packed_new 1 (by omega), .inl ⟨rfl, rfl⟩, .inl ⟨by omega, rfl⟩, by simp, by simp, by simp, fun h => absurd h (by omega)⟩
theorem Secs.other {f f' : FlashSt} {n : Nat} {old cur : List EntS} (h : Secs f n old cur) (hr : ∀ i : Nat, i < 2 → readF f' i = readF f i) : Secs f' n old cur :=
  ⟨by rw [hr _ (by omega)]; exact h.pcur, by rw [hr _ (by omega)]; exact h.pold, h.clen, h.olen, h.good, h.rise, h.top, h.last⟩
theorem Secs.step1 {f f' : FlashSt} {n : Nat} {old cur : List EntS} {e : EntS} (h : Secs f n old cur) (hc : cur.length < 16) (hP : Packed (readF f' (((n - 1) / 16 % 2 : Nat) : Int)) (cur.map bytesE ++ [bytesE e]))
    (hO : readF f' ((1 - (n - 1) / 16 % 2 : Nat) : Int) = readF f ((1 - (n - 1) / 16 % 2 : Nat) : Int)) (hg : GoodE e) (he : e.seq = ((n + 1 : Nat) : Int)) : Secs f' (n + 1) old (cur ++ [e]) := by
  have hcl := h.clen
  have hol := h.olen
  have hs : (n + 1 - 1) / 16 % 2 = (n - 1) / 16 % 2 := by omega
  refine ⟨?_, ?_, ?_, ?_, ?_, ?_, ?_, fun _ => ⟨cur, e, rfl, he⟩⟩
  · rw [hs, List.map_append]; exact hP
  · rw [hs, hO]; exact h.pold
  · rw [List.length_append, List.length_singleton]; omega
  · omega
  · intro x hx
    rcases List.mem_append.1 (by rwa [← List.append_assoc] at hx) with hx | hx
    · exact h.good x hx
    · simp at hx; subst hx; exact hg
  · rw [← List.append_assoc]
    refine List.pairwise_append.2 ⟨h.rise, by simp, fun a ha b hb => ?_⟩
    simp at hb
    subst hb
    have := h.top a ha
    omega
  · intro x hx
    rcases List.mem_append.1 (by rwa [← List.append_assoc] at hx) with hx | hx
    · have := h.top x hx; omega
    · simp at hx; subst hx; omega
theorem Secs.step2 {f f' : FlashSt} {n : Nat} {old cur : List EntS} {e : EntS} (h : Secs f n old cur) (hc : cur.length = 16) (hP : Packed (readF f' ((1 - (n - 1) / 16 % 2 : Nat) : Int)) [bytesE e])
    (hO : readF f' (((n - 1) / 16 % 2 : Nat) : Int) = readF f (((n - 1) / 16 % 2 : Nat) : Int)) (hg : GoodE e) (he : e.seq = ((n + 1 : Nat) : Int)) : Secs f' (n + 1) cur [e] := by
  have hcl := h.clen
  have hn : n ≠ 0 ∧ n % 16 = 0 := by omega
  have hs : (n + 1 - 1) / 16 % 2 = 1 - (n - 1) / 16 % 2 := by omega
  have hs2 : 1 - (n + 1 - 1) / 16 % 2 = (n - 1) / 16 % 2 := by omega
  obtain ⟨_, r2, _⟩ := List.pairwise_append.1 h.rise
  refine ⟨?_, ?_, ?_, ?_, ?_, ?_, ?_, fun _ => ⟨[], e, rfl, he⟩⟩
  · rw [hs]; exact hP
  · rw [hs2, hO]; exact h.pcur
  · rw [List.length_singleton]; omega
  · omega
  · intro x hx
    rcases List.mem_append.1 hx with hx | hx
    · exact h.good x (by simp [hx])
    · simp at hx; subst hx; exact hg
  · refine List.pairwise_append.2 ⟨r2, by simp, fun a ha b hb => ?_⟩
    simp at hb
    subst hb
    have := h.top a (by simp [ha])
    omega
  · intro x hx
    rcases List.mem_append.1 hx with hx | hx
    · have := h.top x (by simp [hx]); omega
    · simp at hx; subst hx; omega
def Marks (f : FlashSt) (n : Nat) (l : List EntS) : Prop := ∃ old cur, l = old ++ cur ∧ Secs f n old cur
theorem marks_new : Marks newF 0 [] := ⟨[], [], rfl, secs_new⟩
theorem Marks.boot {f : FlashSt} {n : Nat} {l : List EntS} (h : Marks f n l) : bootP f = bootL f l := by
  obtain ⟨old, cur, rfl, h⟩ := h; exact h.boot
theorem Marks.other {f f' : FlashSt} {n : Nat} {l : List EntS} (h : Marks f n l) (hr : ∀ i : Nat, i < 2 → readF f' i = readF f i) : Marks f' n l := by
  obtain ⟨old, cur, hl, h⟩ := h; exact ⟨old, cur, hl, h.other hr⟩
theorem Marks.mark {f : FlashSt} {n : Nat} {l : List EntS} (h : Marks f n l) (hL : Live f) (hn : n < 1073741824) (slot : Int) (hsl : 0 ≤ slot ∧ slot ≤ 2) (sum : List UInt8) (hsum : sum.length = 32) :
    ∃ f' t, markP f slot sum = (0, f') ∧ Live f' ∧ Marks f' (n + 1) (l.drop t ++ [⟨((n + 1 : Nat) : Int), slot, sum⟩]) ∧ (n < 16 → t = 0) ∧ ∀ j : Nat, 2 ≤ j → j < 6 → readF f' j = readF f j := by
  obtain ⟨old, cur, rfl, h⟩ := h
  have hg : GoodE ⟨((n + 1 : Nat) : Int), slot, sum⟩ := ⟨by show 1 ≤ ((n + 1 : Nat) : Int) ∧ ((n + 1 : Nat) : Int) ≤ _; omega, hsl, hsum⟩
  have hgc : ∀ e ∈ cur, GoodE e := fun e he => h.good e (by simp [he])
  have hu := usedE cur hgc
  have hp := pagesE ⟨((n + 1 : Nat) : Int), slot, sum⟩ hsum
  have hb := Wx ⟨((n + 1 : Nat) : Int), slot, sum⟩ hsum
  have hm : markP f slot sum = writeP f (((n - 1) / 16 % 2 : Nat) : Int) (bytesE ⟨((n + 1 : Nat) : Int), slot, sum⟩) := by
    unfold markP
    rw [if_neg (by omega), h.lastq, if_neg (by dsimp only; omega)]
    rfl
  have hcl := h.clen
  have hol := h.olen
  by_cases hc : cur.length < 16
  · obtain ⟨f', ha, hL', hP', hr⟩ := WV f hL ((n - 1) / 16 % 2) (by omega) _ h.pcur (bytesE ⟨((n + 1 : Nat) : Int), slot, sum⟩) (by omega) (by omega)
    refine ⟨f', 0, ?_, hL', ⟨old, cur ++ [⟨((n + 1 : Nat) : Int), slot, sum⟩], by simp, h.step1 hc hP' (hr _ (by omega) (by omega)) hg rfl⟩, fun _ => rfl, fun j h2 h6 => hr j h6 (by omega)⟩
    rw [hm]
    unfold writeP
    rw [ha, if_pos (by simp)]
  · have hc16 : cur.length = 16 := by omega
    have ha := append_full f ((n - 1) / 16 % 2) (by omega) _ h.pcur (bytesE ⟨((n + 1 : Nat) : Int), slot, sum⟩) (by omega) (by omega)
    obtain ⟨f1, he, hL1, _, hP1, hr1⟩ := erase_live f hL (1 - (n - 1) / 16 % 2) (by omega)
    obtain ⟨f', ha2, hL', hP', hr⟩ := WV f1 hL1 (1 - (n - 1) / 16 % 2) (by omega) _ hP1 (bytesE ⟨((n + 1 : Nat) : Int), slot, sum⟩) (by omega) (by rw [hp]; decide)
    have hcast : ((1 - (n - 1) / 16 % 2 : Nat) : Int) = 1 - (((n - 1) / 16 % 2 : Nat) : Int) := by omega
    have hn : n ≠ 0 := by omega
    refine ⟨f', old.length, ?_, hL', ⟨cur, [⟨((n + 1 : Nat) : Int), slot, sum⟩], by rw [List.drop_left], h.step2 hc16 hP' (by rw [hr _ (by omega) (by omega), hr1 _ (by omega) (by omega)]) hg rfl⟩, fun hn16 => by omega, fun j h2 h6 => by rw [hr j h6 (by omega), hr1 j h6 (by omega)]⟩
    rw [hm]
    unfold writeP
    rw [ha, if_neg (by simp), ← hcast, he, if_neg (by simp)]
    exact ha2
/-! ### images -/
theorem image_two (f : FlashSt) (e : EntS) (h : e.slot = 2) : imageP f e = ([], true) := by unfold imageP; rw [if_pos h]
theorem bootL_last (f : FlashSt) (l : List EntS) (e : EntS) (h : (imageP f e).2 = true) : bootL f (l ++ [e]) = (e, (imageP f e).1) := by
  unfold bootL
  rw [List.reverse_append]
  show (match (e :: l.reverse).find? _ with | some e => _ | none => _) = _
  rw [List.find?_cons, h]
end Go.Proofs.Ytkncomkncfcecaa
