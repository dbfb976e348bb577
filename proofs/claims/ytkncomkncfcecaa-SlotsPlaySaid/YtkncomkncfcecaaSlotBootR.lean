/- entries and Boot, the document's. -/
import Derived.Test.YtkncomkncfcecaaSlotBytes
import Derived.Test.YtkncomkncfcecaaSlotAll
set_option linter.unusedVariables false
set_option linter.unusedSimpArgs false
namespace Go.Proofs.Ytkncomkncfcecaa
open Go.RowKit
attribute [local go_sem] Y1 Yl Yp ZT Yy Yo ZI ZO Yi ZN ZH ZU Ya
theorem rentBytes : (Try.prog.info? 59).map (fun i => (i.zero, i.size, i.bytes)) = some (some (.agg (entC entZ).toArray), 34, 48) := by kernel_rfl
theorem rentZ : (Value.agg (entC entZ).toArray).cells.size = 34 := by
  show (entC entZ).toArray.size = 34
  rw [List.size_toArray, ZR _ ZL]
def flatE (l : List EntS) : List Value := (l.map entC).flatten
theorem flatE_cons (p : EntS) (l : List EntS) : flatE (p :: l) = entC p ++ flatE l := rfl
theorem flatE_append (l m : List EntS) : flatE (l ++ m) = flatE l ++ flatE m := by simp [flatE]
theorem flatE_at : ∀ (l : List EntS) (i : Nat) (p : EntS), (∀ p ∈ l, p.sum.length = 32) → l[i]? = some p → ∀ j u, (entC p)[j]? = some u → (flatE l)[i * 34 + j]? = some u
  | [], i, p, _, hi, _, _, _ => by simp at hi
  | q :: l, i, p, h, hi, j, u, hu => by
    have hj := (List.getElem?_eq_some_iff.1 hu).1
    have hq := ZR q (h q (by simp))
    rw [flatE_cons]
    cases i with
    | zero =>
      simp at hi
      subst hi
      rw [Nat.zero_mul, Nat.zero_add, List.getElem?_append_left hj]; exact hu
    | succ i =>
      rw [List.getElem?_append_right (by omega), show (i + 1) * 34 + j - (entC q).length = i * 34 + j by omega]
      exact flatE_at l i p (fun r hr => h r (by simp [hr])) (by simpa using hi) j u hu
structure OwnEn (w : World) (base : Nat) (v : Value) (l : List EntS) : Prop where
  own : w.ownsRow base 59 34 v l.length (flatE l)
  sums : ∀ p ∈ l, p.sum.length = 32
theorem OwnEn.nil (w : World) (base : Nat) : OwnEn w base (.slice none 0 0) [] := ⟨World.ownsRow_nil _ _ _ _, by simp⟩
theorem OwnEn.below {w w' : World} {base : Nat} {v : Value} {l : List EntS} (h : OwnEn w base v l) (hb : Below w.heap.size w w') : OwnEn w' base v l := ⟨Yx h.own hb, h.sums⟩
structure EnS (w : World) (A : Option Addr) (n : Nat) (l : List EntS) : Prop where
  len : l.length = n
  at_ : 0 < n → ∃ g o, A = some ⟨g, o, none⟩ ∧ ∀ i p, l[i]? = some p → w.rangeAt g (o + i * 34) (entC p)
  sums : ∀ p ∈ l, p.sum.length = 32
theorem EnS.below {w w' : World} {A : Option Addr} {n : Nat} {l : List EntS} (h : EnS w A n l) (hb : Below w.heap.size w w') : EnS w' A n l :=
  ⟨h.len, fun hn => by obtain ⟨g, o, e, hc⟩ := h.at_ hn; exact ⟨g, o, e, fun i p hp => YC (hc i p hp) hb⟩, h.sums⟩
theorem EnS.next {w : World} {A : Option Addr} {n k : Nat} {l : List EntS} (h : EnS w A n l) (hk : k < n) :
    ∃ g o p, A = some ⟨g, o, none⟩ ∧ w.rangeAt g (o + k * 34) (entC p) ∧ p.sum.length = 32 ∧ Hid (l.take (k + 1) = l.take k ++ [p]) ∧ Hid (l[k]? = some p) := by
  obtain ⟨g, o, e, hc⟩ := h.at_ (by omega)
  have hl : k < l.length := by rw [h.len]; exact hk
  exact ⟨g, o, l[k], e, hc k _ (List.getElem?_eq_getElem hl), h.sums _ (List.getElem_mem hl), Xy hl, List.getElem?_eq_getElem hl⟩
theorem EnS.other {w w' : World} {A : Option Addr} {n g4 : Nat} {l : List EntS} (h : EnS w A n l) (hg : w.grownBy w' (some g4)) (hne : ∀ a, A = some a → a.block ≠ g4) : EnS w' A n l :=
  ⟨h.len, fun hn => by
    obtain ⟨g, o, e, hc⟩ := h.at_ hn
    exact ⟨g, o, e, fun i p hp j u hu => hg.cell (hc i p hp j u hu) (fun hh => hne _ e (by injection hh))⟩, h.sums⟩
theorem OwnEn.ens {w : World} {base : Nat} {v : Value} {l : List EntS} (h : OwnEn w base v l) : ∃ A c, v = .slice A l.length c ∧ EnS w A l.length l ∧ l.length ≤ c ∧ c ≤ 9223372036854775807 ∧ ∀ a, A = some a → base ≤ a.block ∧ ∃ cs, w.heap[a.block]? = some (.cells cs 59 (0, 0)) := by
  have ho := h.own
  rcases h.own.2 with ⟨h1, h2⟩ | ⟨g, cap, cur, h1, h2, h3, h4, h5, _⟩
  · exact ⟨none, 0, by rw [h1, h2], ⟨rfl, fun hn => absurd hn (by omega), h.sums⟩, by omega, by omega, fun a e => by cases e⟩
  · subst h1
    refine ⟨_, cap, rfl, ⟨rfl, fun _ => ⟨g, 0, rfl, fun i p hp => ?_⟩, h.sums⟩, h4, by simpa [maxLen] using h5, fun a e => by injection e with e; subst e; exact ⟨h2, _, h3⟩⟩
    rw [Nat.zero_add]
    exact own_mid ho i _ (flatE_at l i p h.sums hp)
theorem OwnEn.snoc {w' : World} {base : Nat} {v' : Value} {x : EntS} {l : List EntS} (hs : ∀ p ∈ l, p.sum.length = 32) (hx : x.sum.length = 32) (h : w'.ownsRow base 59 34 v' (l.length + 1) (flatE l ++ entC x)) : OwnEn w' base v' (l ++ [x]) := by
  refine ⟨?_, fun p hp => ?_⟩
  · rw [List.length_append, flatE_append]
    have : flatE [x] = entC x := by simp [flatE]
    rw [this]; exact h
  · rcases List.mem_append.1 hp with hp | hp
    · exact hs p hp
    · simp at hp; subst hp; exact hx
def EntsP (f : FlashSt) (s : Int) (w : World) (r : Ending) (w' : World) : Prop := ∃ v, r = .returned v ∧ OwnEn w' w.heap.size v (secE f s) ∧ Below w.heap.size w w'
set_option maxRecDepth 100000 in
set_option maxHeartbeats 8000000 in
theorem entries_any (Q : Nat → Prop) (g : Nat) (f : FlashSt) (s : Int) (w : World) (h : RF Q w g f) (hs0 : -9223372036854775808 ≤ s ∧ s ≤ 9223372036854775807) : Calls Try.prog 45 #[.pointer (some ⟨g, 0, none⟩), .int .i64 s] w (EntsP f s w) := by
  refine ZZ Try.func45 rfl Try.ntmps45 rfl [(0, .pointer (some ⟨g, 0, none⟩)), (1, .int .i64 s)] rfl ?_
  repeat (first | refine Zv ?_ | refine Zs ?_ | refine Zu ?_ | refine Zc ?_ | refine Zq ?_ | refine Zm ?_ | refine Zp ?_ | refine Zw ?_ | refine Zf ?_ | refine Zd rfl ?_ | refine Zj rfl ?_ | refine Ze ?_ | refine Z3 ?_ | refine Zk ?_ | refine Zg ?_ | refine Zi ?_ | refine Zy rfl ?_ | refine Zx rfl ?_ | refine Zz rfl rfl ?_ | refine Zt rfl rfl rfl rfl ?_ | refine Zr rfl rfl rfl ?_ | (first | refine Zb rfl rfl (.inl rfl) rfl rfl ?_ | refine Zb rfl rfl (.inr rfl) rfl rfl ?_ | refine Za rfl rfl (.inl rfl) rfl ?_ | refine Za rfl rfl (.inr rfl) rfl ?_) | ((first | refine Zn rfl rfl rfl fun K hK => ?_ | refine Zh rfl rfl rfl fun K hK => ?_); go_simp; (try go_bits); (first | refine hK _ _ ?_ | refine hK _ ?_); clear hK K))
  refine Z9 rfl rfl rfl Try.func66 rfl (by kernel_rfl) rfl ?_
  refine Calls.mono (loadR_any Q g f s w h hs0) ?_
  rintro e w3 ⟨A2, n2, c2, rfl, hp2, hn2, hc2, hb3⟩
  refine ⟨_, rfl, ?_⟩
  obtain ⟨R, hR⟩ : ∃ R, (loadR (readF f s)).1 = R := ⟨_, rfl⟩
  have hshort := XV (readF f s)
  have hcnt := loadR_cnt (readF f s)
  rw [hR] at hp2 hshort hcnt
  have HR : Hid (secE f s = entsR R) := by show _ = _; rw [← hR]; rfl
  have HS := Lib.hid hshort
  have hl2 := hp2.len
  have hn64 : n2 ≤ 64 := by omega
  have HP2 := Lib.hid hp2
  have HB3 := Lib.hid hb3
  clear hR hshort hcnt hp2 hb3
  repeat (first | refine Zv ?_ | refine Zc ?_ | refine Zq ?_ | refine Zm ?_ | (first | refine Zb rfl rfl (.inl rfl) rfl rfl ?_ | refine Zb rfl rfl (.inr rfl) rfl rfl ?_ | refine Za rfl rfl (.inl rfl) rfl ?_ | refine Za rfl rfl (.inr rfl) rfl ?_) | ((first | refine Zn rfl rfl rfl fun K hK => ?_ | refine Zh rfl rfl rfl fun K hK => ?_); go_simp; (try go_bits); (first | refine hK _ _ ?_ | refine hK _ ?_); clear hK K))
  refine KW.less [5, 6, 8] ?_
  simp only [nrm, lk, Nat.reduceBEq, cond_true, cond_false]
  refine Zs ?_
  refine Yw (fun mm L W => ∃ k v, k ≤ n2 ∧ mm = n2 - k ∧ Hid (Below w3.heap.size w3 W) ∧ Hid (OwnEn W w3.heap.size v (entsR (R.take k))) ∧ L = [(5, v), (6, .slice A2 n2 c2), (8, .int .i64 (k : Int))]) ⟨0, .slice none 0 0, by omega, rfl, Below.refl _ _, OwnEn.nil _ _, rfl⟩ ?_
  rintro mm L W ⟨k, v, hk, rfl, hb, hO, rfl⟩
  by_cases hkn : k < n2
  case neg =>
    obtain rfl : k = n2 := by omega
    have t1 : decide ((k : Int) < (k : Int)) = false := by simp
    have t1n : decide (k < k) = false := by simp
    have HO4 : Hid (OwnEn W w.heap.size v (secE f s)) := by
      have h1 := hO.out
      rw [List.take_of_length_le (by omega), ← HR.out] at h1
      exact ⟨YP h1.own HB3.out.size, h1.sums⟩
    clear hkn hO
    repeat (first | refine Zv ?_ | refine Zs ?_ | refine Zu ?_ | refine Zc ?_ | refine Zq ?_ | refine Zm ?_ | refine Zp ?_ | refine Zw ?_ | refine Zf ?_ | refine Zd rfl ?_ | refine Zj rfl ?_ | refine Ze ?_ | refine Z3 ?_ | refine Zk ?_ | refine Zg ?_ | refine Zi ?_ | refine Zy rfl ?_ | refine Zx rfl ?_ | refine Zz rfl rfl ?_ | refine Zt rfl rfl rfl rfl ?_ | refine Zr rfl rfl rfl ?_ | (first | refine Zb rfl rfl (.inl rfl) rfl rfl ?_ | refine Zb rfl rfl (.inr rfl) rfl rfl ?_ | refine Za rfl rfl (.inl rfl) rfl ?_ | refine Za rfl rfl (.inr rfl) rfl ?_) | ((first | refine Zn rfl rfl rfl fun K hK => ?_ | refine Zh rfl rfl rfl fun K hK => ?_); go_simp; (try go_bits); (first | refine hK _ _ ?_ | refine hK _ ?_); clear hK K))
    exact ZE rfl rfl ⟨v, rfl, HO4.out, Z1 HB3.out hb.out HB3.out.size⟩
  have t1 : decide ((k : Int) < (n2 : Int)) = true := by rw [decide_eq_true_eq]; omega
  have t1n : decide (k < n2) = true := decide_eq_true hkn
  have u0 : (0 : Int) ≤ k := by omega
  have u1 : (k : Int) < n2 := by omega
  obtain ⟨nk, hnk⟩ : ∃ nk, k + 1 = nk := ⟨_, rfl⟩
  have i3 : (k : Int) + 1 = (nk : Int) := by omega
  have i4 : (0 : Int) ≤ nk := by omega
  have i5 : (nk : Int) ≤ 65 := by omega
  have HNK := Lib.hid (And.intro hnk hkn)
  obtain ⟨bA, oA, Bk, mk, ck, rk, rfl, hcell0, hBk, hmk, hck, hx1, hx2⟩ := HP2.out.next hkn
  have hcell := Keeps.of_below hb.out _ _ hcell0
  have hrk : rk.length ≤ 65535 := HS.out rk (List.mem_of_getElem? hx2.out)
  have hbl := hBk.len
  have HBK := Lib.hid (hBk.keep (Keeps.of_below hb.out))
  clear hnk hBk hcell0
  repeat (first | refine Zv ?_ | refine Zs ?_ | refine Zc ?_ | refine Zq ?_ | refine Zm ?_ | refine Zy rfl ?_ | refine Zu ?_ | (first | refine Zb rfl rfl (.inl rfl) rfl rfl ?_ | refine Zb rfl rfl (.inr rfl) rfl rfl ?_ | refine Za rfl rfl (.inl rfl) rfl ?_ | refine Za rfl rfl (.inr rfl) rfl ?_) | ((first | refine Zn rfl rfl rfl fun K hK => ?_ | refine Zh rfl rfl rfl fun K hK => ?_); go_simp; (try go_bits); (first | refine hK _ _ ?_ | refine hK _ ?_); clear hK K))
  refine Z9 rfl rfl rfl Try.func70 rfl (by kernel_rfl) rfl ?_
  refine Calls.mono (rparseE_any Bk mk ck rk W HBK.out (by omega) hmk hck) ?_
  rintro e w5 ⟨rfl, hb5⟩
  refine ⟨_, rfl, ?_⟩
  have HO5 := Lib.hid (hO.out.below hb5)
  have HB5 := Lib.hid (Z1 hb.out hb5 hb.out.size)
  have hsum := parseE_len rk
  have hpk : entsR (R.take nk) = entsR (R.take k) ++ (pickE (parseE rk)).toList := by rw [← HNK.out.1, hx1.out, entsR_snoc]
  obtain ⟨⟨e, er⟩, hpe⟩ : ∃ r, parseE rk = r := ⟨_, rfl⟩
  rw [hpe] at hsum hpk ⊢
  dsimp only at hsum ⊢
  have HPK := Lib.hid hpk
  have HSUM := Lib.hid hsum
  clear hO hb hb5 hcell HBK hpe hpk hsum t1 t1n
  repeat (first | (first | refine Zb rfl rfl (.inl rfl) rfl rfl ?_ | refine Zb rfl rfl (.inr rfl) rfl rfl ?_ | refine Za rfl rfl (.inl rfl) rfl ?_ | refine Za rfl rfl (.inr rfl) rfl ?_) | ((first | refine Zn rfl rfl rfl fun K hK => ?_ | refine Zh rfl rfl rfl fun K hK => ?_); go_simp; (try go_bits); (first | refine hK _ _ ?_ | refine hK _ ?_); clear hK K))
  refine XH (z := (entC entZ).toArray) (cells := (entC e).toArray) (Lay.start w5) rentZero (rentInfo e HSUM.out) (by rw [List.size_toArray, List.size_toArray, ZR entZ ZL, ZR e HSUM.out]) (Yu e) rfl rfl rfl rfl rfl rfl rfl rfl rfl ?_
  intro g9 w6 hg9 hb6 L6
  have HO6 := Lib.hid (HO5.out.below hb6)
  have HB6 := Lib.hid (Z1 HB5.out hb6 HB5.out.size)
  have L6 := Lib.hid L6
  clear HO5 HB5 hb6 hg9
  by_cases her : er = 0
  case neg =>
    have t2 : (er == 0) = false := beq_eq_false_iff_ne.2 her
    have HO7 : Hid (OwnEn w6 w3.heap.size v (entsR (R.take nk))) := by
      have h1 := HPK.out
      unfold pickE at h1
      rw [if_neg her] at h1
      show OwnEn _ _ _ _
      rw [h1]
      simp only [Option.toList_none, List.append_nil]
      exact HO6.out
    clear her HO6
    repeat (first | refine Zv ?_ | refine Zc ?_ | refine Zq ?_ | refine Zm ?_ | refine Zp ?_ | refine Zx rfl ?_ | refine Zu ?_ | (first | refine Zb rfl rfl (.inl rfl) rfl rfl ?_ | refine Zb rfl rfl (.inr rfl) rfl rfl ?_ | refine Za rfl rfl (.inl rfl) rfl ?_ | refine Za rfl rfl (.inr rfl) rfl ?_) | ((first | refine Zn rfl rfl rfl fun K hK => ?_ | refine Zh rfl rfl rfl fun K hK => ?_); go_simp; (try go_bits); (first | refine hK _ _ ?_ | refine hK _ ?_); clear hK K))
    refine Yk (n2 - nk) [5, 6, 8] (by have := HNK.out; omega) ?_
    exact ⟨nk, v, by have := HNK.out; omega, rfl, HB6, HO7, rfl⟩
  subst her
  have t2 : ((0 : Int) == 0) = true := rfl
  have LG := L6.out
  repeat (first | refine Zv ?_ | refine Zc ?_ | refine Zq ?_ | refine Zm ?_ | refine Zy rfl ?_ | refine Zu ?_ | (first | refine Zb rfl rfl (.inl rfl) rfl rfl ?_ | refine Zb rfl rfl (.inr rfl) rfl rfl ?_ | refine Za rfl rfl (.inl rfl) rfl ?_ | refine Za rfl rfl (.inr rfl) rfl ?_) | refine Wf LG 0 rfl Try.underlying59 rfl (rentInfo e HSUM.out) rfl rfl rfl rfl rfl ?_ | ((first | refine Zn rfl rfl rfl fun K hK => ?_ | refine Zh rfl rfl rfl fun K hK => ?_); go_simp; (try go_bits); (first | refine hK _ _ ?_ | refine hK _ ?_); clear hK K))
  refine XO (z := entC entZ) (cs := entC e) Try.underlying91 rentZero rentSize (ZR e HSUM.out) (by omega) (by omega) rfl rfl rfl rfl rfl ?_
  obtain ⟨l, hl⟩ : ∃ l, entsR (R.take k) = l := ⟨_, rfl⟩
  rw [hl] at HO6
  have HNX : Hid (entsR (R.take nk) = l ++ [e]) := by
    show _ = _
    have h1 := HPK.out
    unfold pickE at h1
    rw [if_pos rfl] at h1
    rw [h1]
    simp only [Option.toList_some]
    rw [hl]
  have hll : l.length ≤ 64 := by
    rw [← hl]
    have h2 := entsR_len (R.take k)
    rw [List.length_take] at h2
    omega
  obtain ⟨w9, hw9⟩ : ∃ w9, w9 = w6.alloc (.cells (entC e).toArray 59) := ⟨_, rfl⟩
  have hb9 : Below w6.heap.size w6 w9 := by rw [hw9]; exact (Below.refl _ _).alloc (Nat.le_refl _) _
  have hvb : w9.rangeAt w6.heap.size 0 (entC e) := by rw [hw9]; exact rangeAt_new w6 (entC e).toArray _ _ rfl
  rw [← hw9]
  have hO9 := HO6.out.below hb9
  have HB9 := Lib.hid (Z1 HB6.out hb9 HB6.out.size)
  clear HO6 HB6 hb9 hw9 LG L6 hl
  refine kl_appendN 91 59 _ 34 48 Try.underlying91 rentBytes rentZ (by omega) w3.heap.size v l.length (flatE l) hO9.own w6.heap.size 0 1 1 (entC e) (by rw [ZR e HSUM.out]) hvb (ent_one' e) (by omega) (by omega) HB9.out.size rfl rfl rfl rfl rfl rfl ?_
  intro v10 w10 ho10 hg10 _
  have HO10 : Hid (OwnEn w10 w3.heap.size v10 (entsR (R.take nk))) := by
    show OwnEn _ _ _ _
    rw [HNX.out]
    exact OwnEn.snoc hO9.sums HSUM.out ho10
  have HB10 := Lib.hid (Vi HB9.out hg10 hO9.own HB9.out.size)
  clear HB9 hO9 ho10 hg10 hvb hll
  repeat (first | refine Zv ?_ | refine Zc ?_ | refine Zq ?_ | refine Zm ?_ | refine Zp ?_ | (first | refine Zb rfl rfl (.inl rfl) rfl rfl ?_ | refine Zb rfl rfl (.inr rfl) rfl rfl ?_ | refine Za rfl rfl (.inl rfl) rfl ?_ | refine Za rfl rfl (.inr rfl) rfl ?_) | ((first | refine Zn rfl rfl rfl fun K hK => ?_ | refine Zh rfl rfl rfl fun K hK => ?_); go_simp; (try go_bits); (first | refine hK _ _ ?_ | refine hK _ ?_); clear hK K))
  refine Yk (n2 - nk) [5, 6, 8] (by have := HNK.out; omega) ?_
  exact ⟨nk, v10, by have := HNK.out; omega, rfl, HB10, HO10, rfl⟩
def bootK (f : FlashSt) : Nat → EntS × List UInt8
  | 0 => (entF, [])
  | 1 => boot0 f
  | _ => bootR f
theorem bootK_next (f : FlashSt) (s : Nat) (hs : s < 2) : (secE f (s : Int)).foldl (stepB f (decide (s = 1) && decide (0 < (bootK f s).1.seq)) (bootK f s).1.seq) (bootK f s) = bootK f (s + 1) := by
  rcases (by omega : s = 0 ∨ s = 1) with rfl | rfl
  · rfl
  · have : decide (1 = 1) = true := rfl
    rw [this, Bool.true_and]
    rfl
theorem stepB_skip (f : FlashSt) (first : Bool) (was : Int) (st : EntS × List UInt8) (e : EntS) (h : (decide (e.seq < st.1.seq) || (first && decide (e.seq = was))) = true) : stepB f first was st e = st := by unfold stepB; rw [if_pos h]
theorem stepB_no (f : FlashSt) (first : Bool) (was : Int) (st : EntS × List UInt8) (e : EntS) (h : (decide (e.seq < st.1.seq) || (first && decide (e.seq = was))) = false) (hi : (imageP f e).2 = false) : stepB f first was st e = st := by unfold stepB; rw [h, hi]; simp
theorem stepB_yes (f : FlashSt) (first : Bool) (was : Int) (st : EntS × List UInt8) (e : EntS) (h : (decide (e.seq < st.1.seq) || (first && decide (e.seq = was))) = false) (hi : (imageP f e).2 = true) : stepB f first was st e = (e, (imageP f e).1) := by unfold stepB; rw [h, hi]; simp
set_option maxRecDepth 100000 in
set_option maxHeartbeats 8000000 in
theorem bootR_any (Q : Nat → Prop) (g : Nat) (f : FlashSt) (w : World) (h : RF Q w g f) : Calls Try.prog 27 #[.pointer (some ⟨g, 0, none⟩)] w (BootP f w) := by
  refine ZZ Try.func27 rfl Try.ntmps27 rfl [(0, .pointer (some ⟨g, 0, none⟩))] rfl ?_
  refine Zv ?_
  refine Zc ?_
  refine W6 (Lay.start w) rentZero rfl rfl rfl rfl ?_
  intro g2 w1 hg2 hb1 hL1
  have h1 := h.below hb1
  clear hg2 hb1
  repeat (first | refine Zv ?_ | refine Zc ?_ | refine Zq ?_ | refine Zm ?_ | (first | refine Zb rfl rfl (.inl rfl) rfl rfl ?_ | refine Zb rfl rfl (.inr rfl) rfl rfl ?_ | refine Za rfl rfl (.inl rfl) rfl ?_ | refine Za rfl rfl (.inr rfl) rfl ?_) | refine Yr 59 _ (entC entF).toArray rfl rfl rfl (by rfl) (by rfl) rentBuiltF ?_)
  refine XH (z := (entC entZ).toArray) (cells := (entC entF).toArray) hL1 rentZero (rentInfo entF entF_len) rfl (Yu entF) rfl rfl rfl rfl rfl rfl rfl rfl rfl ?_
  intro g4 w2 hg4 hb2 hL2
  have h2 := h1.below hb2
  clear hg4 hb2 hL1 h1
  repeat (first | refine Zv ?_ | refine Zc ?_ | refine Zq ?_ | refine Zm ?_ | (first | refine Zb rfl rfl (.inl rfl) rfl rfl ?_ | refine Zb rfl rfl (.inr rfl) rfl rfl ?_ | refine Za rfl rfl (.inl rfl) rfl ?_ | refine Za rfl rfl (.inr rfl) rfl ?_))
  refine KW.less [0, 2, 4, 5, 6] ?_
  simp only [nrm, lk, Nat.reduceBEq, cond_true, cond_false]
  refine Zs ?_
  refine Yw (fun mm L W => ∃ s A n c, s ≤ 2 ∧ mm = 2 - s ∧ Hid (Lay w W [(g4, (entC (bootK f s).1).toArray, 59), (g2, (entC entZ).toArray, 59)]) ∧ Hid (RF Q W g f) ∧ Hid (Bs W A n (bootK f s).2 ∧ TyB W A ∧ n ≤ c ∧ c ≤ 9223372036854775807) ∧ Hid ((bootK f s).1.sum.length = 32) ∧ L = [(0, .pointer (some ⟨g, 0, none⟩)), (2, .pointer (some ⟨g2, 0, none⟩)), (4, .pointer (some ⟨g4, 0, none⟩)), (5, .slice A n c), (6, .int .i64 (s : Int))]) ⟨0, none, 0, 0, by omega, rfl, hL2, h2, ⟨Bs.nil _ _, XY _, Nat.le_refl _, by omega⟩, entF_len, rfl⟩ ?_
  clear hL2 h2
  rintro mm L W ⟨s, A, n, c, hs, rfl, hL, hF, hB, hS, rfl⟩
  by_cases hlt : s < 2
  case neg =>
    obtain rfl : s = 2 := by omega
    have t1 : decide (((2 : Nat) : Int) < 2) = false := by decide
    have hbe : bootK f 2 = bootP f := boot_eq f
    rw [hbe] at hL hB hS
    have LG := hL.out
    clear hlt hbe
    repeat (first | refine Zv ?_ | refine Zs ?_ | refine Zu ?_ | refine Zc ?_ | refine Zq ?_ | refine Zm ?_ | refine Zp ?_ | refine Zw ?_ | refine Zf ?_ | refine Zd rfl ?_ | refine Zj rfl ?_ | refine Ze ?_ | refine Z3 ?_ | refine Zk ?_ | refine Zg ?_ | refine Zi ?_ | refine Zy rfl ?_ | refine Zx rfl ?_ | refine Zz rfl rfl ?_ | refine Zt rfl rfl rfl rfl ?_ | refine Zr rfl rfl rfl ?_ | refine Wf LG 0 rfl Try.underlying59 rfl (rentInfo (bootP f).1 hS.out) rfl rfl rfl rfl rfl ?_ | (first | refine Zb rfl rfl (.inl rfl) rfl rfl ?_ | refine Zb rfl rfl (.inr rfl) rfl rfl ?_ | refine Za rfl rfl (.inl rfl) rfl ?_ | refine Za rfl rfl (.inr rfl) rfl ?_) | ((first | refine Zn rfl rfl rfl fun K hK => ?_ | refine Zh rfl rfl rfl fun K hK => ?_); go_simp; (try go_bits); (first | refine hK _ _ ?_ | refine hK _ ?_); clear hK K))
    refine YL (cells := (entC (bootP f).1).toArray) LG 1 rfl (rentInfo (bootP f).1 hS.out) (by rw [List.size_toArray, List.size_toArray, ZR entZ ZL, ZR (bootP f).1 hS.out]) (Yu _) rfl rfl rfl rfl rfl (fun hL2 => ?_)
    have HB7 := Lib.hid (bs_typed hB.out.1 hB.out.2.1 (LG.at_ 1 rfl) (by decide) (XM W g2 (entC (bootP f).1).toArray))
    have hL2 := Lib.hid hL2
    generalize W.setRow g2 (entC (bootP f).1).toArray = w7 at hL2 HB7 ⊢
    clear LG hL
    repeat (first | refine Zv ?_ | refine Zs ?_ | refine Zu ?_ | refine Zc ?_ | refine Zq ?_ | refine Zm ?_ | refine Zp ?_ | refine Zw ?_ | refine Zf ?_ | refine Zd rfl ?_ | refine Zj rfl ?_ | refine Ze ?_ | refine Z3 ?_ | refine Zk ?_ | refine Zg ?_ | refine Zi ?_ | refine Zy rfl ?_ | refine Zx rfl ?_ | refine Zz rfl rfl ?_ | refine Zt rfl rfl rfl rfl ?_ | refine Zr rfl rfl rfl ?_ | (first | refine Zb rfl rfl (.inl rfl) rfl rfl ?_ | refine Zb rfl rfl (.inr rfl) rfl rfl ?_ | refine Za rfl rfl (.inl rfl) rfl ?_ | refine Za rfl rfl (.inr rfl) rfl ?_) | ((first | refine Zn rfl rfl rfl fun K hK => ?_ | refine Zh rfl rfl rfl fun K hK => ?_); go_simp; (try go_bits); (first | refine hK _ _ ?_ | refine hK _ ?_); clear hK K))
    refine YO (v := .tuple #[.agg (entC (bootP f).1).toArray, .slice A n c]) (fun a k => ZW rfl _ _ g2 59 (entC (bootP f).1).toArray (0, 0) _ _ (k.slot 2 rfl) (k.slot 3 rfl) (hL2.out.at_ 1 rfl) Try.underlying59 rfl (rentInfo (bootP f).1 hS.out)) ?_
    exact ⟨A, n, c, rfl, HB7.out.1, HB7.out.2, hB.out.2.2.1, hB.out.2.2.2, hL2.out.below⟩
  have t1 : decide ((s : Int) < 2) = true := by rw [decide_eq_true_eq]; omega
  have t1n : decide (s < 2) = true := decide_eq_true hlt
  have hg4lt := hL.out.lt 0 rfl
  have hnext := bootK_next f s hlt
  obtain ⟨s1, hs1⟩ : ∃ s1, s + 1 = s1 := ⟨_, rfl⟩
  rw [hs1] at hnext
  have k1 : (s : Int) + 1 = (s1 : Int) := by omega
  have k2 : (0 : Int) ≤ s1 := by omega
  have k3 : (s1 : Int) ≤ 64 := by omega
  have HI := Lib.hid (And.intro hs1 hlt)
  obtain ⟨st0, hst0⟩ : ∃ st0, bootK f s = st0 := ⟨_, rfl⟩
  rw [hst0] at hL hB hS hnext
  have c40 := hL.out.get (j := 0) 0 rfl (ent_0 st0.1)
  obtain ⟨was, hwas⟩ : ∃ was, st0.1.seq = was := ⟨_, rfl⟩
  rw [hwas] at c40 hnext
  clear hs1 hst0
  obtain ⟨first, hfirst⟩ : ∃ first, (decide (s = 1) && decide (0 < was)) = first := ⟨_, rfl⟩
  rw [hfirst] at hnext
  have HNX := Lib.hid hnext
  clear hnext hwas
  repeat (first | refine Zv ?_ | refine Zc ?_ | refine Zq ?_ | refine Zm ?_ | refine Zy rfl ?_ | refine Zu ?_ | (first | refine Zb rfl rfl (.inl rfl) rfl rfl ?_ | refine Zb rfl rfl (.inr rfl) rfl rfl ?_ | refine Za rfl rfl (.inl rfl) rfl ?_ | refine Za rfl rfl (.inr rfl) rfl ?_) | ((first | refine Zn rfl rfl rfl fun K hK => ?_ | refine Zh rfl rfl rfl fun K hK => ?_); go_simp; (try go_bits); (first | refine hK _ _ ?_ | refine hK _ ?_); clear hK K))
  refine Zs ?_
  refine kw_cut (fun L W' => W' = W ∧ L = [(0, .pointer (some ⟨g, 0, none⟩)), (2, .pointer (some ⟨g2, 0, none⟩)), (4, .pointer (some ⟨g4, 0, none⟩)), (5, .slice A n c), (6, .int .i64 (s : Int)), (7, .bool first)]) ?_ ?_
  · rcases (by omega : s = 0 ∨ s = 1) with rfl | rfl
    · have e1 : (((0 : Nat) : Int) == 1) = false := rfl
      obtain rfl : false = first := hfirst
      repeat (first | refine Zv ?_ | refine Zc ?_ | refine Zq ?_ | refine Zt rfl rfl rfl rfl ?_ | (first | refine Zb rfl rfl (.inl rfl) rfl rfl ?_ | refine Zb rfl rfl (.inr rfl) rfl rfl ?_ | refine Za rfl rfl (.inl rfl) rfl ?_ | refine Za rfl rfl (.inr rfl) rfl ?_) | ((first | refine Zn rfl rfl rfl fun K hK => ?_ | refine Zh rfl rfl rfl fun K hK => ?_); go_simp; (try go_bits); (first | refine hK _ _ ?_ | refine hK _ ?_); clear hK K))
      refine YU [0, 2, 4, 5, 6, 7] ?_
      exact ⟨rfl, rfl⟩
    · have e1 : (((1 : Nat) : Int) == 1) = true := rfl
      have e2 : decide (0 < was) = first := by rw [← hfirst]; rfl
      repeat (first | refine Zv ?_ | refine Zc ?_ | refine Zq ?_ | refine Zz rfl rfl ?_ | (first | refine Zb rfl rfl (.inl rfl) rfl rfl ?_ | refine Zb rfl rfl (.inr rfl) rfl rfl ?_ | refine Za rfl rfl (.inl rfl) rfl ?_ | refine Za rfl rfl (.inr rfl) rfl ?_) | ((first | refine Zn rfl rfl rfl fun K hK => ?_ | refine Zh rfl rfl rfl fun K hK => ?_); go_simp; (try go_bits); (first | refine hK _ _ ?_ | refine hK _ ?_); clear hK K))
      refine YU [0, 2, 4, 5, 6, 7] ?_
      exact ⟨rfl, rfl⟩
  rintro L W' ⟨rfl, rfl⟩
  clear hfirst
  repeat (first | refine Zv ?_ | refine Zc ?_ | refine Zq ?_ | refine Zm ?_ | (first | refine Zb rfl rfl (.inl rfl) rfl rfl ?_ | refine Zb rfl rfl (.inr rfl) rfl rfl ?_ | refine Za rfl rfl (.inl rfl) rfl ?_ | refine Za rfl rfl (.inr rfl) rfl ?_) | ((first | refine Zn rfl rfl rfl fun K hK => ?_ | refine Zh rfl rfl rfl fun K hK => ?_); go_simp; (try go_bits); (first | refine hK _ _ ?_ | refine hK _ ?_); clear hK K))
  refine Z9 rfl rfl rfl Try.func45 rfl (by kernel_rfl) rfl ?_
  refine Calls.mono (entries_any Q g f (s : Int) W' hF.out (by omega)) ?_
  rintro e w3 ⟨ve, rfl, hOe, hb3⟩
  refine ⟨_, rfl, ?_⟩
  have hL3 := Lib.hid (hL.out.next hb3)
  have hF3 := Lib.hid (hF.out.below hb3)
  have hB3 : Hid (Bs w3 A n st0.2 ∧ TyB w3 A ∧ n ≤ c ∧ c ≤ 9223372036854775807) := ⟨hB.out.1.below hb3, hB.out.2.1.below hb3, hB.out.2.2⟩
  clear hL hF hB hb3 c40 t1 t1n
  have hgood := XK (loadR (readF f (s : Int))).1
  obtain ⟨A3, c3, rfl, hen, hec, hec9, hty⟩ := hOe.ens
  have hcnt := secE_len f (s : Int)
  obtain ⟨es, hes⟩ : ∃ es, secE f (s : Int) = es := ⟨_, rfl⟩
  have HGD : Hid (∀ e ∈ es, GoodE e) := by rw [← hes]; exact hgood
  rw [hes] at hen hec hcnt ⊢
  have HNX2 := HNX.out
  rw [hes] at HNX2
  have HNX := Lib.hid HNX2
  obtain ⟨N, hN⟩ : ∃ N, es.length = N := ⟨_, rfl⟩
  rw [hN] at hen hec hcnt ⊢
  have HN := Lib.hid hN
  have HEN := Lib.hid hen
  have HGA : Hid (∀ a, A3 = some a → a.block ≠ g4) := fun a e => by have := (hty a e).1; omega
  clear hgood hOe hes hN hen HNX2 hty hg4lt
  repeat (first | refine Zv ?_ | refine Zc ?_ | refine Zq ?_ | refine Zm ?_ | (first | refine Zb rfl rfl (.inl rfl) rfl rfl ?_ | refine Zb rfl rfl (.inr rfl) rfl rfl ?_ | refine Za rfl rfl (.inl rfl) rfl ?_ | refine Za rfl rfl (.inr rfl) rfl ?_) | ((first | refine Zn rfl rfl rfl fun K hK => ?_ | refine Zh rfl rfl rfl fun K hK => ?_); go_simp; (try go_bits); (first | refine hK _ _ ?_ | refine hK _ ?_); clear hK K))
  refine KW.less [0, 2, 4, 5, 6, 7, 8, 9, 10] ?_
  simp only [nrm, lk, Nat.reduceBEq, cond_true, cond_false]
  refine Zs ?_
  refine Yw (fun mm L W => ∃ k st A n c, k ≤ N ∧ mm = N - k ∧ Hid ((es.take k).foldl (stepB f first was) st0 = st) ∧ Hid (Lay w W [(g4, (entC st.1).toArray, 59), (g2, (entC entZ).toArray, 59)]) ∧ Hid (RF Q W g f) ∧ Hid (EnS W A3 N es) ∧ Hid (Bs W A n st.2 ∧ TyB W A ∧ n ≤ c ∧ c ≤ 9223372036854775807) ∧ Hid (st.1.sum.length = 32) ∧ L = [(0, .pointer (some ⟨g, 0, none⟩)), (2, .pointer (some ⟨g2, 0, none⟩)), (4, .pointer (some ⟨g4, 0, none⟩)), (5, .slice A n c), (6, .int .i64 (s : Int)), (7, .bool first), (8, .int .i64 was), (9, .slice A3 N c3), (10, .int .i64 (k : Int))]) ⟨0, st0, A, n, c, by omega, rfl, by show _ = _; rfl, hL3, hF3, HEN, hB3, hS, rfl⟩ ?_
  clear hL3 hF3 HEN hB3 hS
  rintro mm L W ⟨k, st, A, n, c, hk, rfl, hst, hL, hF, hE, hB, hS, rfl⟩
  by_cases hkn : k < N
  case neg =>
    obtain rfl : k = N := by omega
    have t1 : decide ((k : Int) < (k : Int)) = false := by simp
    have t1n : decide (k < k) = false := by simp
    have hfin := hst.out
    rw [List.take_of_length_le (by rw [HN.out]; exact Nat.le_refl _), HNX.out] at hfin
    rw [← hfin] at hL hB hS
    clear hkn hfin hst
    repeat (first | refine Zv ?_ | refine Zc ?_ | refine Zq ?_ | refine Zm ?_ | refine Zp ?_ | refine Zx rfl ?_ | refine Zw ?_ | refine Zf ?_ | refine Zd rfl ?_ | refine Zu ?_ | (first | refine Zb rfl rfl (.inl rfl) rfl rfl ?_ | refine Zb rfl rfl (.inr rfl) rfl rfl ?_ | refine Za rfl rfl (.inl rfl) rfl ?_ | refine Za rfl rfl (.inr rfl) rfl ?_) | ((first | refine Zn rfl rfl rfl fun K hK => ?_ | refine Zh rfl rfl rfl fun K hK => ?_); go_simp; (try go_bits); (first | refine hK _ _ ?_ | refine hK _ ?_); clear hK K))
    refine Yk (2 - s1) [0, 2, 4, 5, 6] (by have := HI.out; omega) ?_
    exact ⟨s1, A, n, c, by have := HI.out; omega, rfl, hL, hF, hB, hS, rfl⟩
  have t1 : decide ((k : Int) < (N : Int)) = true := by rw [decide_eq_true_eq]; omega
  have t1n : decide (k < N) = true := decide_eq_true hkn
  have u0 : (0 : Int) ≤ k := by omega
  have u1 : (k : Int) < N := by omega
  obtain ⟨nk, hnk⟩ : ∃ nk, k + 1 = nk := ⟨_, rfl⟩
  have i3 : (k : Int) + 1 = (nk : Int) := by omega
  have i4 : (0 : Int) ≤ nk := by omega
  have i5 : (nk : Int) ≤ 65 := by omega
  have HNK := Lib.hid (And.intro hnk hkn)
  obtain ⟨gA, oA, e, rfl, hra, hes, hx1, hx2⟩ := hE.out.next hkn
  have hgd := HGD.out e (List.mem_of_getElem? hx2.out)
  have HGE := Lib.hid hgd
  have HST : Hid ((es.take nk).foldl (stepB f first was) st0 = stepB f first was st e) := by
    show _ = _
    rw [← HNK.out.1, hx1.out, List.foldl_append, hst.out]; rfl
  have hra0 := hra
  have HRA := Lib.hid hra
  clear hra hgd hnk hkn hst
  obtain ⟨oi, hoi⟩ : ∃ oi, oA + k * 34 = oi := ⟨_, rfl⟩
  rw [hoi] at HRA hra0
  obtain ⟨es1, hes1⟩ : ∃ es1, e.seq = es1 := ⟨_, rfl⟩
  obtain ⟨bs1, hbs1⟩ : ∃ bs1, st.1.seq = bs1 := ⟨_, rfl⟩
  have ce := fun W' (h : Below W.heap.size W W') => Keeps.of_below h _ _ (hra0 0 (.int .i64 e.seq) rfl)
  have cb := fun W' (h : Below W.heap.size W W') => Keeps.of_below h _ _ (hL.out.get (j := 0) 0 rfl (ent_0 st.1))
  rw [hes1] at ce
  rw [hbs1] at cb
  simp only [Nat.add_zero] at ce
  obtain ⟨q, hq⟩ : ∃ q, (decide (es1 < bs1) || (first && decide (es1 = was))) = q := ⟨_, rfl⟩
  have HQ : Hid ((decide (e.seq < st.1.seq) || (first && decide (e.seq = was))) = q) := by show _ = _; rw [hes1, hbs1]; exact hq
  clear hra0 hes1 hbs1
  have hbd : Below W.heap.size W W.drew := (Below.refl _ _).drew
  repeat (first | refine Zv ?_ | refine Zs ?_ | refine Zq ?_ | refine Zm ?_ | refine Zy rfl ?_ | refine Zu ?_ | refine Zc ?_ | (first | refine Zb rfl rfl (.inl rfl) rfl rfl ?_ | refine Zb rfl rfl (.inr rfl) rfl rfl ?_ | refine Za rfl rfl (.inl rfl) rfl ?_ | refine Za rfl rfl (.inr rfl) rfl ?_) | ((first | refine Zn rfl rfl rfl fun K hK => ?_ | refine Zh rfl rfl rfl fun K hK => ?_); go_simp; (try go_bits); (first | refine hK _ _ ?_ | refine hK _ ?_); clear hK K))
  refine kw_cutq (fun L W' => W' = W.drew ∧ L = [(0, .pointer (some ⟨g, 0, none⟩)), (2, .pointer (some ⟨g2, 0, none⟩)), (4, .pointer (some ⟨g4, 0, none⟩)), (5, .slice A n c), (6, .int .i64 (s : Int)), (7, .bool first), (8, .int .i64 was), (9, .slice (some ⟨gA, oA, none⟩) N c3), (10, .int .i64 (k : Int)), (55, .bool q)]) ?_ ?_
  · by_cases ha : es1 < bs1
    · have t3 : decide (es1 < bs1) = true := decide_eq_true ha
      obtain rfl : true = q := by rw [← hq, t3]; rfl
      clear hq ha
      refine ZX (Below W.heap.size W) [true, true, true, true, true, true, true, true, true, true, true, true, true, true, true, true, true, true, true, true] (by kernel_rfl) (by kernel_rfl) hbd ?_
      repeat (first | refine Ym ?_ | refine Yj rfl rfl ?_ | refine ZM rfl rfl rfl rfl ?_ | (first | refine Z5 rfl rfl (.inl rfl) rfl rfl ?_ | refine Z5 rfl rfl (.inr rfl) rfl rfl ?_ | refine Z2 rfl rfl (.inl rfl) rfl ?_ | refine Z2 rfl rfl (.inr rfl) rfl ?_) | (refine Yf rfl rfl rfl ?_; apply Exists.intro; refine And.intro (fun W hW N hN => ?_) ?_; · (go_simp; (try go_bits); exact hN)))
      refine YU [0, 2, 4, 5, 6, 7, 8, 9, 10, 55] ?_
      exact ⟨rfl, rfl⟩
    have t3 : decide (es1 < bs1) = false := decide_eq_false ha
    cases first
    · obtain rfl : false = q := by rw [← hq, t3]; rfl
      clear hq ha
      refine ZX (Below W.heap.size W) [true, true, true, true, true, true, true, true, true, true, true, true, true, true, true, true, true, true, true, true] (by kernel_rfl) (by kernel_rfl) hbd ?_
      repeat (first | refine Ym ?_ | refine Yj rfl rfl ?_ | refine ZM rfl rfl rfl rfl ?_ | (first | refine Z5 rfl rfl (.inl rfl) rfl rfl ?_ | refine Z5 rfl rfl (.inr rfl) rfl rfl ?_ | refine Z2 rfl rfl (.inl rfl) rfl ?_ | refine Z2 rfl rfl (.inr rfl) rfl ?_) | (refine Yf rfl rfl rfl ?_; apply Exists.intro; refine And.intro (fun W hW N hN => ?_) ?_; · (go_simp; (try go_bits); exact hN)))
      refine YU [0, 2, 4, 5, 6, 7, 8, 9, 10, 55] ?_
      exact ⟨rfl, rfl⟩
    · by_cases hw : es1 = was
      · have t4 : (es1 == was) = true := beq_iff_eq.2 hw
        obtain rfl : true = q := by rw [← hq, t3, decide_eq_true hw]; rfl
        clear hq ha hw
        refine ZX (Below W.heap.size W) [true, true, true, true, true, true, true, true, true, true, true, true, true, true, true, true, true, true, true, true] (by kernel_rfl) (by kernel_rfl) hbd ?_
        repeat (first | refine Ym ?_ | refine Yj rfl rfl ?_ | refine ZM rfl rfl rfl rfl ?_ | (first | refine Z5 rfl rfl (.inl rfl) rfl rfl ?_ | refine Z5 rfl rfl (.inr rfl) rfl rfl ?_ | refine Z2 rfl rfl (.inl rfl) rfl ?_ | refine Z2 rfl rfl (.inr rfl) rfl ?_) | (refine Yf rfl rfl rfl ?_; apply Exists.intro; refine And.intro (fun W hW N hN => ?_) ?_; · (go_simp; (try go_bits); exact hN)))
        refine YU [0, 2, 4, 5, 6, 7, 8, 9, 10, 55] ?_
        exact ⟨rfl, rfl⟩
      · have t4 : (es1 == was) = false := beq_eq_false_iff_ne.2 hw
        obtain rfl : false = q := by rw [← hq, t3, decide_eq_false hw]; rfl
        clear hq ha hw
        refine ZX (Below W.heap.size W) [true, true, true, true, true, true, true, true, true, true, true, true, true, true, true, true, true, true, true, true] (by kernel_rfl) (by kernel_rfl) hbd ?_
        repeat (first | refine Ym ?_ | refine Yj rfl rfl ?_ | refine ZM rfl rfl rfl rfl ?_ | (first | refine Z5 rfl rfl (.inl rfl) rfl rfl ?_ | refine Z5 rfl rfl (.inr rfl) rfl rfl ?_ | refine Z2 rfl rfl (.inl rfl) rfl ?_ | refine Z2 rfl rfl (.inr rfl) rfl ?_) | (refine Yf rfl rfl rfl ?_; apply Exists.intro; refine And.intro (fun W hW N hN => ?_) ?_; · (go_simp; (try go_bits); exact hN)))
        refine YU [0, 2, 4, 5, 6, 7, 8, 9, 10, 55] ?_
        exact ⟨rfl, rfl⟩
  rintro L W' ⟨rfl, rfl⟩
  have hLd := Lib.hid (hL.out.next hbd)
  have hFd := Lib.hid (hF.out.below hbd)
  have hEd := Lib.hid (hE.out.below hbd)
  have hBd : Hid (Bs W.drew A n st.2 ∧ TyB W.drew A ∧ n ≤ c ∧ c ≤ 9223372036854775807) := ⟨hB.out.1.below hbd, hB.out.2.1.below hbd, hB.out.2.2⟩
  have HRd := Lib.hid (YC HRA.out hbd)
  clear hL hF hE hB ce cb hq t1 t1n hbd HRA
  generalize W.drew = W at hLd hFd hEd hBd HRd ⊢
  cases q
  case true =>
    have hst2 : Hid ((es.take nk).foldl (stepB f first was) st0 = st) := by
      show _ = _
      rw [HST.out, stepB_skip f first was st e HQ.out]
    repeat (first | refine Zy rfl ?_ | refine Zw ?_ | refine Zf ?_ | refine Zd rfl ?_ | refine Zv ?_ | refine Zc ?_ | refine Zq ?_ | refine Zm ?_ | (first | refine Zb rfl rfl (.inl rfl) rfl rfl ?_ | refine Zb rfl rfl (.inr rfl) rfl rfl ?_ | refine Za rfl rfl (.inl rfl) rfl ?_ | refine Za rfl rfl (.inr rfl) rfl ?_) | ((first | refine Zn rfl rfl rfl fun K hK => ?_ | refine Zh rfl rfl rfl fun K hK => ?_); go_simp; (try go_bits); (first | refine hK _ _ ?_ | refine hK _ ?_); clear hK K))
    refine Yk (N - nk) [0, 2, 4, 5, 6, 7, 8, 9, 10] (by have := HNK.out; omega) ?_
    exact ⟨nk, st, A, n, c, by have := HNK.out; omega, rfl, hst2, hLd, hFd, hEd, hBd, hS, rfl⟩
  refine Zx rfl ?_
  refine Zu ?_
  repeat (first | refine Zv ?_ | refine Zc ?_ | refine Zq ?_ | refine Zm ?_ | (first | refine Zb rfl rfl (.inl rfl) rfl rfl ?_ | refine Zb rfl rfl (.inr rfl) rfl rfl ?_ | refine Za rfl rfl (.inl rfl) rfl ?_ | refine Za rfl rfl (.inr rfl) rfl ?_) | ((first | refine Zn rfl rfl rfl fun K hK => ?_ | refine Zh rfl rfl rfl fun K hK => ?_); go_simp; (try go_bits); (first | refine hK _ _ ?_ | refine hK _ ?_); clear hK K))
  refine Y8 59 gA oi _ _ HRd.out Try.underlying59 rfl (rentInfoL e hes) rfl rfl rfl rfl rfl ?_
  refine Z9 rfl rfl rfl Try.func47 rfl (by kernel_rfl) rfl ?_
  refine Calls.mono (stored_any Q g f e W hFd.out HGE.out) ?_
  rintro e w6 ⟨Ai, ni, ci, rfl, hBi, hni, hci, hTi, hb6⟩
  refine ⟨_, rfl, ?_⟩
  have hL6 := Lib.hid (hLd.out.next hb6)
  have hF6 := Lib.hid (hFd.out.below hb6)
  have hE6 := Lib.hid (hEd.out.below hb6)
  have hB6 : Hid (Bs w6 A n st.2 ∧ TyB w6 A ∧ n ≤ c ∧ c ≤ 9223372036854775807) := ⟨hBd.out.1.below hb6, hBd.out.2.1.below hb6, hBd.out.2.2⟩
  have HR6 := Lib.hid (YC HRd.out hb6)
  clear hLd hFd hEd hBd HRd hb6
  obtain ⟨r, hr⟩ : ∃ r, (imageP f e).2 = r := ⟨_, rfl⟩
  rw [hr]
  have HRR := Lib.hid hr
  have HBI := Lib.hid (And.intro hBi hTi)
  clear hr hBi hTi
  cases r
  case false =>
    have hst2 : Hid ((es.take nk).foldl (stepB f first was) st0 = st) := by
      show _ = _
      rw [HST.out, stepB_no f first was st e HQ.out HRR.out]
    repeat (first | refine Zx rfl ?_ | refine Zu ?_ | refine Zp ?_ | refine Zv ?_ | refine Zc ?_ | refine Zq ?_ | refine Zm ?_ | (first | refine Zb rfl rfl (.inl rfl) rfl rfl ?_ | refine Zb rfl rfl (.inr rfl) rfl rfl ?_ | refine Za rfl rfl (.inl rfl) rfl ?_ | refine Za rfl rfl (.inr rfl) rfl ?_) | ((first | refine Zn rfl rfl rfl fun K hK => ?_ | refine Zh rfl rfl rfl fun K hK => ?_); go_simp; (try go_bits); (first | refine hK _ _ ?_ | refine hK _ ?_); clear hK K))
    refine Yk (N - nk) [0, 2, 4, 5, 6, 7, 8, 9, 10] (by have := HNK.out; omega) ?_
    exact ⟨nk, st, A, n, c, by have := HNK.out; omega, rfl, hst2, hL6, hF6, hE6, hB6, hS, rfl⟩
  have hst2 : Hid ((es.take nk).foldl (stepB f first was) st0 = (e, (imageP f e).1)) := by
    show _ = _
    rw [HST.out, stepB_yes f first was st e HQ.out HRR.out]
  repeat (first | refine Zy rfl ?_ | refine Zv ?_ | refine Zc ?_ | refine Zq ?_ | refine Zm ?_ | (first | refine Zb rfl rfl (.inl rfl) rfl rfl ?_ | refine Zb rfl rfl (.inr rfl) rfl rfl ?_ | refine Za rfl rfl (.inl rfl) rfl ?_ | refine Za rfl rfl (.inr rfl) rfl ?_) | ((first | refine Zn rfl rfl rfl fun K hK => ?_ | refine Zh rfl rfl rfl fun K hK => ?_); go_simp; (try go_bits); (first | refine hK _ _ ?_ | refine hK _ ?_); clear hK K))
  refine Y8 59 gA oi _ _ HR6.out Try.underlying59 rfl (rentInfoL e hes) rfl rfl rfl rfl rfl ?_
  (first | refine Zb rfl rfl (.inl rfl) rfl rfl ?_ | refine Zb rfl rfl (.inr rfl) rfl rfl ?_ | refine Za rfl rfl (.inl rfl) rfl ?_ | refine Za rfl rfl (.inr rfl) rfl ?_)
  refine YL (cells := (entC e).toArray) hL6.out 0 rfl (rentInfo e hes) (by rw [List.size_toArray, List.size_toArray, ZR st.1 hS.out, ZR e hes]) (Yu e) rfl rfl rfl rfl rfl (fun hL7 => ?_)
  have hg4t := hL6.out.at_ 0 rfl
  have hgr := XM w6 g4 (entC e).toArray
  have HB7 : Hid (Bs (w6.setRow g4 (entC e).toArray) Ai ni (imageP f e).1 ∧ TyB (w6.setRow g4 (entC e).toArray) Ai ∧ ni ≤ ci ∧ ci ≤ 9223372036854775807) := by
    have := bs_typed HBI.out.1 HBI.out.2 hg4t (by decide) hgr
    exact ⟨this.1, this.2, hni, hci⟩
  have HE7 := Lib.hid (hE6.out.other hgr HGA.out)
  have HF7 := Lib.hid (h.below hL7.below)
  have hL7 := Lib.hid hL7
  generalize w6.setRow g4 (entC e).toArray = w7 at hL7 HB7 HE7 HF7 ⊢
  clear hL6 hF6 hE6 hB6 HR6 HBI hg4t hgr
  repeat (first | refine Zu ?_ | refine Zp ?_ | refine Zv ?_ | refine Zc ?_ | refine Zq ?_ | refine Zm ?_ | (first | refine Zb rfl rfl (.inl rfl) rfl rfl ?_ | refine Zb rfl rfl (.inr rfl) rfl rfl ?_ | refine Za rfl rfl (.inl rfl) rfl ?_ | refine Za rfl rfl (.inr rfl) rfl ?_) | ((first | refine Zn rfl rfl rfl fun K hK => ?_ | refine Zh rfl rfl rfl fun K hK => ?_); go_simp; (try go_bits); (first | refine hK _ _ ?_ | refine hK _ ?_); clear hK K))
  refine Yk (N - nk) [0, 2, 4, 5, 6, 7, 8, 9, 10] (by have := HNK.out; omega) ?_
  exact ⟨nk, (e, (imageP f e).1), Ai, ni, ci, by have := HNK.out; omega, rfl, hst2, hL7, HF7, HE7, HB7, hes, rfl⟩
end Go.Proofs.Ytkncomkncfcecaa
