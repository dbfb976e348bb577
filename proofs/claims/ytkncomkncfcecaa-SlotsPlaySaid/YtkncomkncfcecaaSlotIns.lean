/- slices.Insert: one place is laid among others. -/
import Derived.Test.YtkncomkncfcecaaKnZ
import Derived.Test.YtkncomkncfcecaaKnF
import Derived.Lib.Overlaps
import Derived.Laws.Externs
set_option linter.unusedVariables false
set_option linter.unusedSimpArgs false
namespace Go.Proofs.Ytkncomkncfcecaa
open Go.RowKit
attribute [local go_sem] Y1 Yl Yp ZT Yy Yo ZI ZO Yi ZN ZH ZU Ya
theorem placeInfo : (Try.prog.info? 72).map (fun i => (i.zero, i.size, i.bytes)) = some (some (.agg (plcC (entZ, 0)).toArray), 35, 56) := by kernel_rfl
theorem placeZ : (Value.agg (plcC (entZ, 0)).toArray).cells.size = 35 := by
  show (plcC (entZ, 0)).toArray.size = 35
  rw [List.size_toArray, Xi _ ZL]
theorem placeSizeOf (w : World) : (Go.sizeOf 72).run Try.prog w = .ok 35 w := by
  obtain ⟨i0, hi0, _, hz1, _⟩ := info_parts placeInfo
  simp [Go.sizeOf, typeInfo, hi0, hz1]
theorem shift_fill (cur xs ys : List Value) (K M : Nat) (hx : cur.take M = xs) (hM : M + 35 ≤ cur.length) (hK : K ≤ M) (hy : ys.length = 35) :
    ((cur.take (K + 35) ++ xs.drop K ++ cur.drop (K + 35 + (xs.drop K).length)).take K ++ ys ++ (cur.take (K + 35) ++ xs.drop K ++ cur.drop (K + 35 + (xs.drop K).length)).drop (K + ys.length)).take (M + 35) = xs.take K ++ ys ++ xs.drop K := by
  have hxl : xs.length = M := by rw [← hx, List.length_take]; omega
  have h1 : (cur.take (K + 35)).length = K + 35 := by rw [List.length_take]; omega
  have hd : (xs.drop K).length = M - K := by rw [List.length_drop, hxl]
  have h2 : (cur.take (K + 35) ++ xs.drop K ++ cur.drop (K + 35 + (xs.drop K).length)).take K = xs.take K := by
    rw [List.append_assoc, List.take_append_of_le_length (by omega), List.take_take, ← hx, List.take_take, Nat.min_eq_left (by omega), Nat.min_eq_left (by omega)]
  have h3 : (cur.take (K + 35) ++ xs.drop K ++ cur.drop (K + 35 + (xs.drop K).length)).drop (K + ys.length) = xs.drop K ++ cur.drop (K + 35 + (xs.drop K).length) := by
    rw [hy, List.append_assoc, List.drop_append_of_le_length (by omega), List.drop_of_length_le (by omega), List.nil_append]
  rw [h2, h3, ← List.append_assoc, List.take_append_of_le_length (by simp only [List.length_append, List.length_take, hy, hd]; omega), List.take_of_length_le (by simp only [List.length_append, List.length_take, hy, hd]; omega)]
theorem grow_fill (xs ys Z : List Value) (K M : Nat) (hxl : xs.length = M) (hK : K ≤ M) (hy : ys.length = 35) (hZ : M - K + 35 ≤ Z.length) :
    ((((xs.take K ++ Z).take K ++ ys ++ (xs.take K ++ Z).drop (K + ys.length)).take (K + 35) ++ xs.drop K ++ ((xs.take K ++ Z).take K ++ ys ++ (xs.take K ++ Z).drop (K + ys.length)).drop (K + 35 + (xs.drop K).length))).take (M + 35) = xs.take K ++ ys ++ xs.drop K := by
  have hl : (xs.take K).length = K := by rw [List.length_take]; omega
  have hd : (xs.drop K).length = M - K := by rw [List.length_drop, hxl]
  have h1 : (xs.take K ++ Z).take K = xs.take K := by rw [List.take_append_of_le_length (by omega), List.take_of_length_le (by omega)]
  rw [h1]
  have h2 : (xs.take K ++ ys ++ (xs.take K ++ Z).drop (K + ys.length)).take (K + 35) = xs.take K ++ ys := by
    rw [List.take_append_of_le_length (by simp only [List.length_append, hl, hy]; omega), List.take_of_length_le (by simp only [List.length_append, hl, hy]; omega)]
  rw [h2, List.take_append_of_le_length (by simp only [List.length_append, hl, hy, hd]; omega), List.take_of_length_le (by simp only [List.length_append, hl, hy, hd]; omega)]
def InsP (base : Nat) (v : Value) (n : Nat) (xs ys : List Value) (K : Nat) (w : World) (e : Ending) (w' : World) : Prop :=
  ∃ v', e = .returned v' ∧ w'.ownsRow base 72 35 v' (n + 1) (xs.take K ++ ys ++ xs.drop K) ∧ w.grownBy w' v.ownBlock ∧ (v'.ownBlock = v.ownBlock ∨ v'.ownBlock = some w.heap.size)
theorem XM (w : World) (g : Nat) (cs : Array Value) : w.grownBy (w.setRow g cs) (some g) :=
  ⟨rfl, rfl, rfl, by simp [World.setRow], fun i _ hne => by rw [setRow_other _ _ _ _ (fun h => hne (by rw [h]))]⟩
theorem own_made {w : World} {base g n cap : Nat} {cur xs : List Value} (hb : base ≤ g) (hg : w.heap[g]? = some (.cells cur.toArray 72 (0, 0))) (hn : n ≤ cap) (hc : cap ≤ maxLen) (hl : cur.length = cap * 35) (hx : cur.take (n * 35) = xs) :
    w.ownsRow base 72 35 (.slice (some ⟨g, 0, none⟩) n cap) n xs := by
  refine ⟨?_, .inr ⟨g, cap, cur.toArray, rfl, hb, hg, hn, hc, by simpa using hl, by simpa using hx⟩⟩
  have : n * 35 ≤ cap * 35 := Nat.mul_le_mul_right _ hn
  rw [← hx, List.length_take]; omega
set_option maxRecDepth 100000 in
set_option maxHeartbeats 4000000 in
theorem insert_any (base : Nat) (v : Value) (n : Nat) (xs : List Value) (k : Nat) (ys : List Value) (vb : Nat) (w : World) (hown : w.ownsRow base 72 35 v n xs) (hk : k ≤ n) (hn : n ≤ 1000) (hys : ys.length = 35) (hy1 : ∀ u ∈ ys, u.oneCell' = true) (hx1 : ∀ u ∈ xs, u.oneCell' = true)
    (hvb : w.heap[vb]? = some (.cells ys.toArray 72 (0, 0))) (hne : v.ownBlock ≠ some vb) (hbase : base ≤ w.heap.size) : Calls Try.prog 56 #[v, .int .i64 (k : Int), .slice (some ⟨vb, 0, none⟩) 1 1] w (InsP base v n xs ys (k * 35) w) := by
  have hxl := hown.1
  obtain ⟨A, c, hv, hnc, hc9⟩ : ∃ A c, v = .slice A n c ∧ n ≤ c ∧ c ≤ 9223372036854775807 := by
    rcases hown.2 with ⟨h1, h2⟩ | ⟨g, cap, cur, h1, _, _, h2, h3, _⟩
    · subst h2; exact ⟨none, 0, h1, Nat.le_refl _, by omega⟩
    · exact ⟨_, cap, h1, h2, by simpa [maxLen] using h3⟩
  subst hv
  have k0 : (0 : Int) ≤ k := by omega
  have k1 : (k : Int) ≤ n := by omega
  have k2 : (n : Int) ≤ c := by omega
  have k3 : (n : Int) ≤ 1000 := by omega
  have k4 : (k : Int) ≤ c := by omega
  have HXL := Lib.hid hxl
  clear hxl
  refine ZZ Try.func56 rfl Try.ntmps56 rfl [(0, .slice A n c), (1, .int .i64 (k : Int)), (2, .slice (some ⟨vb, 0, none⟩) 1 1)] rfl ?_
  by_cases hkn : k = n
  case pos =>
    subst hkn
    have t1 : ((k : Int) == (k : Int)) = true := by simp
    repeat (first | refine Zv ?_ | refine Zs ?_ | refine Zu ?_ | refine Zc ?_ | refine Zq ?_ | refine Zm ?_ | refine Zp ?_ | refine Zw ?_ | refine Zf ?_ | refine Zd rfl ?_ | refine Zj rfl ?_ | refine Ze ?_ | refine Z3 ?_ | refine Zk ?_ | refine Zg ?_ | refine Zi ?_ | refine Zy rfl ?_ | refine Zx rfl ?_ | refine Zz rfl rfl ?_ | refine Zt rfl rfl rfl rfl ?_ | refine Zr rfl rfl rfl ?_ | (first | refine Zb rfl rfl (.inl rfl) rfl rfl ?_ | refine Zb rfl rfl (.inr rfl) rfl rfl ?_ | refine Za rfl rfl (.inl rfl) rfl ?_ | refine Za rfl rfl (.inr rfl) rfl ?_) | ((first | refine Zn rfl rfl rfl fun K hK => ?_ | refine Zh rfl rfl rfl fun K hK => ?_); go_simp; (try go_bits); (first | refine hK _ _ ?_ | refine hK _ ?_); clear hK K))
    refine kl_appendN 73 72 _ 35 56 Try.underlying73 placeInfo placeZ (by omega) base (.slice A k c) k xs hown vb 0 1 1 ys (by omega) (fun j u hu => by rw [Nat.zero_add]; exact Z4 hvb (by rw [List.getElem?_toArray]; exact hu)) hy1 (by omega) (by omega) hbase rfl rfl rfl rfl rfl rfl ?_
    intro v' w' ho hg hob
    repeat (first | refine Zv ?_ | refine Zs ?_ | refine Zu ?_ | refine Zc ?_ | refine Zq ?_ | refine Zm ?_ | refine Zp ?_ | refine Zw ?_ | refine Zf ?_ | refine Zd rfl ?_ | refine Zj rfl ?_ | refine Ze ?_ | refine Z3 ?_ | refine Zk ?_ | refine Zg ?_ | refine Zi ?_ | refine Zy rfl ?_ | refine Zx rfl ?_ | refine Zz rfl rfl ?_ | refine Zt rfl rfl rfl rfl ?_ | refine Zr rfl rfl rfl ?_ | (first | refine Zb rfl rfl (.inl rfl) rfl rfl ?_ | refine Zb rfl rfl (.inr rfl) rfl rfl ?_ | refine Za rfl rfl (.inl rfl) rfl ?_ | refine Za rfl rfl (.inr rfl) rfl ?_) | ((first | refine Zn rfl rfl rfl fun K hK => ?_ | refine Zh rfl rfl rfl fun K hK => ?_); go_simp; (try go_bits); (first | refine hK _ _ ?_ | refine hK _ ?_); clear hK K))
    refine ZE rfl rfl ⟨v', rfl, ?_, hg, hob⟩
    have e1 : k * 35 = xs.length := HXL.out.symm
    rw [e1, List.take_of_length_le (Nat.le_refl _), List.drop_of_length_le (Nat.le_refl _), List.append_nil]
    exact ho
  have t1 : ((k : Int) == (n : Int)) = false := by rw [beq_eq_false_iff_ne]; omega
  have hkn2 : k < n := by omega
  obtain ⟨n1, hn1⟩ : ∃ n1, n + 1 = n1 := ⟨_, rfl⟩
  have a1 : (n : Int) + 1 = (n1 : Int) := by omega
  have a2 : (0 : Int) ≤ n1 := by omega
  have a3 : (n1 : Int) ≤ 1001 := by omega
  obtain ⟨g, cur, rfl, hbg, hgb, hcs, hct⟩ : ∃ g cur, A = some ⟨g, 0, none⟩ ∧ base ≤ g ∧ w.heap[g]? = some (.cells cur 72 (0, 0)) ∧ cur.size = c * 35 ∧ cur.toList.take (n * 35) = xs := by
    rcases hown.2 with ⟨_, h2⟩ | ⟨g, cap, cur, h1, h2, h3, _, _, h4, h5⟩
    · omega
    · injection h1 with h1 _ h6
      subst h6
      exact ⟨g, cur, h1, h2, h3, h4, h5⟩
  have hglt := (Array.getElem?_eq_some_iff.1 hgb).1
  have hvlt := (Array.getElem?_eq_some_iff.1 hvb).1
  have hgv : g ≠ vb := fun h => hne (by rw [h]; rfl)
  have hK : k * 35 + 35 ≤ n * 35 := by omega
  have hsrcx : w.rangeAt g (k * 35) (xs.drop (k * 35)) := fun j u hu => by
    refine Z4 hgb ?_
    rw [List.getElem?_drop, ← hct, List.getElem?_take] at hu
    split at hu
    · simpa using hu
    · cases hu
  have hdl : (xs.drop (k * 35)).length = (n - k) * 35 := by rw [List.length_drop, HXL.out, Nat.sub_mul]
  have HKN := Lib.hid (And.intro hkn2 hn1)
  obtain ⟨K1, hK1⟩ : ∃ K1, k + 1 = K1 := ⟨_, rfl⟩
  have b1 : (k : Int) + 1 = (K1 : Int) := by omega
  have b2 : (0 : Int) ≤ K1 := by omega
  have b3 : (K1 : Int) ≤ n := by omega
  have b4 : (K1 : Int) ≤ n1 := by omega
  have b5 : (k : Int) ≤ n1 := by omega
  have HK1 := Lib.hid hK1
  by_cases hroom : c < n1
  · have t2 : decide ((c : Int) < (n1 : Int)) = true := by rw [decide_eq_true_eq]; omega
    have t2n : decide (c < n1) = true := decide_eq_true hroom
    obtain ⟨d, hd⟩ : ∃ d, n1 - k = d := ⟨_, rfl⟩
    have a4 : (n1 : Int) - (k : Int) = (d : Int) := by omega
    have a5 : (0 : Int) ≤ d := by omega
    have a6 : (d : Int) ≤ 1001 := by omega
    have hkd : k + d = n1 := by omega
    have HD := Lib.hid (And.intro hd (And.intro hkd hroom))
    clear hd hkd hroom hn1 hkn hkn2 hK1
    repeat (first | refine Zv ?_ | refine Zc ?_ | refine Zq ?_ | refine Zm ?_ | refine Zy rfl ?_ | refine Zx rfl ?_ | refine Zu ?_ | (first | refine Zb rfl rfl (.inl rfl) rfl rfl ?_ | refine Zb rfl rfl (.inr rfl) rfl rfl ?_ | refine Za rfl rfl (.inl rfl) rfl ?_ | refine Za rfl rfl (.inr rfl) rfl ?_) | ((first | refine Zn rfl rfl rfl fun K hK => ?_ | refine Zh rfl rfl rfl fun K hK => ?_); go_simp; (try go_bits); (first | refine hK _ _ ?_ | refine hK _ ?_); clear hK K))
    refine kl_appZ 73 3 72 _ 35 56 Try.underlying73 Try.underlying3 placeInfo placeZ (by omega) g k c (xs.take (k * 35)) (by rw [List.length_take, HXL.out]; have := HKN.out; omega) (fun j u hu => by
      have hu2 : xs[j]? = some u := by
        rw [List.getElem?_take] at hu
        split at hu
        · exact hu
        · cases hu
      refine Z4 hgb ?_
      rw [← hct, List.getElem?_take] at hu2
      split at hu2
      · simpa using hu2
      · cases hu2) d (by have := HKN.out; have := HD.out; omega) (by have := HKN.out; have := HD.out; omega) (by have := HKN.out; have := HD.out; omega) (by simp only [maxLen]; have := HKN.out; have := HD.out; omega) rfl rfl rfl rfl rfl rfl ?_
    intro cap Z w1 hcap hcm hZ hg1 hb1
    rw [HD.out.2.1] at hcap ⊢
    obtain ⟨gn, hgn⟩ : ∃ gn, w.heap.size = gn := ⟨_, rfl⟩
    have HGN := Lib.hid hgn
    rw [hgn] at hg1 ⊢
    have hcap9 : cap ≤ 9223372036854775807 := by simpa [maxLen] using hcm
    have c1 : ¬ (cap = k) := by have := HKN.out; omega
    have c2 : ¬ (cap = K1) := by have := HKN.out; have := HK1.out; omega
    have c3 : (n1 : Int) ≤ cap := by omega
    have c4 : (k : Int) ≤ cap := by have := HKN.out; omega
    have c5 : (K1 : Int) ≤ cap := by have := HKN.out; have := HK1.out; omega
    have c6 : ¬ (c = k) := by have := HKN.out; omega
    have HCAP := Lib.hid (And.intro hcap hcm)
    have hvb1 : w1.heap[vb]? = some (.cells ys.toArray 72 (0, 0)) := by rw [hb1.block vb hvlt]; exact hvb
    clear hgn hcap hcm
    repeat (first | refine Zv ?_ | refine Zc ?_ | refine Zq ?_ | refine Zm ?_ | (first | refine Zb rfl rfl (.inl rfl) rfl rfl ?_ | refine Zb rfl rfl (.inr rfl) rfl rfl ?_ | refine Za rfl rfl (.inl rfl) rfl ?_ | refine Za rfl rfl (.inr rfl) rfl ?_) | ((first | refine Zn rfl rfl rfl fun K hK => ?_ | refine Zh rfl rfl rfl fun K hK => ?_); go_simp; (try go_bits); (first | refine hK _ _ ?_ | refine hK _ ?_); clear hK K))
    have m1 : Nat.min 1 (n1 - k) = 1 := Nat.min_eq_left (by have := HKN.out; omega)
    refine kl_copyN 73 72 35 gn (k * 35) _ _ vb 0 1 1 _ 72 ys Try.underlying73 plcSize hg1 (by rw [hys, m1]) (fun j u hu => by rw [Nat.zero_add]; exact Z4 hvb1 (by rw [List.getElem?_toArray]; exact hu)) (by rw [List.length_append, List.length_take, hZ, hys, HXL.out, Nat.sub_mul]; have := HKN.out; have := HCAP.out; omega) hy1 rfl rfl rfl rfl rfl rfl ?_
    have hg2 := ZQ (cs := ((xs.take (k * 35) ++ Z).take (k * 35) ++ ys ++ (xs.take (k * 35) ++ Z).drop (k * 35 + ys.length)).toArray) hg1
    have hb2 : Below w.heap.size w (w1.setRow gn ((xs.take (k * 35) ++ Z).take (k * 35) ++ ys ++ (xs.take (k * 35) ++ Z).drop (k * 35 + ys.length)).toArray) := ZY hb1 (by rw [HGN.out]; exact Nat.le_refl _) _
    generalize w1.setRow gn ((xs.take (k * 35) ++ Z).take (k * 35) ++ ys ++ (xs.take (k * 35) ++ Z).drop (k * 35 + ys.length)).toArray = w2 at hg2 hb2 ⊢
    clear hg1 hvb1
    repeat (first | refine Zv ?_ | refine Zq ?_ | refine Zm ?_ | (first | refine Zb rfl rfl (.inl rfl) rfl rfl ?_ | refine Zb rfl rfl (.inr rfl) rfl rfl ?_ | refine Za rfl rfl (.inl rfl) rfl ?_ | refine Za rfl rfl (.inr rfl) rfl ?_) | ((first | refine Zn rfl rfl rfl fun K hK => ?_ | refine Zh rfl rfl rfl fun K hK => ?_); go_simp; (try go_bits); (first | refine hK _ _ ?_ | refine hK _ ?_); clear hK K))
    refine ZX (fun _ => True) [true, true, true, true, true, true, true, true, false] (by kernel_rfl) (by kernel_rfl) trivial ?_
    have hg3 : w2.drew.heap[gn]? = _ := hg2
    have hb3 : Below w.heap.size w w2.drew := hb2.drew
    have hsrc3 := YC hsrcx hb3
    generalize w2.drew = w3 at hg3 hb3 hsrc3 ⊢
    clear hg2 hb2
    repeat (first | refine Ym ?_ | refine Yj rfl rfl ?_ | refine ZM rfl rfl rfl rfl ?_ | (first | refine Z5 rfl rfl (.inl rfl) rfl rfl ?_ | refine Z5 rfl rfl (.inr rfl) rfl rfl ?_ | refine Z2 rfl rfl (.inl rfl) rfl ?_ | refine Z2 rfl rfl (.inr rfl) rfl ?_) | (refine Yf rfl rfl rfl ?_; apply Exists.intro; refine And.intro (fun W hW N hN => ?_) ?_; · (go_simp; (try go_bits); exact hN)))
    refine YT ?_
    have m2 : Nat.min (n - k) (n1 - K1) = n - k := Nat.min_eq_left (by have := HKN.out; have := HK1.out; omega)
    have hK35 : K1 * 35 = k * 35 + 35 := by have := HK1.out; omega
    refine kl_copyN 73 72 35 gn (K1 * 35) _ _ g (k * 35) _ _ _ 72 (xs.drop (k * 35)) Try.underlying73 plcSize hg3 (by rw [hdl, m2]) hsrc3 (by
      simp only [List.length_append, List.length_take, List.length_drop, hZ, hys, HXL.out, Nat.sub_mul]
      have := HKN.out; have := HCAP.out; omega) (fun u hu => hx1 u (List.mem_of_mem_drop hu)) rfl rfl rfl (by exact rfl) (by rw [← show (if c = k then (some ⟨g, 0, none⟩ : Option Addr) else some ⟨g, k * 35, none⟩) = some ⟨g, k * 35, none⟩ from if_neg c6]; rfl) rfl ?_
    refine Zq ?_
    refine kq_f trivial ?_
    repeat (first | refine Ym ?_ | refine Yj rfl rfl ?_ | refine ZM rfl rfl rfl rfl ?_ | (first | refine Z5 rfl rfl (.inl rfl) rfl rfl ?_ | refine Z5 rfl rfl (.inr rfl) rfl rfl ?_ | refine Z2 rfl rfl (.inl rfl) rfl ?_ | refine Z2 rfl rfl (.inr rfl) rfl ?_) | (refine Yf rfl rfl rfl ?_; apply Exists.intro; refine And.intro (fun W hW N hN => ?_) ?_; · (go_simp; (try go_bits); exact hN)))
    refine Zm ?_
    have hg4 := ZQ (cs := (((xs.take (k * 35) ++ Z).take (k * 35) ++ ys ++ (xs.take (k * 35) ++ Z).drop (k * 35 + ys.length)).take (K1 * 35) ++ xs.drop (k * 35) ++ ((xs.take (k * 35) ++ Z).take (k * 35) ++ ys ++ (xs.take (k * 35) ++ Z).drop (k * 35 + ys.length)).drop (K1 * 35 + (xs.drop (k * 35)).length)).toArray) hg3
    have hb4 : Below w.heap.size w (w3.setRow gn (((xs.take (k * 35) ++ Z).take (k * 35) ++ ys ++ (xs.take (k * 35) ++ Z).drop (k * 35 + ys.length)).take (K1 * 35) ++ xs.drop (k * 35) ++ ((xs.take (k * 35) ++ Z).take (k * 35) ++ ys ++ (xs.take (k * 35) ++ Z).drop (k * 35 + ys.length)).drop (K1 * 35 + (xs.drop (k * 35)).length)).toArray) := ZY hb3 (by rw [HGN.out]; exact Nat.le_refl _) _
    generalize w3.setRow gn _ = w4 at hg4 hb4 ⊢
    have hn1o := HKN.out.2
    have hgf := grow_fill xs ys Z (k * 35) (n * 35) HXL.out (by omega) hys (by rw [hZ, Nat.sub_mul]; have := HKN.out; have := HCAP.out; omega)
    have hfin : w4.ownsRow base 72 35 (.slice (some ⟨gn, 0, none⟩) n1 cap) n1 (xs.take (k * 35) ++ ys ++ xs.drop (k * 35)) := by
      refine own_made (by rw [← HGN.out]; exact hbase) hg4 HCAP.out.1 HCAP.out.2 ?_ ?_
      · simp only [List.length_append, List.length_take, List.length_drop, hZ, hys, HXL.out, Nat.sub_mul]
        have := HKN.out; have := HCAP.out; have := HK1.out; omega
      · rw [hK35, show n1 * 35 = n * 35 + 35 by omega]; exact hgf
    have hgr : w.grownBy w4 (Value.slice (some ⟨g, 0, none⟩) n c).ownBlock := XI hb4 _
    clear hg3 hb3 hsrc3 hg4 hgf hK35 m1 m2 hsrcx
    repeat (first | refine Zv ?_ | refine Zs ?_ | refine Zu ?_ | refine Zc ?_ | refine Zq ?_ | refine Zm ?_ | refine Zp ?_ | refine Zw ?_ | refine Zf ?_ | refine Zd rfl ?_ | refine Zj rfl ?_ | refine Ze ?_ | refine Z3 ?_ | refine Zk ?_ | refine Zg ?_ | refine Zi ?_ | refine Zy rfl ?_ | refine Zx rfl ?_ | refine Zz rfl rfl ?_ | refine Zt rfl rfl rfl rfl ?_ | refine Zr rfl rfl rfl ?_ | (first | refine Zb rfl rfl (.inl rfl) rfl rfl ?_ | refine Zb rfl rfl (.inr rfl) rfl rfl ?_ | refine Za rfl rfl (.inl rfl) rfl ?_ | refine Za rfl rfl (.inr rfl) rfl ?_) | ((first | refine Zn rfl rfl rfl fun K hK => ?_ | refine Zh rfl rfl rfl fun K hK => ?_); go_simp; (try go_bits); (first | refine hK _ _ ?_ | refine hK _ ?_); clear hK K))
    exact ZE rfl rfl ⟨_, rfl, by rw [hn1o]; exact hfin, hgr, .inr (by rw [HGN.out]; rfl)⟩
  have t2 : decide ((c : Int) < (n1 : Int)) = false := by rw [decide_eq_false_iff_not]; omega
  have t2n : decide (c < n1) = false := decide_eq_false hroom
  have c1 : ¬ (c = k) := by omega
  have c2 : ¬ (c = K1) := by omega
  have c3 : (n1 : Int) ≤ c := by omega
  have c5 : (K1 : Int) ≤ c := by omega
  have hsha : w.shape? vb = some (72, 35) := by unfold World.shape?; rw [hvb]; simp [hys]
  have hshb : w.shape? g = some (72, c * 35) := by unfold World.shape?; rw [hgb]; simp [hcs]
  have hov : ∀ lb cb, (callFunc 79 #[.slice (some ⟨vb, 0, none⟩) 1 1, .slice (some ⟨g, K1 * 35, none⟩) lb cb]).run Try.prog w = .ok (.value (.bool false)) w := fun lb cb => by
    rw [run_callFunc_extern Try.func79 (by kernel_rfl) (by kernel_rfl) (by kernel_rfl) (e := Extern.SlicesOverlaps.overlaps #[73, 73] #[4]) (by kernel_rfl),
      Lib.run_overlaps_apart w 73 4 72 Try.underlying73 35 placeSizeOf ⟨vb, 0, none⟩ ⟨g, K1 * 35, none⟩ 1 1 lb cb (fun h => hgv h.symm) 72 72 35 (c * 35) hsha hshb (by omega) (Z6 hvb) (Z6 hvb)]
    rfl
  have HC := Lib.hid hroom
  clear hroom hkn hkn2 hn1 hK1
  repeat (first | refine Zv ?_ | refine Zc ?_ | refine Zq ?_ | refine Zm ?_ | refine Zy rfl ?_ | refine Zx rfl ?_ | refine Zu ?_ | (first | refine Zb rfl rfl (.inl rfl) rfl rfl ?_ | refine Zb rfl rfl (.inr rfl) rfl rfl ?_ | refine Za rfl rfl (.inl rfl) rfl ?_ | refine Za rfl rfl (.inr rfl) rfl ?_) | ((first | refine Zn rfl rfl rfl fun K hK => ?_ | refine Zh rfl rfl rfl fun K hK => ?_); go_simp; (try go_bits); (first | refine hK _ _ ?_ | refine hK _ ?_); clear hK K))
  refine ZX (fun _ => True) [true, true, true, true, true, true, true, true, false] (by kernel_rfl) (by kernel_rfl) trivial ?_
  have hg2 : w.drew.heap[g]? = some (.cells cur.toList.toArray 72 (0, 0)) := by rw [Array.toArray_toList]; exact hgb
  have hr2 : w.grownBy w.drew (some g) := Xu w 1 _
  have hsrc2 : w.drew.rangeAt g (k * 35) (xs.drop (k * 35)) := hsrcx
  have hv2 : w.drew.heap[vb]? = some (.cells ys.toArray 72 (0, 0)) := hvb
  generalize w.drew = w2 at hg2 hr2 hsrc2 hv2 ⊢
  have hcl : cur.toList.length = c * 35 := by simpa using hcs
  repeat (first | refine Ym ?_ | refine Yj rfl rfl ?_ | refine ZM rfl rfl rfl rfl ?_ | (first | refine Z5 rfl rfl (.inl rfl) rfl rfl ?_ | refine Z5 rfl rfl (.inr rfl) rfl rfl ?_ | refine Z2 rfl rfl (.inl rfl) rfl ?_ | refine Z2 rfl rfl (.inr rfl) rfl ?_) | (refine Yf rfl rfl rfl ?_; apply Exists.intro; refine And.intro (fun W hW N hN => ?_) ?_; · (go_simp; (try go_bits); exact hN)))
  refine YT ?_
  have m2 : Nat.min (n1 - k) (n1 - K1) = n - k := by
    have := HKN.out; have := HK1.out
    exact (Nat.min_eq_right (by omega)).trans (by omega)
  have hK35 : K1 * 35 = k * 35 + 35 := by have := HK1.out; omega
  refine kl_copyN 73 72 35 g (K1 * 35) _ _ g (k * 35) _ _ cur.toList 72 (xs.drop (k * 35)) Try.underlying73 plcSize hg2 (by rw [hdl, m2]) hsrc2 (by
    rw [hdl, hcl, Nat.sub_mul]
    have := HKN.out; have := HC.out; omega) (fun u hu => hx1 u (List.mem_of_mem_drop hu)) rfl rfl rfl rfl rfl rfl ?_
  refine Zq ?_
  refine kq_f trivial ?_
  repeat (first | refine Ym ?_ | refine Yj rfl rfl ?_ | refine ZM rfl rfl rfl rfl ?_ | (first | refine Z5 rfl rfl (.inl rfl) rfl rfl ?_ | refine Z5 rfl rfl (.inr rfl) rfl rfl ?_ | refine Z2 rfl rfl (.inl rfl) rfl ?_ | refine Z2 rfl rfl (.inr rfl) rfl ?_) | (refine Yf rfl rfl rfl ?_; apply Exists.intro; refine And.intro (fun W hW N hN => ?_) ?_; · (go_simp; (try go_bits); exact hN)))
  refine Zm ?_
  obtain ⟨C1, hC1⟩ : ∃ C1, cur.toList.take (K1 * 35) ++ xs.drop (k * 35) ++ cur.toList.drop (K1 * 35 + (xs.drop (k * 35)).length) = C1 := ⟨_, rfl⟩
  rw [hC1]
  have hC1l : C1.length = c * 35 := by
    rw [← hC1]
    simp only [List.length_append, List.length_take, List.length_drop, hcl, HXL.out, Nat.sub_mul]
    have := HKN.out; have := HC.out; have := HK1.out; omega
  have hg3 := ZQ (cs := C1.toArray) hg2
  have hr3 := Z0 hr2 (XM w2 g C1.toArray)
  have hv3 : (w2.setRow g C1.toArray).heap[vb]? = some (.cells ys.toArray 72 (0, 0)) := by rw [setRow_other _ _ _ _ (fun h => hgv h.symm)]; exact hv2
  generalize w2.setRow g C1.toArray = w3 at hg3 hr3 hv3 ⊢
  clear hg2 hr2 hsrc2 hv2 m2
  have m1 : Nat.min 1 (n1 - k) = 1 := Nat.min_eq_left (by have := HKN.out; omega)
  repeat (first | refine Zv ?_ | refine Zc ?_ | refine Zq ?_ | refine Zm ?_ | (first | refine Zb rfl rfl (.inl rfl) rfl rfl ?_ | refine Zb rfl rfl (.inr rfl) rfl rfl ?_ | refine Za rfl rfl (.inl rfl) rfl ?_ | refine Za rfl rfl (.inr rfl) rfl ?_) | ((first | refine Zn rfl rfl rfl fun K hK => ?_ | refine Zh rfl rfl rfl fun K hK => ?_); go_simp; (try go_bits); (first | refine hK _ _ ?_ | refine hK _ ?_); clear hK K))
  refine kl_copyN 73 72 35 g (k * 35) _ _ vb 0 1 1 C1 72 ys Try.underlying73 plcSize hg3 (by rw [hys, m1]) (fun j u hu => by rw [Nat.zero_add]; exact Z4 hv3 (by rw [List.getElem?_toArray]; exact hu)) (by rw [hys, hC1l]; have := HKN.out; have := HC.out; omega) hy1 rfl rfl rfl rfl rfl rfl ?_
  have hg4 := ZQ (cs := (C1.take (k * 35) ++ ys ++ C1.drop (k * 35 + ys.length)).toArray) hg3
  have hr4 := Z0 hr3 (XM w3 g (C1.take (k * 35) ++ ys ++ C1.drop (k * 35 + ys.length)).toArray)
  generalize w3.setRow g (C1.take (k * 35) ++ ys ++ C1.drop (k * 35 + ys.length)).toArray = w4 at hg4 hr4 ⊢
  have hsf := shift_fill cur.toList xs ys (k * 35) (n * 35) hct (by rw [hcl]; have := HKN.out; have := HC.out; omega) (by omega) hys
  rw [← hK35, hC1] at hsf
  have hn1o := HKN.out.2
  have hfin : w4.ownsRow base 72 35 (.slice (some ⟨g, 0, none⟩) n1 c) n1 (xs.take (k * 35) ++ ys ++ xs.drop (k * 35)) := by
    refine own_made hbg hg4 (by have := HC.out; omega) (by simp only [maxLen]; omega) ?_ ?_
    · simp only [List.length_append, List.length_take, List.length_drop, hC1l, hys]
      have := HKN.out; have := HC.out; omega
    · rw [show n1 * 35 = n * 35 + 35 by omega]; exact hsf
  clear hg3 hr3 hv3 hg4 hsf hC1 hC1l m1 hov hsha hshb
  repeat (first | refine Zv ?_ | refine Zs ?_ | refine Zu ?_ | refine Zc ?_ | refine Zq ?_ | refine Zm ?_ | refine Zp ?_ | refine Zw ?_ | refine Zf ?_ | refine Zd rfl ?_ | refine Zj rfl ?_ | refine Ze ?_ | refine Z3 ?_ | refine Zk ?_ | refine Zg ?_ | refine Zi ?_ | refine Zy rfl ?_ | refine Zx rfl ?_ | refine Zz rfl rfl ?_ | refine Zt rfl rfl rfl rfl ?_ | refine Zr rfl rfl rfl ?_ | (first | refine Zb rfl rfl (.inl rfl) rfl rfl ?_ | refine Zb rfl rfl (.inr rfl) rfl rfl ?_ | refine Za rfl rfl (.inl rfl) rfl ?_ | refine Za rfl rfl (.inr rfl) rfl ?_) | ((first | refine Zn rfl rfl rfl fun K hK => ?_ | refine Zh rfl rfl rfl fun K hK => ?_); go_simp; (try go_bits); (first | refine hK _ _ ?_ | refine hK _ ?_); clear hK K))
  exact ZE rfl rfl ⟨_, rfl, by rw [hn1o]; exact hfin, hr4, .inl rfl⟩
end Go.Proofs.Ytkncomkncfcecaa
